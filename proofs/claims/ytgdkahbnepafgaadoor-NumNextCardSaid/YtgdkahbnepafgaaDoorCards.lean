/-
  DERIVED. GIVEN WITH THE SEED: THE CARDS: each row of YtgdkahbnepafgaaDoorRows.lean that lists a variable, with what it lists TIED to the program's text (the seventh form; the later family's looks); each row that meets fmt, with fmt's text TOLD by the authors' own Lean function (tested against real Go, not proved from fmt's source: count such statements apart). THE CARD IS WHAT COUNTS. Prove the row's statement (the work); the ties are given (YtgdkahbnepafgaaDoorTie.lean); close each card by the builder's one call (the guide's Derived/Test/ToyasCard.lean, 'card_holds'). Laid BY PROGRAM, IN A SANDBOX (cutbox-door.mjs). By AI agents, Wed Nov 11 2026. No macro, syntax, notation, axiom, sorry.
-/
import Derived.Test.YtgdkahbnepafgaaDoorRows
import GoSem.ClaimSeven
namespace Go.Proofs.YtgdkahbnepafgaaDoor
namespace Rows

/-- THE TIED CARD OF 'straightedgelaw27.SureBackward'. -/
def sureBackwardCard : Claim7 := { stood := { row := sureBackwardRow, standIns := [], harness := (true, "cbbf11a7c464fe3f879f9b414d4b17e5d7ed4a9d1aebcc563ae303bf33da4689"), looks := false }, kinds := [], alts := [], laidByText := true, laidKinds := [.data], laidTests := true, laidLooks := .later }
def SureBackwardCardSaid : Prop := Claim7.holds Tryd.pinned (.plain (OpenSpec.ofChange sureBackwardSpec)) sureBackwardCard

/-- THE TIED CARD OF 'straightedgelaw01.NumTells'. -/
def numTellsCard : Claim7 := { stood := { row := numTellsRow, standIns := [], harness := (true, "cbbf11a7c464fe3f879f9b414d4b17e5d7ed4a9d1aebcc563ae303bf33da4689"), looks := false }, kinds := [], alts := [], laidByText := true, laidKinds := [.data, .data, .data], laidTests := true, laidLooks := .later }
def NumTellsCardSaid : Prop := Claim7.holds Tryd.pinned (.plain (OpenSpec.ofChange numTellsSpec)) numTellsCard

/-- THE TIED CARD OF 'straightedgelaw01.NumBack'. -/
def numBackCard : Claim7 := { stood := { row := numBackRow, standIns := [], harness := (true, "cbbf11a7c464fe3f879f9b414d4b17e5d7ed4a9d1aebcc563ae303bf33da4689"), looks := false }, kinds := [], alts := [], laidByText := true, laidKinds := [.data, .data, .data], laidTests := true, laidLooks := .later }
def NumBackCardSaid : Prop := Claim7.holds Tryd.pinned (.plain (OpenSpec.ofChange numBackSpec)) numBackCard

/-- THE TIED CARD OF 'straightedgelaw01.NumScales'. -/
def numScalesCard : Claim7 := { stood := { row := numScalesRow, standIns := [], harness := (true, "cbbf11a7c464fe3f879f9b414d4b17e5d7ed4a9d1aebcc563ae303bf33da4689"), looks := false }, kinds := [], alts := [], laidByText := true, laidKinds := [.data, .data, .data], laidTests := true, laidLooks := .later }
def NumScalesCardSaid : Prop := Claim7.holds Tryd.pinned (.plain (OpenSpec.ofChange numScalesSpec)) numScalesCard

/-- THE TIED CARD OF 'straightedgelaw27.SureResults'. -/
def sureResultsCard : Claim7 := { stood := { row := sureResultsRow, standIns := [], harness := (true, "cbbf11a7c464fe3f879f9b414d4b17e5d7ed4a9d1aebcc563ae303bf33da4689"), looks := false }, kinds := [], alts := [], laidByText := true, laidKinds := [.data], laidTests := true, laidLooks := .later }
def SureResultsCardSaid : Prop := Claim7.holds Tryd.pinned (.plain (OpenSpec.ofChange sureResultsSpec)) sureResultsCard

/-- THE TIED CARD OF 'straightedgelaw01.NumNext'. -/
def numNextCard : Claim7 := { stood := { row := numNextRow, standIns := [], harness := (true, "cbbf11a7c464fe3f879f9b414d4b17e5d7ed4a9d1aebcc563ae303bf33da4689"), looks := false }, kinds := [], alts := [], laidByText := true, laidKinds := [.data, .data, .data], laidTests := true, laidLooks := .later }
def NumNextCardSaid : Prop := Claim7.holds Tryd.pinned (.plain (OpenSpec.ofChange numNextSpec)) numNextCard

/-- THE TIED CARD OF 'straightedgelaw27.SureFactors'. -/
def sureFactorsCard : Claim7 := { stood := { row := sureFactorsRow, standIns := [], harness := (true, "cbbf11a7c464fe3f879f9b414d4b17e5d7ed4a9d1aebcc563ae303bf33da4689"), looks := false }, kinds := [], alts := [], laidByText := true, laidKinds := [.data], laidTests := true, laidLooks := .later }
def SureFactorsCardSaid : Prop := Claim7.holds Tryd.pinned (.plain (OpenSpec.ofChange sureFactorsSpec)) sureFactorsCard

/-- THE TIED CARD OF 'straightedgelaw02.DyadInts'. -/
def dyadIntsCard : Claim7 := { stood := { row := dyadIntsRow, standIns := [], harness := (true, "cbbf11a7c464fe3f879f9b414d4b17e5d7ed4a9d1aebcc563ae303bf33da4689"), looks := false }, kinds := [], alts := [], laidByText := true, laidKinds := [.data, .data, .data], laidTests := true, laidLooks := .later }
def DyadIntsCardSaid : Prop := Claim7.holds Tryd.pinned (.plain (OpenSpec.ofChange dyadIntsSpec)) dyadIntsCard

/-- THE SECOND FORM's CARD OF 'straightedgelaw27.SureBackward'. -/
def sureBackwardUptoCard : Claim7 := { stood := { row := sureBackwardUptoRow, standIns := [], harness := (true, "cbbf11a7c464fe3f879f9b414d4b17e5d7ed4a9d1aebcc563ae303bf33da4689"), looks := false }, kinds := [], alts := [], laidByText := true, laidKinds := [.data], laidTests := true, laidLooks := .later }
def SureBackwardUptoCardSaid : Prop := Claim7.holds Tryd.pinned (.plain (OpenSpec.upto sureBackwardSpec)) sureBackwardUptoCard

/-- THE SECOND FORM's CARD OF 'straightedgelaw01.NumTells'. -/
def numTellsUptoCard : Claim7 := { stood := { row := numTellsUptoRow, standIns := [], harness := (true, "cbbf11a7c464fe3f879f9b414d4b17e5d7ed4a9d1aebcc563ae303bf33da4689"), looks := false }, kinds := [], alts := [], laidByText := true, laidKinds := [.data, .data, .data], laidTests := true, laidLooks := .later }
def NumTellsUptoCardSaid : Prop := Claim7.holds Tryd.pinned (.plain (OpenSpec.upto numTellsSpec)) numTellsUptoCard

/-- THE SECOND FORM's CARD OF 'straightedgelaw01.NumBack'. -/
def numBackUptoCard : Claim7 := { stood := { row := numBackUptoRow, standIns := [], harness := (true, "cbbf11a7c464fe3f879f9b414d4b17e5d7ed4a9d1aebcc563ae303bf33da4689"), looks := false }, kinds := [], alts := [], laidByText := true, laidKinds := [.data, .data, .data], laidTests := true, laidLooks := .later }
def NumBackUptoCardSaid : Prop := Claim7.holds Tryd.pinned (.plain (OpenSpec.upto numBackSpec)) numBackUptoCard

/-- THE SECOND FORM's CARD OF 'straightedgelaw01.NumScales'. -/
def numScalesUptoCard : Claim7 := { stood := { row := numScalesUptoRow, standIns := [], harness := (true, "cbbf11a7c464fe3f879f9b414d4b17e5d7ed4a9d1aebcc563ae303bf33da4689"), looks := false }, kinds := [], alts := [], laidByText := true, laidKinds := [.data, .data, .data], laidTests := true, laidLooks := .later }
def NumScalesUptoCardSaid : Prop := Claim7.holds Tryd.pinned (.plain (OpenSpec.upto numScalesSpec)) numScalesUptoCard

/-- THE SECOND FORM's CARD OF 'straightedgelaw27.SureResults'. -/
def sureResultsUptoCard : Claim7 := { stood := { row := sureResultsUptoRow, standIns := [], harness := (true, "cbbf11a7c464fe3f879f9b414d4b17e5d7ed4a9d1aebcc563ae303bf33da4689"), looks := false }, kinds := [], alts := [], laidByText := true, laidKinds := [.data], laidTests := true, laidLooks := .later }
def SureResultsUptoCardSaid : Prop := Claim7.holds Tryd.pinned (.plain (OpenSpec.upto sureResultsSpec)) sureResultsUptoCard

/-- THE SECOND FORM's CARD OF 'straightedgelaw01.NumNext'. -/
def numNextUptoCard : Claim7 := { stood := { row := numNextUptoRow, standIns := [], harness := (true, "cbbf11a7c464fe3f879f9b414d4b17e5d7ed4a9d1aebcc563ae303bf33da4689"), looks := false }, kinds := [], alts := [], laidByText := true, laidKinds := [.data, .data, .data], laidTests := true, laidLooks := .later }
def NumNextUptoCardSaid : Prop := Claim7.holds Tryd.pinned (.plain (OpenSpec.upto numNextSpec)) numNextUptoCard

/-- THE SECOND FORM's CARD OF 'straightedgelaw27.SureFactors'. -/
def sureFactorsUptoCard : Claim7 := { stood := { row := sureFactorsUptoRow, standIns := [], harness := (true, "cbbf11a7c464fe3f879f9b414d4b17e5d7ed4a9d1aebcc563ae303bf33da4689"), looks := false }, kinds := [], alts := [], laidByText := true, laidKinds := [.data], laidTests := true, laidLooks := .later }
def SureFactorsUptoCardSaid : Prop := Claim7.holds Tryd.pinned (.plain (OpenSpec.upto sureFactorsSpec)) sureFactorsUptoCard

/-- THE SECOND FORM's CARD OF 'straightedgelaw02.DyadInts'. -/
def dyadIntsUptoCard : Claim7 := { stood := { row := dyadIntsUptoRow, standIns := [], harness := (true, "cbbf11a7c464fe3f879f9b414d4b17e5d7ed4a9d1aebcc563ae303bf33da4689"), looks := false }, kinds := [], alts := [], laidByText := true, laidKinds := [.data, .data, .data], laidTests := true, laidLooks := .later }
def DyadIntsUptoCardSaid : Prop := Claim7.holds Tryd.pinned (.plain (OpenSpec.upto dyadIntsSpec)) dyadIntsUptoCard
end Rows
end Go.Proofs.YtgdkahbnepafgaaDoor
