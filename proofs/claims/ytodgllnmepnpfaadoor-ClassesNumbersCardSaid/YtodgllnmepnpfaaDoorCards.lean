/-
  DERIVED. GIVEN WITH THE SEED: THE CARDS: each row of YtodgllnmepnpfaaDoorRows.lean that lists a variable, with what it lists TIED to the program's text (the seventh form; the later family's looks); each row that meets fmt, with fmt's text TOLD by the authors' own Lean function (tested against real Go, not proved from fmt's source: count such statements apart). THE CARD IS WHAT COUNTS. Prove the row's statement (the work); the ties are given (YtodgllnmepnpfaaDoorTie.lean); close each card by the builder's one call (the guide's Derived/Test/ToyasCard.lean, 'card_holds'). Laid BY PROGRAM, IN A SANDBOX (cutbox-door.mjs). By AI agents, Wed Nov 11 2026. No macro, syntax, notation, axiom, sorry.
-/
import Derived.Test.YtodgllnmepnpfaaDoorRows
import GoSem.ClaimSeven
namespace Go.Proofs.YtodgllnmepnpfaaDoor
namespace Rows

/-- THE TIED CARD OF 'tesseralaw4.ClassesNumbers'. -/
def classesNumbersCard : Claim7 := { stood := { row := classesNumbersRow, standIns := [], harness := (true, "d5f5d8000c6f0b79b7170ca3bcae61cf38f64539f41c6864bea68796874af6d5"), looks := false }, kinds := [], alts := [], laidByText := true, laidKinds := [.data, .pinned], laidTests := true, laidLooks := .later }
def ClassesNumbersCardSaid : Prop := Claim7.holds Tryd.pinned (.plain (OpenSpec.ofChange classesNumbersSpec)) classesNumbersCard

/-- THE TIED CARD OF 'tesseralaw4.ClassesRuns'. -/
def classesRunsCard : Claim7 := { stood := { row := classesRunsRow, standIns := [], harness := (true, "d5f5d8000c6f0b79b7170ca3bcae61cf38f64539f41c6864bea68796874af6d5"), looks := false }, kinds := [], alts := [], laidByText := true, laidKinds := [.data, .pinned], laidTests := true, laidLooks := .later }
def ClassesRunsCardSaid : Prop := Claim7.holds Tryd.pinned (.plain (OpenSpec.ofChange classesRunsSpec)) classesRunsCard

/-- THE TIED CARD OF 'tesseralaw4.ClassesWhole'. -/
def classesWholeCard : Claim7 := { stood := { row := classesWholeRow, standIns := [], harness := (true, "d5f5d8000c6f0b79b7170ca3bcae61cf38f64539f41c6864bea68796874af6d5"), looks := false }, kinds := [], alts := [], laidByText := true, laidKinds := [.data, .pinned], laidTests := true, laidLooks := .later }
def ClassesWholeCardSaid : Prop := Claim7.holds Tryd.pinned (.plain (OpenSpec.ofChange classesWholeSpec)) classesWholeCard

/-- THE SECOND FORM's CARD OF 'tesseralaw4.ClassesNumbers'. -/
def classesNumbersUptoCard : Claim7 := { stood := { row := classesNumbersUptoRow, standIns := [], harness := (true, "d5f5d8000c6f0b79b7170ca3bcae61cf38f64539f41c6864bea68796874af6d5"), looks := false }, kinds := [], alts := [], laidByText := true, laidKinds := [.data, .pinned], laidTests := true, laidLooks := .later }
def ClassesNumbersUptoCardSaid : Prop := Claim7.holds Tryd.pinned (.plain (OpenSpec.upto classesNumbersSpec)) classesNumbersUptoCard

/-- THE SECOND FORM's CARD OF 'tesseralaw4.ClassesRuns'. -/
def classesRunsUptoCard : Claim7 := { stood := { row := classesRunsUptoRow, standIns := [], harness := (true, "d5f5d8000c6f0b79b7170ca3bcae61cf38f64539f41c6864bea68796874af6d5"), looks := false }, kinds := [], alts := [], laidByText := true, laidKinds := [.data, .pinned], laidTests := true, laidLooks := .later }
def ClassesRunsUptoCardSaid : Prop := Claim7.holds Tryd.pinned (.plain (OpenSpec.upto classesRunsSpec)) classesRunsUptoCard

/-- THE SECOND FORM's CARD OF 'tesseralaw4.ClassesWhole'. -/
def classesWholeUptoCard : Claim7 := { stood := { row := classesWholeUptoRow, standIns := [], harness := (true, "d5f5d8000c6f0b79b7170ca3bcae61cf38f64539f41c6864bea68796874af6d5"), looks := false }, kinds := [], alts := [], laidByText := true, laidKinds := [.data, .pinned], laidTests := true, laidLooks := .later }
def ClassesWholeUptoCardSaid : Prop := Claim7.holds Tryd.pinned (.plain (OpenSpec.upto classesWholeSpec)) classesWholeUptoCard
end Rows
end Go.Proofs.YtodgllnmepnpfaaDoor
