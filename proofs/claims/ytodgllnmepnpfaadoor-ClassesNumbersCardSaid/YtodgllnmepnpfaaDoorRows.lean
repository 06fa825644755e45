/-
  NARROWER THAN 'FOR EVERY INPUT', by the rows' own cells (each row's printed sentence says how): ClassesNumbers: laid · ClassesRuns: laid · ClassesWhole: laid.
  DERIVED. THE GIVEN ROWS OF THIS SEAT. 3 by the template 'for every input the law returns true; each argument reads behind the call as it read before'; 0 by the template 'total and deterministic' (their statements: YtodgllnmepnpfaaDoorTotals.lean).
  GIVEN WITH THE SEED: the statements are not yours to turn. If you find one false, say at which input.
  Laid BY PROGRAM, IN A SANDBOX (cutbox-rows.mjs): the forced cells as the released guide's own fill.sh prints them over the translation cbea53659d8bc7f7… (all of the seat's roots in one cut). By AI agents, Wed Nov 11 2026. No macro, syntax, notation, axiom, sorry.
-/
import Derived.Test.YtodgllnmepnpfaaDoorChecked
import GoSem.PinnedTables
import GoSem.Claim
import GoSem.ClaimJoined
import GoSem.ClaimMapViews
import Derived.JoinedTies
import Derived.KernelRfl
namespace Go.Proofs.YtodgllnmepnpfaaDoor
/- THE CELL 'sum', in the pinned program and in every row, IS THE sha256 OF THE DUMP (.gsa) THAT YtodgllnmepnpfaaDoorProg.lean LOADS. Nothing in Lean hashes anything: it is a label: what it is worth is what the hold of that sum in a sandbox is worth. -/
noncomputable def Tryd.pinned : Pinned := { name := "ytodgllnmepnpfaadoor", sum := "cbea53659d8bc7f788d8bb8e43c91c7719ea95310af866259a81468914f0ebd1", checked := Tryd.checked }
namespace Rows
def none {H : Type} : Left H := { results := [], args := [] }

/- WHAT THE LISTED PACKAGE-LEVEL VARIABLES READ AS WHEN THE CALL BEGINS. Each datum BY PROGRAM (the guide's laid-datum.mjs) off the statement by which the dump's own 'gosem.cut.vars' lays the variable. In a bare row this is a premise. The card (YtodgllnmepnpfaaDoorCards.lean) ties it to the program's text. -/
def laid_unicode_utf8_acceptRanges {H : Type} : DataW H := .agg [.agg [.lit (.int .u8 128), .lit (.int .u8 191)], .agg [.lit (.int .u8 160), .lit (.int .u8 191)], .agg [.lit (.int .u8 128), .lit (.int .u8 159)], .agg [.lit (.int .u8 144), .lit (.int .u8 191)], .agg [.lit (.int .u8 128), .lit (.int .u8 143)], .agg [.lit (.int .u8 0), .lit (.int .u8 0)], .agg [.lit (.int .u8 0), .lit (.int .u8 0)], .agg [.lit (.int .u8 0), .lit (.int .u8 0)], .agg [.lit (.int .u8 0), .lit (.int .u8 0)], .agg [.lit (.int .u8 0), .lit (.int .u8 0)], .agg [.lit (.int .u8 0), .lit (.int .u8 0)], .agg [.lit (.int .u8 0), .lit (.int .u8 0)], .agg [.lit (.int .u8 0), .lit (.int .u8 0)], .agg [.lit (.int .u8 0), .lit (.int .u8 0)], .agg [.lit (.int .u8 0), .lit (.int .u8 0)], .agg [.lit (.int .u8 0), .lit (.int .u8 0)]]
/-- One of Go's own tables, pinned by name: the form's constant. -/
def laid_unicode_utf8_first : DataW Unit := Go.Pinned.utf8First

/-- 'tesseralaw4.ClassesNumbers': WHATEVER THE INPUT: true; the input reads as it did. -/
def classesNumbersSpec : ChangeSpec := { name := "classesNumbers", fn := fun _ => fun
  | [] => { results := [.lit (.bool true)], args := [] }
  | _ => none }
def classesNumbersRow : OpenClaim := { program := "ytodgllnmepnpfaadoor", sum := "cbea53659d8bc7f788d8bb8e43c91c7719ea95310af866259a81468914f0ebd1", func := "tessera/tesseralaw4.ClassesNumbers", spec := "classesNumbers", unfollowed := true, recurses := true, named := ["unicode/utf8.first", "unicode/utf8.acceptRanges"], apart := false, laid := [("unicode/utf8.acceptRanges", laid_unicode_utf8_acceptRanges), ("unicode/utf8.first", laid_unicode_utf8_first)] }
def ClassesNumbersSaid : Prop := classesNumbersRow.holds Tryd.pinned (OpenSpec.ofChange classesNumbersSpec)

/-- ITS FALSE NEIGHBOUR: 'it returns false'. Refute it at one input. -/
def classesNumbersWrong : ChangeSpec := { name := "classesNumbers", fn := fun _ => fun
  | [] => { results := [.lit (.bool false)], args := [] }
  | _ => none }
def ClassesNumbersWrongFalsely : Prop := classesNumbersRow.holds Tryd.pinned (OpenSpec.ofChange classesNumbersWrong)

/-- 'tesseralaw4.ClassesRuns': WHATEVER THE INPUT: true; the input reads as it did. -/
def classesRunsSpec : ChangeSpec := { name := "classesRuns", fn := fun _ => fun
  | [d1, d2, d3] => { results := [.lit (.bool true)], args := [d1, d2, d3] }
  | _ => none }
def classesRunsRow : OpenClaim := { program := "ytodgllnmepnpfaadoor", sum := "cbea53659d8bc7f788d8bb8e43c91c7719ea95310af866259a81468914f0ebd1", func := "tessera/tesseralaw4.ClassesRuns", spec := "classesRuns", unfollowed := true, recurses := true, named := ["unicode/utf8.first", "unicode/utf8.acceptRanges"], apart := false, laid := [("unicode/utf8.acceptRanges", laid_unicode_utf8_acceptRanges), ("unicode/utf8.first", laid_unicode_utf8_first)] }
def ClassesRunsSaid : Prop := classesRunsRow.holds Tryd.pinned (OpenSpec.ofChange classesRunsSpec)

/-- ITS FALSE NEIGHBOUR: 'it returns false'. Refute it at one input. -/
def classesRunsWrong : ChangeSpec := { name := "classesRuns", fn := fun _ => fun
  | [d1, d2, d3] => { results := [.lit (.bool false)], args := [d1, d2, d3] }
  | _ => none }
def ClassesRunsWrongFalsely : Prop := classesRunsRow.holds Tryd.pinned (OpenSpec.ofChange classesRunsWrong)

/-- 'tesseralaw4.ClassesWhole': WHATEVER THE INPUT: true; the input reads as it did. -/
def classesWholeSpec : ChangeSpec := { name := "classesWhole", fn := fun _ => fun
  | [d1, d2] => { results := [.lit (.bool true)], args := [d1, d2] }
  | _ => none }
def classesWholeRow : OpenClaim := { program := "ytodgllnmepnpfaadoor", sum := "cbea53659d8bc7f788d8bb8e43c91c7719ea95310af866259a81468914f0ebd1", func := "tessera/tesseralaw4.ClassesWhole", spec := "classesWhole", unfollowed := true, recurses := true, named := ["unicode/utf8.first", "unicode/utf8.acceptRanges"], apart := false, laid := [("unicode/utf8.acceptRanges", laid_unicode_utf8_acceptRanges), ("unicode/utf8.first", laid_unicode_utf8_first)] }
def ClassesWholeSaid : Prop := classesWholeRow.holds Tryd.pinned (OpenSpec.ofChange classesWholeSpec)

/-- ITS FALSE NEIGHBOUR: 'it returns false'. Refute it at one input. -/
def classesWholeWrong : ChangeSpec := { name := "classesWhole", fn := fun _ => fun
  | [d1, d2] => { results := [.lit (.bool false)], args := [d1, d2] }
  | _ => none }
def ClassesWholeWrongFalsely : Prop := classesWholeRow.holds Tryd.pinned (OpenSpec.ofChange classesWholeWrong)

/- THE SECOND FORM. 'bulk': how many values and letters a reading holds, each counted each time it is reached (what is shared counts as often as it is met; a slice's spare places count too). A statement '..UptoSaid' is the law's where the arguments, and the package variables that the reading takes, are together of bulk at most 1048576: NARROWER than '..Said'. Prove '..Said' where nothing that the law and all that it calls make is longer than what came in: it says more and counts as full. Else prove '..UptoSaid'. A law counts once. -/
mutual
def uptoBulk {H : Type} : DataW H → Nat
  | .lit (.string bytes) => bytes.length + 1
  | .lit _ => 1
  | .nil => 1
  | .ptr d => uptoBulk d + 1
  | .slice elems spare => uptoBulkAll elems + uptoBulkAll spare + 1
  | .agg parts => uptoBulkAll parts + 1
  | .iface _ d => uptoBulk d + 1
  | .map entries => uptoBulkEntries entries + 1
  | .held _ => 1
def uptoBulkAll {H : Type} : List (DataW H) → Nat
  | [] => 0
  | d :: r => uptoBulk d + uptoBulkAll r
def uptoBulkEntries {H : Type} : List (Lit × DataW H) → Nat
  | [] => 0
  | x :: r => uptoBulkEntry x + uptoBulkEntries r
def uptoBulkEntry {H : Type} : Lit × DataW H → Nat
  | (.string bytes, d) => bytes.length + uptoBulk d + 1
  | (_, d) => uptoBulk d + 1
 end
def uptoSmall : (H : Type) → List (DataW H) → Bool := fun _ ds => decide (uptoBulkAll ds ≤ 1048576)
def OpenSpec.upto (s : _root_.Go.ChangeSpec) : _root_.Go.OpenSpec := { _root_.Go.OpenSpec.ofChange s with cond := some uptoSmall }

/-- 'tesseralaw4.ClassesNumbers', WHERE WHAT IT READS IS OF BULK AT MOST 1048576: true; the input reads as it did. -/
def classesNumbersUptoRow : OpenClaim := { program := "ytodgllnmepnpfaadoor", sum := "cbea53659d8bc7f788d8bb8e43c91c7719ea95310af866259a81468914f0ebd1", func := "tessera/tesseralaw4.ClassesNumbers", spec := "classesNumbers", unfollowed := true, recurses := true, named := ["unicode/utf8.first", "unicode/utf8.acceptRanges"], apart := false, laid := [("unicode/utf8.acceptRanges", laid_unicode_utf8_acceptRanges), ("unicode/utf8.first", laid_unicode_utf8_first)], narrowed := true }
def ClassesNumbersUptoSaid : Prop := classesNumbersUptoRow.holds Tryd.pinned (OpenSpec.upto classesNumbersSpec)

/-- 'tesseralaw4.ClassesRuns', WHERE WHAT IT READS IS OF BULK AT MOST 1048576: true; the input reads as it did. -/
def classesRunsUptoRow : OpenClaim := { program := "ytodgllnmepnpfaadoor", sum := "cbea53659d8bc7f788d8bb8e43c91c7719ea95310af866259a81468914f0ebd1", func := "tessera/tesseralaw4.ClassesRuns", spec := "classesRuns", unfollowed := true, recurses := true, named := ["unicode/utf8.first", "unicode/utf8.acceptRanges"], apart := false, laid := [("unicode/utf8.acceptRanges", laid_unicode_utf8_acceptRanges), ("unicode/utf8.first", laid_unicode_utf8_first)], narrowed := true }
def ClassesRunsUptoSaid : Prop := classesRunsUptoRow.holds Tryd.pinned (OpenSpec.upto classesRunsSpec)

/-- 'tesseralaw4.ClassesWhole', WHERE WHAT IT READS IS OF BULK AT MOST 1048576: true; the input reads as it did. -/
def classesWholeUptoRow : OpenClaim := { program := "ytodgllnmepnpfaadoor", sum := "cbea53659d8bc7f788d8bb8e43c91c7719ea95310af866259a81468914f0ebd1", func := "tessera/tesseralaw4.ClassesWhole", spec := "classesWhole", unfollowed := true, recurses := true, named := ["unicode/utf8.first", "unicode/utf8.acceptRanges"], apart := false, laid := [("unicode/utf8.acceptRanges", laid_unicode_utf8_acceptRanges), ("unicode/utf8.first", laid_unicode_utf8_first)], narrowed := true }
def ClassesWholeUptoSaid : Prop := classesWholeUptoRow.holds Tryd.pinned (OpenSpec.upto classesWholeSpec)

end Rows
end Go.Proofs.YtodgllnmepnpfaaDoor
