/-
  No cell of these rows narrows 'for every input' (looked for: loops, veiled, ifaces, maps, wideKeys, modest, calm, conditions, laid).
  DERIVED. THE GIVEN ROWS OF THIS SEAT. 11 by the template 'for every input the law returns true; each argument reads behind the call as it read before'; 0 by the template 'total and deterministic' (their statements: YtjjfnepmnjjemaaTotals.lean).
  GIVEN WITH THE SEED: the statements are not yours to turn. If you find one false, say at which input.
  Laid BY PROGRAM, IN A SANDBOX (cutbox-rows.mjs): the forced cells as the released guide's own fill.sh prints them over the translation 204eb00cd537841d… (all of the seat's roots in one cut). By AI agents, Wed Nov 11 2026. No macro, syntax, notation, axiom, sorry.
-/
import Derived.Test.YtjjfnepmnjjemaaChecked
import GoSem.Claim
import GoSem.ClaimJoined
import GoSem.ClaimMapViews
import Derived.JoinedTies
import Derived.KernelRfl
namespace Go.Proofs.Ytjjfnepmnjjemaa
/- THE CELL 'sum', in the pinned program and in every row, IS THE sha256 OF THE DUMP (.gsa) THAT YtjjfnepmnjjemaaProg.lean LOADS. Nothing in Lean hashes anything: it is a label: what it is worth is what the hold of that sum in a sandbox is worth. -/
noncomputable def Try.pinned : Pinned := { name := "ytjjfnepmnjjemaa", sum := "204eb00cd537841d3e70f1075ba1c1dde389fa237e06fe916ce66d151549bb11", checked := Try.checked }
namespace Rows
def none {H : Type} : Left H := { results := [], args := [] }

/-- 'tesseralaw16.RingNumbers': WHATEVER THE INPUT: true; the input reads as it did. -/
def ringNumbersSpec : ChangeSpec := { name := "ringNumbers", fn := fun _ => fun
  | [] => { results := [.lit (.bool true)], args := [] }
  | _ => none }
def ringNumbersRow : OpenClaim := { program := "ytjjfnepmnjjemaa", sum := "204eb00cd537841d3e70f1075ba1c1dde389fa237e06fe916ce66d151549bb11", func := "tessera/tesseralaw16.RingNumbers", spec := "ringNumbers", apart := false }
def RingNumbersSaid : Prop := ringNumbersRow.holds Try.pinned (OpenSpec.ofChange ringNumbersSpec)

/-- ITS FALSE NEIGHBOUR: 'it returns false'. Refute it at one input. -/
def ringNumbersWrong : ChangeSpec := { name := "ringNumbers", fn := fun _ => fun
  | [] => { results := [.lit (.bool false)], args := [] }
  | _ => none }
def RingNumbersWrongFalsely : Prop := ringNumbersRow.holds Try.pinned (OpenSpec.ofChange ringNumbersWrong)

/-- 'tesseralaw16.RingPlays': WHATEVER THE INPUT: true; the input reads as it did. -/
def ringPlaysSpec : ChangeSpec := { name := "ringPlays", fn := fun _ => fun
  | [d1, d2] => { results := [.lit (.bool true)], args := [d1, d2] }
  | _ => none }
def ringPlaysRow : OpenClaim := { program := "ytjjfnepmnjjemaa", sum := "204eb00cd537841d3e70f1075ba1c1dde389fa237e06fe916ce66d151549bb11", func := "tessera/tesseralaw16.RingPlays", spec := "ringPlays", apart := false }
def RingPlaysSaid : Prop := ringPlaysRow.holds Try.pinned (OpenSpec.ofChange ringPlaysSpec)

/-- ITS FALSE NEIGHBOUR: 'it returns false'. Refute it at one input. -/
def ringPlaysWrong : ChangeSpec := { name := "ringPlays", fn := fun _ => fun
  | [d1, d2] => { results := [.lit (.bool false)], args := [d1, d2] }
  | _ => none }
def RingPlaysWrongFalsely : Prop := ringPlaysRow.holds Try.pinned (OpenSpec.ofChange ringPlaysWrong)

/-- 'tesseralaw16.RingThrough': WHATEVER THE INPUT: true; the input reads as it did. -/
def ringThroughSpec : ChangeSpec := { name := "ringThrough", fn := fun _ => fun
  | [d1, d2, d3, d4] => { results := [.lit (.bool true)], args := [d1, d2, d3, d4] }
  | _ => none }
def ringThroughRow : OpenClaim := { program := "ytjjfnepmnjjemaa", sum := "204eb00cd537841d3e70f1075ba1c1dde389fa237e06fe916ce66d151549bb11", func := "tessera/tesseralaw16.RingThrough", spec := "ringThrough", apart := false }
def RingThroughSaid : Prop := ringThroughRow.holds Try.pinned (OpenSpec.ofChange ringThroughSpec)

/-- ITS FALSE NEIGHBOUR: 'it returns false'. Refute it at one input. -/
def ringThroughWrong : ChangeSpec := { name := "ringThrough", fn := fun _ => fun
  | [d1, d2, d3, d4] => { results := [.lit (.bool false)], args := [d1, d2, d3, d4] }
  | _ => none }
def RingThroughWrongFalsely : Prop := ringThroughRow.holds Try.pinned (OpenSpec.ofChange ringThroughWrong)

/-- 'tesseralaw16.RingKept': WHATEVER THE INPUT: true; the input reads as it did. -/
def ringKeptSpec : ChangeSpec := { name := "ringKept", fn := fun _ => fun
  | [d] => { results := [.lit (.bool true)], args := [d] }
  | _ => none }
def ringKeptRow : OpenClaim := { program := "ytjjfnepmnjjemaa", sum := "204eb00cd537841d3e70f1075ba1c1dde389fa237e06fe916ce66d151549bb11", func := "tessera/tesseralaw16.RingKept", spec := "ringKept", unfollowed := true, recurses := true, apart := false }
def RingKeptSaid : Prop := ringKeptRow.holds Try.pinned (OpenSpec.ofChange ringKeptSpec)

/-- ITS FALSE NEIGHBOUR: 'it returns false'. Refute it at one input. -/
def ringKeptWrong : ChangeSpec := { name := "ringKept", fn := fun _ => fun
  | [d] => { results := [.lit (.bool false)], args := [d] }
  | _ => none }
def RingKeptWrongFalsely : Prop := ringKeptRow.holds Try.pinned (OpenSpec.ofChange ringKeptWrong)

/-- 'tesseralaw1.OctetSums': WHATEVER THE INPUT: true; the input reads as it did. -/
def octetSumsSpec : ChangeSpec := { name := "octetSums", fn := fun _ => fun
  | [d] => { results := [.lit (.bool true)], args := [d] }
  | _ => none }
def octetSumsRow : OpenClaim := { program := "ytjjfnepmnjjemaa", sum := "204eb00cd537841d3e70f1075ba1c1dde389fa237e06fe916ce66d151549bb11", func := "tessera/tesseralaw1.OctetSums", spec := "octetSums", apart := false }
def OctetSumsSaid : Prop := octetSumsRow.holds Try.pinned (OpenSpec.ofChange octetSumsSpec)

/-- ITS FALSE NEIGHBOUR: 'it returns false'. Refute it at one input. -/
def octetSumsWrong : ChangeSpec := { name := "octetSums", fn := fun _ => fun
  | [d] => { results := [.lit (.bool false)], args := [d] }
  | _ => none }
def OctetSumsWrongFalsely : Prop := octetSumsRow.holds Try.pinned (OpenSpec.ofChange octetSumsWrong)

/-- 'tesseralaw1.OctetBursts': WHATEVER THE INPUT: true; the input reads as it did. -/
def octetBurstsSpec : ChangeSpec := { name := "octetBursts", fn := fun _ => fun
  | [d1, d2, d3] => { results := [.lit (.bool true)], args := [d1, d2, d3] }
  | _ => none }
def octetBurstsRow : OpenClaim := { program := "ytjjfnepmnjjemaa", sum := "204eb00cd537841d3e70f1075ba1c1dde389fa237e06fe916ce66d151549bb11", func := "tessera/tesseralaw1.OctetBursts", spec := "octetBursts", apart := false }
def OctetBurstsSaid : Prop := octetBurstsRow.holds Try.pinned (OpenSpec.ofChange octetBurstsSpec)

/-- ITS FALSE NEIGHBOUR: 'it returns false'. Refute it at one input. -/
def octetBurstsWrong : ChangeSpec := { name := "octetBursts", fn := fun _ => fun
  | [d1, d2, d3] => { results := [.lit (.bool false)], args := [d1, d2, d3] }
  | _ => none }
def OctetBurstsWrongFalsely : Prop := octetBurstsRow.holds Try.pinned (OpenSpec.ofChange octetBurstsWrong)

/-- 'tesseralaw1.OctetPuts': WHATEVER THE INPUT: true; the input reads as it did. -/
def octetPutsSpec : ChangeSpec := { name := "octetPuts", fn := fun _ => fun
  | [d1, d2, d3] => { results := [.lit (.bool true)], args := [d1, d2, d3] }
  | _ => none }
def octetPutsRow : OpenClaim := { program := "ytjjfnepmnjjemaa", sum := "204eb00cd537841d3e70f1075ba1c1dde389fa237e06fe916ce66d151549bb11", func := "tessera/tesseralaw1.OctetPuts", spec := "octetPuts", apart := false }
def OctetPutsSaid : Prop := octetPutsRow.holds Try.pinned (OpenSpec.ofChange octetPutsSpec)

/-- ITS FALSE NEIGHBOUR: 'it returns false'. Refute it at one input. -/
def octetPutsWrong : ChangeSpec := { name := "octetPuts", fn := fun _ => fun
  | [d1, d2, d3] => { results := [.lit (.bool false)], args := [d1, d2, d3] }
  | _ => none }
def OctetPutsWrongFalsely : Prop := octetPutsRow.holds Try.pinned (OpenSpec.ofChange octetPutsWrong)

/-- 'tesseralaw1.OctetKept': WHATEVER THE INPUT: true; the input reads as it did. -/
def octetKeptSpec : ChangeSpec := { name := "octetKept", fn := fun _ => fun
  | [d1, d2, d3] => { results := [.lit (.bool true)], args := [d1, d2, d3] }
  | _ => none }
def octetKeptRow : OpenClaim := { program := "ytjjfnepmnjjemaa", sum := "204eb00cd537841d3e70f1075ba1c1dde389fa237e06fe916ce66d151549bb11", func := "tessera/tesseralaw1.OctetKept", spec := "octetKept", unfollowed := true, recurses := true, apart := false }
def OctetKeptSaid : Prop := octetKeptRow.holds Try.pinned (OpenSpec.ofChange octetKeptSpec)

/-- ITS FALSE NEIGHBOUR: 'it returns false'. Refute it at one input. -/
def octetKeptWrong : ChangeSpec := { name := "octetKept", fn := fun _ => fun
  | [d1, d2, d3] => { results := [.lit (.bool false)], args := [d1, d2, d3] }
  | _ => none }
def OctetKeptWrongFalsely : Prop := octetKeptRow.holds Try.pinned (OpenSpec.ofChange octetKeptWrong)

/-- 'tesseralaw1.OctetNumbers': WHATEVER THE INPUT: true; the input reads as it did. -/
def octetNumbersSpec : ChangeSpec := { name := "octetNumbers", fn := fun _ => fun
  | [] => { results := [.lit (.bool true)], args := [] }
  | _ => none }
def octetNumbersRow : OpenClaim := { program := "ytjjfnepmnjjemaa", sum := "204eb00cd537841d3e70f1075ba1c1dde389fa237e06fe916ce66d151549bb11", func := "tessera/tesseralaw1.OctetNumbers", spec := "octetNumbers", apart := false }
def OctetNumbersSaid : Prop := octetNumbersRow.holds Try.pinned (OpenSpec.ofChange octetNumbersSpec)

/-- ITS FALSE NEIGHBOUR: 'it returns false'. Refute it at one input. -/
def octetNumbersWrong : ChangeSpec := { name := "octetNumbers", fn := fun _ => fun
  | [] => { results := [.lit (.bool false)], args := [] }
  | _ => none }
def OctetNumbersWrongFalsely : Prop := octetNumbersRow.holds Try.pinned (OpenSpec.ofChange octetNumbersWrong)

/-- 'tesseralaw1.OctetGets': WHATEVER THE INPUT: true; the input reads as it did. -/
def octetGetsSpec : ChangeSpec := { name := "octetGets", fn := fun _ => fun
  | [d1, d2, d3] => { results := [.lit (.bool true)], args := [d1, d2, d3] }
  | _ => none }
def octetGetsRow : OpenClaim := { program := "ytjjfnepmnjjemaa", sum := "204eb00cd537841d3e70f1075ba1c1dde389fa237e06fe916ce66d151549bb11", func := "tessera/tesseralaw1.OctetGets", spec := "octetGets", apart := false }
def OctetGetsSaid : Prop := octetGetsRow.holds Try.pinned (OpenSpec.ofChange octetGetsSpec)

/-- ITS FALSE NEIGHBOUR: 'it returns false'. Refute it at one input. -/
def octetGetsWrong : ChangeSpec := { name := "octetGets", fn := fun _ => fun
  | [d1, d2, d3] => { results := [.lit (.bool false)], args := [d1, d2, d3] }
  | _ => none }
def OctetGetsWrongFalsely : Prop := octetGetsRow.holds Try.pinned (OpenSpec.ofChange octetGetsWrong)

/-- 'tesseralaw1.OctetBack': WHATEVER THE INPUT: true; the input reads as it did. -/
def octetBackSpec : ChangeSpec := { name := "octetBack", fn := fun _ => fun
  | [d1, d2, d3, d4] => { results := [.lit (.bool true)], args := [d1, d2, d3, d4] }
  | _ => none }
def octetBackRow : OpenClaim := { program := "ytjjfnepmnjjemaa", sum := "204eb00cd537841d3e70f1075ba1c1dde389fa237e06fe916ce66d151549bb11", func := "tessera/tesseralaw1.OctetBack", spec := "octetBack", apart := false }
def OctetBackSaid : Prop := octetBackRow.holds Try.pinned (OpenSpec.ofChange octetBackSpec)

/-- ITS FALSE NEIGHBOUR: 'it returns false'. Refute it at one input. -/
def octetBackWrong : ChangeSpec := { name := "octetBack", fn := fun _ => fun
  | [d1, d2, d3, d4] => { results := [.lit (.bool false)], args := [d1, d2, d3, d4] }
  | _ => none }
def OctetBackWrongFalsely : Prop := octetBackRow.holds Try.pinned (OpenSpec.ofChange octetBackWrong)

/- THE SECOND FORM. 'bulk': how many values and letters a reading holds, each counted each time it is reached (what is shared counts as often as it is met; a slice's spare places count too). A statement '..UptoSaid' is the law's where the arguments, and the package variables that the reading takes, are together of bulk at most 1048576: NARROWER than '..Said'. Prove '..Said' where nothing that the law and all that it calls make is longer than what came in: it says more and counts as full. Else prove '..UptoSaid'. A law counts once. -/
mutual
def uptoBulk {H : Type} : DataW H → Nat
  | .lit (.string bytes) => bytes.length + 1
  | .lit _ => 1
  | .nil => 1
  | .ptr d => uptoBulk d + 1
  | .slice elems spare => uptoBulkAll elems + uptoBulkAll spare + 1
  | .agg parts => uptoBulkAll parts + 1
  | .iface _ d => uptoBulk d + 1
  | .map entries => uptoBulkEntries entries + 1
  | .held _ => 1
def uptoBulkAll {H : Type} : List (DataW H) → Nat
  | [] => 0
  | d :: r => uptoBulk d + uptoBulkAll r
def uptoBulkEntries {H : Type} : List (Lit × DataW H) → Nat
  | [] => 0
  | x :: r => uptoBulkEntry x + uptoBulkEntries r
def uptoBulkEntry {H : Type} : Lit × DataW H → Nat
  | (.string bytes, d) => bytes.length + uptoBulk d + 1
  | (_, d) => uptoBulk d + 1
 end
def uptoSmall : (H : Type) → List (DataW H) → Bool := fun _ ds => decide (uptoBulkAll ds ≤ 1048576)
def OpenSpec.upto (s : _root_.Go.ChangeSpec) : _root_.Go.OpenSpec := { _root_.Go.OpenSpec.ofChange s with cond := some uptoSmall }

/-- 'tesseralaw16.RingNumbers', WHERE WHAT IT READS IS OF BULK AT MOST 1048576: true; the input reads as it did. -/
def ringNumbersUptoRow : OpenClaim := { program := "ytjjfnepmnjjemaa", sum := "204eb00cd537841d3e70f1075ba1c1dde389fa237e06fe916ce66d151549bb11", func := "tessera/tesseralaw16.RingNumbers", spec := "ringNumbers", apart := false, narrowed := true }
def RingNumbersUptoSaid : Prop := ringNumbersUptoRow.holds Try.pinned (OpenSpec.upto ringNumbersSpec)

/-- 'tesseralaw16.RingPlays', WHERE WHAT IT READS IS OF BULK AT MOST 1048576: true; the input reads as it did. -/
def ringPlaysUptoRow : OpenClaim := { program := "ytjjfnepmnjjemaa", sum := "204eb00cd537841d3e70f1075ba1c1dde389fa237e06fe916ce66d151549bb11", func := "tessera/tesseralaw16.RingPlays", spec := "ringPlays", apart := false, narrowed := true }
def RingPlaysUptoSaid : Prop := ringPlaysUptoRow.holds Try.pinned (OpenSpec.upto ringPlaysSpec)

/-- 'tesseralaw16.RingThrough', WHERE WHAT IT READS IS OF BULK AT MOST 1048576: true; the input reads as it did. -/
def ringThroughUptoRow : OpenClaim := { program := "ytjjfnepmnjjemaa", sum := "204eb00cd537841d3e70f1075ba1c1dde389fa237e06fe916ce66d151549bb11", func := "tessera/tesseralaw16.RingThrough", spec := "ringThrough", apart := false, narrowed := true }
def RingThroughUptoSaid : Prop := ringThroughUptoRow.holds Try.pinned (OpenSpec.upto ringThroughSpec)

/-- 'tesseralaw16.RingKept', WHERE WHAT IT READS IS OF BULK AT MOST 1048576: true; the input reads as it did. -/
def ringKeptUptoRow : OpenClaim := { program := "ytjjfnepmnjjemaa", sum := "204eb00cd537841d3e70f1075ba1c1dde389fa237e06fe916ce66d151549bb11", func := "tessera/tesseralaw16.RingKept", spec := "ringKept", unfollowed := true, recurses := true, apart := false, narrowed := true }
def RingKeptUptoSaid : Prop := ringKeptUptoRow.holds Try.pinned (OpenSpec.upto ringKeptSpec)

/-- 'tesseralaw1.OctetSums', WHERE WHAT IT READS IS OF BULK AT MOST 1048576: true; the input reads as it did. -/
def octetSumsUptoRow : OpenClaim := { program := "ytjjfnepmnjjemaa", sum := "204eb00cd537841d3e70f1075ba1c1dde389fa237e06fe916ce66d151549bb11", func := "tessera/tesseralaw1.OctetSums", spec := "octetSums", apart := false, narrowed := true }
def OctetSumsUptoSaid : Prop := octetSumsUptoRow.holds Try.pinned (OpenSpec.upto octetSumsSpec)

/-- 'tesseralaw1.OctetBursts', WHERE WHAT IT READS IS OF BULK AT MOST 1048576: true; the input reads as it did. -/
def octetBurstsUptoRow : OpenClaim := { program := "ytjjfnepmnjjemaa", sum := "204eb00cd537841d3e70f1075ba1c1dde389fa237e06fe916ce66d151549bb11", func := "tessera/tesseralaw1.OctetBursts", spec := "octetBursts", apart := false, narrowed := true }
def OctetBurstsUptoSaid : Prop := octetBurstsUptoRow.holds Try.pinned (OpenSpec.upto octetBurstsSpec)

/-- 'tesseralaw1.OctetPuts', WHERE WHAT IT READS IS OF BULK AT MOST 1048576: true; the input reads as it did. -/
def octetPutsUptoRow : OpenClaim := { program := "ytjjfnepmnjjemaa", sum := "204eb00cd537841d3e70f1075ba1c1dde389fa237e06fe916ce66d151549bb11", func := "tessera/tesseralaw1.OctetPuts", spec := "octetPuts", apart := false, narrowed := true }
def OctetPutsUptoSaid : Prop := octetPutsUptoRow.holds Try.pinned (OpenSpec.upto octetPutsSpec)

/-- 'tesseralaw1.OctetKept', WHERE WHAT IT READS IS OF BULK AT MOST 1048576: true; the input reads as it did. -/
def octetKeptUptoRow : OpenClaim := { program := "ytjjfnepmnjjemaa", sum := "204eb00cd537841d3e70f1075ba1c1dde389fa237e06fe916ce66d151549bb11", func := "tessera/tesseralaw1.OctetKept", spec := "octetKept", unfollowed := true, recurses := true, apart := false, narrowed := true }
def OctetKeptUptoSaid : Prop := octetKeptUptoRow.holds Try.pinned (OpenSpec.upto octetKeptSpec)

/-- 'tesseralaw1.OctetNumbers', WHERE WHAT IT READS IS OF BULK AT MOST 1048576: true; the input reads as it did. -/
def octetNumbersUptoRow : OpenClaim := { program := "ytjjfnepmnjjemaa", sum := "204eb00cd537841d3e70f1075ba1c1dde389fa237e06fe916ce66d151549bb11", func := "tessera/tesseralaw1.OctetNumbers", spec := "octetNumbers", apart := false, narrowed := true }
def OctetNumbersUptoSaid : Prop := octetNumbersUptoRow.holds Try.pinned (OpenSpec.upto octetNumbersSpec)

/-- 'tesseralaw1.OctetGets', WHERE WHAT IT READS IS OF BULK AT MOST 1048576: true; the input reads as it did. -/
def octetGetsUptoRow : OpenClaim := { program := "ytjjfnepmnjjemaa", sum := "204eb00cd537841d3e70f1075ba1c1dde389fa237e06fe916ce66d151549bb11", func := "tessera/tesseralaw1.OctetGets", spec := "octetGets", apart := false, narrowed := true }
def OctetGetsUptoSaid : Prop := octetGetsUptoRow.holds Try.pinned (OpenSpec.upto octetGetsSpec)

/-- 'tesseralaw1.OctetBack', WHERE WHAT IT READS IS OF BULK AT MOST 1048576: true; the input reads as it did. -/
def octetBackUptoRow : OpenClaim := { program := "ytjjfnepmnjjemaa", sum := "204eb00cd537841d3e70f1075ba1c1dde389fa237e06fe916ce66d151549bb11", func := "tessera/tesseralaw1.OctetBack", spec := "octetBack", apart := false, narrowed := true }
def OctetBackUptoSaid : Prop := octetBackUptoRow.holds Try.pinned (OpenSpec.upto octetBackSpec)

end Rows
end Go.Proofs.Ytjjfnepmnjjemaa
