/-
  NARROWER THAN 'FOR EVERY INPUT', by the rows' own cells (each row's printed sentence says how): UtfItems: laid · UtfRange: laid · UtfTails: laid · UtfValid: laid · UtfHeld: laid · UtfKept: laid · UtfNumbers: laid · UtfScans: laid.
  DERIVED. THE GIVEN ROWS OF THIS SEAT. 8 by the template 'for every input the law returns true; each argument reads behind the call as it read before'; 0 by the template 'total and deterministic' (their statements: YteadcibbpbbehaaDoorTotals.lean).
  GIVEN WITH THE SEED: the statements are not yours to turn. If you find one false, say at which input.
  Laid BY PROGRAM, IN A SANDBOX (cutbox-rows.mjs): the forced cells as the released guide's own fill.sh prints them over the translation 25940aea3e2f3281… (all of the seat's roots in one cut). By AI agents, Wed Nov 11 2026. No macro, syntax, notation, axiom, sorry.
-/
import Derived.Test.YteadcibbpbbehaaDoorChecked
import GoSem.PinnedTables
import GoSem.Claim
import GoSem.ClaimJoined
import GoSem.ClaimMapViews
import Derived.JoinedTies
import Derived.KernelRfl
namespace Go.Proofs.YteadcibbpbbehaaDoor
/- THE CELL 'sum', in the pinned program and in every row, IS THE sha256 OF THE DUMP (.gsa) THAT YteadcibbpbbehaaDoorProg.lean LOADS. Nothing in Lean hashes anything: it is a label: what it is worth is what the hold of that sum in a sandbox is worth. -/
noncomputable def Tryd.pinned : Pinned := { name := "yteadcibbpbbehaadoor", sum := "25940aea3e2f3281f8bdd8c34e8aa205c93a659ac6960c3258a6ab127ec8d319", checked := Tryd.checked }
namespace Rows
def none {H : Type} : Left H := { results := [], args := [] }

/- WHAT THE LISTED PACKAGE-LEVEL VARIABLES READ AS WHEN THE CALL BEGINS. Each datum BY PROGRAM (the guide's laid-datum.mjs) off the statement by which the dump's own 'gosem.cut.vars' lays the variable. In a bare row this is a premise. The card (YteadcibbpbbehaaDoorCards.lean) ties it to the program's text. -/
def laid_unicode_utf8_acceptRanges {H : Type} : DataW H := .agg [.agg [.lit (.int .u8 128), .lit (.int .u8 191)], .agg [.lit (.int .u8 160), .lit (.int .u8 191)], .agg [.lit (.int .u8 128), .lit (.int .u8 159)], .agg [.lit (.int .u8 144), .lit (.int .u8 191)], .agg [.lit (.int .u8 128), .lit (.int .u8 143)], .agg [.lit (.int .u8 0), .lit (.int .u8 0)], .agg [.lit (.int .u8 0), .lit (.int .u8 0)], .agg [.lit (.int .u8 0), .lit (.int .u8 0)], .agg [.lit (.int .u8 0), .lit (.int .u8 0)], .agg [.lit (.int .u8 0), .lit (.int .u8 0)], .agg [.lit (.int .u8 0), .lit (.int .u8 0)], .agg [.lit (.int .u8 0), .lit (.int .u8 0)], .agg [.lit (.int .u8 0), .lit (.int .u8 0)], .agg [.lit (.int .u8 0), .lit (.int .u8 0)], .agg [.lit (.int .u8 0), .lit (.int .u8 0)], .agg [.lit (.int .u8 0), .lit (.int .u8 0)]]
/-- One of Go's own tables, pinned by name: the form's constant. -/
def laid_unicode_utf8_first : DataW Unit := Go.Pinned.utf8First

/-- 'tesseralaw2.UtfItems': WHATEVER THE INPUT: true; the input reads as it did. -/
def utfItemsSpec : ChangeSpec := { name := "utfItems", fn := fun _ => fun
  | [d1, d2] => { results := [.lit (.bool true)], args := [d1, d2] }
  | _ => none }
def utfItemsRow : OpenClaim := { program := "yteadcibbpbbehaadoor", sum := "25940aea3e2f3281f8bdd8c34e8aa205c93a659ac6960c3258a6ab127ec8d319", func := "tessera/tesseralaw2.UtfItems", spec := "utfItems", inPlace := ["internal/abi.NoEscape"], unfollowed := true, recurses := true, named := ["unicode/utf8.first", "unicode/utf8.acceptRanges"], apart := false, laid := [("unicode/utf8.acceptRanges", laid_unicode_utf8_acceptRanges), ("unicode/utf8.first", laid_unicode_utf8_first)] }
def UtfItemsSaid : Prop := utfItemsRow.holds Tryd.pinned (OpenSpec.ofChange utfItemsSpec)

/-- ITS FALSE NEIGHBOUR: 'it returns false'. Refute it at one input. -/
def utfItemsWrong : ChangeSpec := { name := "utfItems", fn := fun _ => fun
  | [d1, d2] => { results := [.lit (.bool false)], args := [d1, d2] }
  | _ => none }
def UtfItemsWrongFalsely : Prop := utfItemsRow.holds Tryd.pinned (OpenSpec.ofChange utfItemsWrong)

/-- 'tesseralaw2.UtfRange': WHATEVER THE INPUT: true; the input reads as it did. -/
def utfRangeSpec : ChangeSpec := { name := "utfRange", fn := fun _ => fun
  | [d] => { results := [.lit (.bool true)], args := [d] }
  | _ => none }
def utfRangeRow : OpenClaim := { program := "yteadcibbpbbehaadoor", sum := "25940aea3e2f3281f8bdd8c34e8aa205c93a659ac6960c3258a6ab127ec8d319", func := "tessera/tesseralaw2.UtfRange", spec := "utfRange", inPlace := ["internal/abi.NoEscape"], unfollowed := true, recurses := true, named := ["unicode/utf8.first", "unicode/utf8.acceptRanges"], apart := false, laid := [("unicode/utf8.acceptRanges", laid_unicode_utf8_acceptRanges), ("unicode/utf8.first", laid_unicode_utf8_first)] }
def UtfRangeSaid : Prop := utfRangeRow.holds Tryd.pinned (OpenSpec.ofChange utfRangeSpec)

/-- ITS FALSE NEIGHBOUR: 'it returns false'. Refute it at one input. -/
def utfRangeWrong : ChangeSpec := { name := "utfRange", fn := fun _ => fun
  | [d] => { results := [.lit (.bool false)], args := [d] }
  | _ => none }
def UtfRangeWrongFalsely : Prop := utfRangeRow.holds Tryd.pinned (OpenSpec.ofChange utfRangeWrong)

/-- 'tesseralaw2.UtfTails': WHATEVER THE INPUT: true; the input reads as it did. -/
def utfTailsSpec : ChangeSpec := { name := "utfTails", fn := fun _ => fun
  | [d] => { results := [.lit (.bool true)], args := [d] }
  | _ => none }
def utfTailsRow : OpenClaim := { program := "yteadcibbpbbehaadoor", sum := "25940aea3e2f3281f8bdd8c34e8aa205c93a659ac6960c3258a6ab127ec8d319", func := "tessera/tesseralaw2.UtfTails", spec := "utfTails", inPlace := ["internal/abi.NoEscape"], unfollowed := true, recurses := true, named := ["unicode/utf8.first", "unicode/utf8.acceptRanges"], apart := false, laid := [("unicode/utf8.acceptRanges", laid_unicode_utf8_acceptRanges), ("unicode/utf8.first", laid_unicode_utf8_first)] }
def UtfTailsSaid : Prop := utfTailsRow.holds Tryd.pinned (OpenSpec.ofChange utfTailsSpec)

/-- ITS FALSE NEIGHBOUR: 'it returns false'. Refute it at one input. -/
def utfTailsWrong : ChangeSpec := { name := "utfTails", fn := fun _ => fun
  | [d] => { results := [.lit (.bool false)], args := [d] }
  | _ => none }
def UtfTailsWrongFalsely : Prop := utfTailsRow.holds Tryd.pinned (OpenSpec.ofChange utfTailsWrong)

/-- 'tesseralaw2.UtfValid': WHATEVER THE INPUT: true; the input reads as it did. -/
def utfValidSpec : ChangeSpec := { name := "utfValid", fn := fun _ => fun
  | [d1, d2] => { results := [.lit (.bool true)], args := [d1, d2] }
  | _ => none }
def utfValidRow : OpenClaim := { program := "yteadcibbpbbehaadoor", sum := "25940aea3e2f3281f8bdd8c34e8aa205c93a659ac6960c3258a6ab127ec8d319", func := "tessera/tesseralaw2.UtfValid", spec := "utfValid", inPlace := ["internal/abi.NoEscape"], unfollowed := true, recurses := true, named := ["unicode/utf8.first", "unicode/utf8.acceptRanges"], apart := false, laid := [("unicode/utf8.acceptRanges", laid_unicode_utf8_acceptRanges), ("unicode/utf8.first", laid_unicode_utf8_first)] }
def UtfValidSaid : Prop := utfValidRow.holds Tryd.pinned (OpenSpec.ofChange utfValidSpec)

/-- ITS FALSE NEIGHBOUR: 'it returns false'. Refute it at one input. -/
def utfValidWrong : ChangeSpec := { name := "utfValid", fn := fun _ => fun
  | [d1, d2] => { results := [.lit (.bool false)], args := [d1, d2] }
  | _ => none }
def UtfValidWrongFalsely : Prop := utfValidRow.holds Tryd.pinned (OpenSpec.ofChange utfValidWrong)

/-- 'tesseralaw2.UtfHeld': WHATEVER THE INPUT: true; the input reads as it did. -/
def utfHeldSpec : ChangeSpec := { name := "utfHeld", fn := fun _ => fun
  | [d] => { results := [.lit (.bool true)], args := [d] }
  | _ => none }
def utfHeldRow : OpenClaim := { program := "yteadcibbpbbehaadoor", sum := "25940aea3e2f3281f8bdd8c34e8aa205c93a659ac6960c3258a6ab127ec8d319", func := "tessera/tesseralaw2.UtfHeld", spec := "utfHeld", inPlace := ["internal/abi.NoEscape"], unfollowed := true, recurses := true, named := ["unicode/utf8.first", "unicode/utf8.acceptRanges"], apart := false, laid := [("unicode/utf8.acceptRanges", laid_unicode_utf8_acceptRanges), ("unicode/utf8.first", laid_unicode_utf8_first)] }
def UtfHeldSaid : Prop := utfHeldRow.holds Tryd.pinned (OpenSpec.ofChange utfHeldSpec)

/-- ITS FALSE NEIGHBOUR: 'it returns false'. Refute it at one input. -/
def utfHeldWrong : ChangeSpec := { name := "utfHeld", fn := fun _ => fun
  | [d] => { results := [.lit (.bool false)], args := [d] }
  | _ => none }
def UtfHeldWrongFalsely : Prop := utfHeldRow.holds Tryd.pinned (OpenSpec.ofChange utfHeldWrong)

/-- 'tesseralaw2.UtfKept': WHATEVER THE INPUT: true; the input reads as it did. -/
def utfKeptSpec : ChangeSpec := { name := "utfKept", fn := fun _ => fun
  | [d] => { results := [.lit (.bool true)], args := [d] }
  | _ => none }
def utfKeptRow : OpenClaim := { program := "yteadcibbpbbehaadoor", sum := "25940aea3e2f3281f8bdd8c34e8aa205c93a659ac6960c3258a6ab127ec8d319", func := "tessera/tesseralaw2.UtfKept", spec := "utfKept", inPlace := ["internal/abi.NoEscape"], unfollowed := true, recurses := true, named := ["unicode/utf8.first", "unicode/utf8.acceptRanges"], apart := false, laid := [("unicode/utf8.acceptRanges", laid_unicode_utf8_acceptRanges), ("unicode/utf8.first", laid_unicode_utf8_first)] }
def UtfKeptSaid : Prop := utfKeptRow.holds Tryd.pinned (OpenSpec.ofChange utfKeptSpec)

/-- ITS FALSE NEIGHBOUR: 'it returns false'. Refute it at one input. -/
def utfKeptWrong : ChangeSpec := { name := "utfKept", fn := fun _ => fun
  | [d] => { results := [.lit (.bool false)], args := [d] }
  | _ => none }
def UtfKeptWrongFalsely : Prop := utfKeptRow.holds Tryd.pinned (OpenSpec.ofChange utfKeptWrong)

/-- 'tesseralaw2.UtfNumbers': WHATEVER THE INPUT: true; the input reads as it did. -/
def utfNumbersSpec : ChangeSpec := { name := "utfNumbers", fn := fun _ => fun
  | [] => { results := [.lit (.bool true)], args := [] }
  | _ => none }
def utfNumbersRow : OpenClaim := { program := "yteadcibbpbbehaadoor", sum := "25940aea3e2f3281f8bdd8c34e8aa205c93a659ac6960c3258a6ab127ec8d319", func := "tessera/tesseralaw2.UtfNumbers", spec := "utfNumbers", inPlace := ["internal/abi.NoEscape"], unfollowed := true, recurses := true, named := ["unicode/utf8.first", "unicode/utf8.acceptRanges"], apart := false, laid := [("unicode/utf8.acceptRanges", laid_unicode_utf8_acceptRanges), ("unicode/utf8.first", laid_unicode_utf8_first)] }
def UtfNumbersSaid : Prop := utfNumbersRow.holds Tryd.pinned (OpenSpec.ofChange utfNumbersSpec)

/-- ITS FALSE NEIGHBOUR: 'it returns false'. Refute it at one input. -/
def utfNumbersWrong : ChangeSpec := { name := "utfNumbers", fn := fun _ => fun
  | [] => { results := [.lit (.bool false)], args := [] }
  | _ => none }
def UtfNumbersWrongFalsely : Prop := utfNumbersRow.holds Tryd.pinned (OpenSpec.ofChange utfNumbersWrong)

/-- 'tesseralaw2.UtfScans': WHATEVER THE INPUT: true; the input reads as it did. -/
def utfScansSpec : ChangeSpec := { name := "utfScans", fn := fun _ => fun
  | [d1, d2] => { results := [.lit (.bool true)], args := [d1, d2] }
  | _ => none }
def utfScansRow : OpenClaim := { program := "yteadcibbpbbehaadoor", sum := "25940aea3e2f3281f8bdd8c34e8aa205c93a659ac6960c3258a6ab127ec8d319", func := "tessera/tesseralaw2.UtfScans", spec := "utfScans", inPlace := ["internal/abi.NoEscape"], unfollowed := true, recurses := true, named := ["unicode/utf8.first", "unicode/utf8.acceptRanges"], apart := false, laid := [("unicode/utf8.acceptRanges", laid_unicode_utf8_acceptRanges), ("unicode/utf8.first", laid_unicode_utf8_first)] }
def UtfScansSaid : Prop := utfScansRow.holds Tryd.pinned (OpenSpec.ofChange utfScansSpec)

/-- ITS FALSE NEIGHBOUR: 'it returns false'. Refute it at one input. -/
def utfScansWrong : ChangeSpec := { name := "utfScans", fn := fun _ => fun
  | [d1, d2] => { results := [.lit (.bool false)], args := [d1, d2] }
  | _ => none }
def UtfScansWrongFalsely : Prop := utfScansRow.holds Tryd.pinned (OpenSpec.ofChange utfScansWrong)

/- THE SECOND FORM. 'bulk': how many values and letters a reading holds, each counted each time it is reached (what is shared counts as often as it is met; a slice's spare places count too). A statement '..UptoSaid' is the law's where the arguments, and the package variables that the reading takes, are together of bulk at most 1048576: NARROWER than '..Said'. Prove '..Said' where nothing that the law and all that it calls make is longer than what came in: it says more and counts as full. Else prove '..UptoSaid'. A law counts once. -/
mutual
def uptoBulk {H : Type} : DataW H → Nat
  | .lit (.string bytes) => bytes.length + 1
  | .lit _ => 1
  | .nil => 1
  | .ptr d => uptoBulk d + 1
  | .slice elems spare => uptoBulkAll elems + uptoBulkAll spare + 1
  | .agg parts => uptoBulkAll parts + 1
  | .iface _ d => uptoBulk d + 1
  | .map entries => uptoBulkEntries entries + 1
  | .held _ => 1
def uptoBulkAll {H : Type} : List (DataW H) → Nat
  | [] => 0
  | d :: r => uptoBulk d + uptoBulkAll r
def uptoBulkEntries {H : Type} : List (Lit × DataW H) → Nat
  | [] => 0
  | x :: r => uptoBulkEntry x + uptoBulkEntries r
def uptoBulkEntry {H : Type} : Lit × DataW H → Nat
  | (.string bytes, d) => bytes.length + uptoBulk d + 1
  | (_, d) => uptoBulk d + 1
 end
def uptoSmall : (H : Type) → List (DataW H) → Bool := fun _ ds => decide (uptoBulkAll ds ≤ 1048576)
def OpenSpec.upto (s : _root_.Go.ChangeSpec) : _root_.Go.OpenSpec := { _root_.Go.OpenSpec.ofChange s with cond := some uptoSmall }

/-- 'tesseralaw2.UtfItems', WHERE WHAT IT READS IS OF BULK AT MOST 1048576: true; the input reads as it did. -/
def utfItemsUptoRow : OpenClaim := { program := "yteadcibbpbbehaadoor", sum := "25940aea3e2f3281f8bdd8c34e8aa205c93a659ac6960c3258a6ab127ec8d319", func := "tessera/tesseralaw2.UtfItems", spec := "utfItems", inPlace := ["internal/abi.NoEscape"], unfollowed := true, recurses := true, named := ["unicode/utf8.first", "unicode/utf8.acceptRanges"], apart := false, laid := [("unicode/utf8.acceptRanges", laid_unicode_utf8_acceptRanges), ("unicode/utf8.first", laid_unicode_utf8_first)], narrowed := true }
def UtfItemsUptoSaid : Prop := utfItemsUptoRow.holds Tryd.pinned (OpenSpec.upto utfItemsSpec)

/-- 'tesseralaw2.UtfRange', WHERE WHAT IT READS IS OF BULK AT MOST 1048576: true; the input reads as it did. -/
def utfRangeUptoRow : OpenClaim := { program := "yteadcibbpbbehaadoor", sum := "25940aea3e2f3281f8bdd8c34e8aa205c93a659ac6960c3258a6ab127ec8d319", func := "tessera/tesseralaw2.UtfRange", spec := "utfRange", inPlace := ["internal/abi.NoEscape"], unfollowed := true, recurses := true, named := ["unicode/utf8.first", "unicode/utf8.acceptRanges"], apart := false, laid := [("unicode/utf8.acceptRanges", laid_unicode_utf8_acceptRanges), ("unicode/utf8.first", laid_unicode_utf8_first)], narrowed := true }
def UtfRangeUptoSaid : Prop := utfRangeUptoRow.holds Tryd.pinned (OpenSpec.upto utfRangeSpec)

/-- 'tesseralaw2.UtfTails', WHERE WHAT IT READS IS OF BULK AT MOST 1048576: true; the input reads as it did. -/
def utfTailsUptoRow : OpenClaim := { program := "yteadcibbpbbehaadoor", sum := "25940aea3e2f3281f8bdd8c34e8aa205c93a659ac6960c3258a6ab127ec8d319", func := "tessera/tesseralaw2.UtfTails", spec := "utfTails", inPlace := ["internal/abi.NoEscape"], unfollowed := true, recurses := true, named := ["unicode/utf8.first", "unicode/utf8.acceptRanges"], apart := false, laid := [("unicode/utf8.acceptRanges", laid_unicode_utf8_acceptRanges), ("unicode/utf8.first", laid_unicode_utf8_first)], narrowed := true }
def UtfTailsUptoSaid : Prop := utfTailsUptoRow.holds Tryd.pinned (OpenSpec.upto utfTailsSpec)

/-- 'tesseralaw2.UtfValid', WHERE WHAT IT READS IS OF BULK AT MOST 1048576: true; the input reads as it did. -/
def utfValidUptoRow : OpenClaim := { program := "yteadcibbpbbehaadoor", sum := "25940aea3e2f3281f8bdd8c34e8aa205c93a659ac6960c3258a6ab127ec8d319", func := "tessera/tesseralaw2.UtfValid", spec := "utfValid", inPlace := ["internal/abi.NoEscape"], unfollowed := true, recurses := true, named := ["unicode/utf8.first", "unicode/utf8.acceptRanges"], apart := false, laid := [("unicode/utf8.acceptRanges", laid_unicode_utf8_acceptRanges), ("unicode/utf8.first", laid_unicode_utf8_first)], narrowed := true }
def UtfValidUptoSaid : Prop := utfValidUptoRow.holds Tryd.pinned (OpenSpec.upto utfValidSpec)

/-- 'tesseralaw2.UtfHeld', WHERE WHAT IT READS IS OF BULK AT MOST 1048576: true; the input reads as it did. -/
def utfHeldUptoRow : OpenClaim := { program := "yteadcibbpbbehaadoor", sum := "25940aea3e2f3281f8bdd8c34e8aa205c93a659ac6960c3258a6ab127ec8d319", func := "tessera/tesseralaw2.UtfHeld", spec := "utfHeld", inPlace := ["internal/abi.NoEscape"], unfollowed := true, recurses := true, named := ["unicode/utf8.first", "unicode/utf8.acceptRanges"], apart := false, laid := [("unicode/utf8.acceptRanges", laid_unicode_utf8_acceptRanges), ("unicode/utf8.first", laid_unicode_utf8_first)], narrowed := true }
def UtfHeldUptoSaid : Prop := utfHeldUptoRow.holds Tryd.pinned (OpenSpec.upto utfHeldSpec)

/-- 'tesseralaw2.UtfKept', WHERE WHAT IT READS IS OF BULK AT MOST 1048576: true; the input reads as it did. -/
def utfKeptUptoRow : OpenClaim := { program := "yteadcibbpbbehaadoor", sum := "25940aea3e2f3281f8bdd8c34e8aa205c93a659ac6960c3258a6ab127ec8d319", func := "tessera/tesseralaw2.UtfKept", spec := "utfKept", inPlace := ["internal/abi.NoEscape"], unfollowed := true, recurses := true, named := ["unicode/utf8.first", "unicode/utf8.acceptRanges"], apart := false, laid := [("unicode/utf8.acceptRanges", laid_unicode_utf8_acceptRanges), ("unicode/utf8.first", laid_unicode_utf8_first)], narrowed := true }
def UtfKeptUptoSaid : Prop := utfKeptUptoRow.holds Tryd.pinned (OpenSpec.upto utfKeptSpec)

/-- 'tesseralaw2.UtfNumbers', WHERE WHAT IT READS IS OF BULK AT MOST 1048576: true; the input reads as it did. -/
def utfNumbersUptoRow : OpenClaim := { program := "yteadcibbpbbehaadoor", sum := "25940aea3e2f3281f8bdd8c34e8aa205c93a659ac6960c3258a6ab127ec8d319", func := "tessera/tesseralaw2.UtfNumbers", spec := "utfNumbers", inPlace := ["internal/abi.NoEscape"], unfollowed := true, recurses := true, named := ["unicode/utf8.first", "unicode/utf8.acceptRanges"], apart := false, laid := [("unicode/utf8.acceptRanges", laid_unicode_utf8_acceptRanges), ("unicode/utf8.first", laid_unicode_utf8_first)], narrowed := true }
def UtfNumbersUptoSaid : Prop := utfNumbersUptoRow.holds Tryd.pinned (OpenSpec.upto utfNumbersSpec)

/-- 'tesseralaw2.UtfScans', WHERE WHAT IT READS IS OF BULK AT MOST 1048576: true; the input reads as it did. -/
def utfScansUptoRow : OpenClaim := { program := "yteadcibbpbbehaadoor", sum := "25940aea3e2f3281f8bdd8c34e8aa205c93a659ac6960c3258a6ab127ec8d319", func := "tessera/tesseralaw2.UtfScans", spec := "utfScans", inPlace := ["internal/abi.NoEscape"], unfollowed := true, recurses := true, named := ["unicode/utf8.first", "unicode/utf8.acceptRanges"], apart := false, laid := [("unicode/utf8.acceptRanges", laid_unicode_utf8_acceptRanges), ("unicode/utf8.first", laid_unicode_utf8_first)], narrowed := true }
def UtfScansUptoSaid : Prop := utfScansUptoRow.holds Tryd.pinned (OpenSpec.upto utfScansSpec)

end Rows
end Go.Proofs.YteadcibbpbbehaaDoor
