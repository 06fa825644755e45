/-
  NARROWER THAN 'FOR EVERY INPUT', by the rows' own cells (each row's printed sentence says how): DetokKept: laid · DetokTwo: laid · DetokBad: laid · DetokNumbers: laid · DetokPlays: laid · DetokAll: laid.
  DERIVED. THE GIVEN ROWS OF THIS SEAT. 6 by the template 'for every input the law returns true; each argument reads behind the call as it read before'; 0 by the template 'total and deterministic' (their statements: YtemnanhoiacphaaDoorTotals.lean).
  GIVEN WITH THE SEED: the statements are not yours to turn. If you find one false, say at which input.
  Laid BY PROGRAM, IN A SANDBOX (cutbox-rows.mjs): the forced cells as the released guide's own fill.sh prints them over the translation 5f0362d91166ad97… (all of the seat's roots in one cut). By AI agents, Wed Nov 11 2026. No macro, syntax, notation, axiom, sorry.
-/
import Derived.Test.YtemnanhoiacphaaDoorChecked
import GoSem.PinnedTables
import GoSem.Claim
import GoSem.ClaimJoined
import GoSem.ClaimMapViews
import Derived.JoinedTies
import Derived.KernelRfl
namespace Go.Proofs.YtemnanhoiacphaaDoor
/- THE CELL 'sum', in the pinned program and in every row, IS THE sha256 OF THE DUMP (.gsa) THAT YtemnanhoiacphaaDoorProg.lean LOADS. Nothing in Lean hashes anything: it is a label: what it is worth is what the hold of that sum in a sandbox is worth. -/
noncomputable def Tryd.pinned : Pinned := { name := "ytemnanhoiacphaadoor", sum := "5f0362d91166ad9722afe39d293e8ac99058d1b5ec58f2886b39ff36edbbc38a", checked := Tryd.checked }
namespace Rows
def none {H : Type} : Left H := { results := [], args := [] }

/- WHAT THE LISTED PACKAGE-LEVEL VARIABLES READ AS WHEN THE CALL BEGINS. Each datum BY PROGRAM (the guide's laid-datum.mjs) off the statement by which the dump's own 'gosem.cut.vars' lays the variable. In a bare row this is a premise. The card (YtemnanhoiacphaaDoorCards.lean) ties it to the program's text. -/
def laid_unicode_utf8_acceptRanges {H : Type} : DataW H := .agg [.agg [.lit (.int .u8 128), .lit (.int .u8 191)], .agg [.lit (.int .u8 160), .lit (.int .u8 191)], .agg [.lit (.int .u8 128), .lit (.int .u8 159)], .agg [.lit (.int .u8 144), .lit (.int .u8 191)], .agg [.lit (.int .u8 128), .lit (.int .u8 143)], .agg [.lit (.int .u8 0), .lit (.int .u8 0)], .agg [.lit (.int .u8 0), .lit (.int .u8 0)], .agg [.lit (.int .u8 0), .lit (.int .u8 0)], .agg [.lit (.int .u8 0), .lit (.int .u8 0)], .agg [.lit (.int .u8 0), .lit (.int .u8 0)], .agg [.lit (.int .u8 0), .lit (.int .u8 0)], .agg [.lit (.int .u8 0), .lit (.int .u8 0)], .agg [.lit (.int .u8 0), .lit (.int .u8 0)], .agg [.lit (.int .u8 0), .lit (.int .u8 0)], .agg [.lit (.int .u8 0), .lit (.int .u8 0)], .agg [.lit (.int .u8 0), .lit (.int .u8 0)]]
/-- One of Go's own tables, pinned by name: the form's constant. -/
def laid_unicode_utf8_first : DataW Unit := Go.Pinned.utf8First

/-- 'tesseralaw17.DetokKept': WHATEVER THE INPUT: true; the input reads as it did. -/
def detokKeptSpec : ChangeSpec := { name := "detokKept", fn := fun _ => fun
  | [d1, d2] => { results := [.lit (.bool true)], args := [d1, d2] }
  | _ => none }
def detokKeptRow : OpenClaim := { program := "ytemnanhoiacphaadoor", sum := "5f0362d91166ad9722afe39d293e8ac99058d1b5ec58f2886b39ff36edbbc38a", func := "tessera/tesseralaw17.DetokKept", spec := "detokKept", unfollowed := true, recurses := true, named := ["unicode/utf8.first", "unicode/utf8.acceptRanges"], plainKeys := false, apart := false, laid := [("unicode/utf8.acceptRanges", laid_unicode_utf8_acceptRanges), ("unicode/utf8.first", laid_unicode_utf8_first)] }
def DetokKeptSaid : Prop := detokKeptRow.holds Tryd.pinned (OpenSpec.ofChange detokKeptSpec)

/-- ITS FALSE NEIGHBOUR: 'it returns false'. Refute it at one input. -/
def detokKeptWrong : ChangeSpec := { name := "detokKept", fn := fun _ => fun
  | [d1, d2] => { results := [.lit (.bool false)], args := [d1, d2] }
  | _ => none }
def DetokKeptWrongFalsely : Prop := detokKeptRow.holds Tryd.pinned (OpenSpec.ofChange detokKeptWrong)

/-- 'tesseralaw17.DetokTwo': WHATEVER THE INPUT: true; the input reads as it did. -/
def detokTwoSpec : ChangeSpec := { name := "detokTwo", fn := fun _ => fun
  | [d1, d2, d3] => { results := [.lit (.bool true)], args := [d1, d2, d3] }
  | _ => none }
def detokTwoRow : OpenClaim := { program := "ytemnanhoiacphaadoor", sum := "5f0362d91166ad9722afe39d293e8ac99058d1b5ec58f2886b39ff36edbbc38a", func := "tessera/tesseralaw17.DetokTwo", spec := "detokTwo", inPlace := ["internal/abi.NoEscape"], unfollowed := true, recurses := true, named := ["unicode/utf8.first", "unicode/utf8.acceptRanges"], plainKeys := false, apart := false, laid := [("unicode/utf8.acceptRanges", laid_unicode_utf8_acceptRanges), ("unicode/utf8.first", laid_unicode_utf8_first)] }
def DetokTwoSaid : Prop := detokTwoRow.holds Tryd.pinned (OpenSpec.ofChange detokTwoSpec)

/-- ITS FALSE NEIGHBOUR: 'it returns false'. Refute it at one input. -/
def detokTwoWrong : ChangeSpec := { name := "detokTwo", fn := fun _ => fun
  | [d1, d2, d3] => { results := [.lit (.bool false)], args := [d1, d2, d3] }
  | _ => none }
def DetokTwoWrongFalsely : Prop := detokTwoRow.holds Tryd.pinned (OpenSpec.ofChange detokTwoWrong)

/-- 'tesseralaw17.DetokBad': WHATEVER THE INPUT: true; the input reads as it did. -/
def detokBadSpec : ChangeSpec := { name := "detokBad", fn := fun _ => fun
  | [d1, d2, d3] => { results := [.lit (.bool true)], args := [d1, d2, d3] }
  | _ => none }
def detokBadRow : OpenClaim := { program := "ytemnanhoiacphaadoor", sum := "5f0362d91166ad9722afe39d293e8ac99058d1b5ec58f2886b39ff36edbbc38a", func := "tessera/tesseralaw17.DetokBad", spec := "detokBad", unfollowed := true, recurses := true, named := ["unicode/utf8.first", "unicode/utf8.acceptRanges"], plainKeys := false, apart := false, laid := [("unicode/utf8.acceptRanges", laid_unicode_utf8_acceptRanges), ("unicode/utf8.first", laid_unicode_utf8_first)] }
def DetokBadSaid : Prop := detokBadRow.holds Tryd.pinned (OpenSpec.ofChange detokBadSpec)

/-- ITS FALSE NEIGHBOUR: 'it returns false'. Refute it at one input. -/
def detokBadWrong : ChangeSpec := { name := "detokBad", fn := fun _ => fun
  | [d1, d2, d3] => { results := [.lit (.bool false)], args := [d1, d2, d3] }
  | _ => none }
def DetokBadWrongFalsely : Prop := detokBadRow.holds Tryd.pinned (OpenSpec.ofChange detokBadWrong)

/-- 'tesseralaw17.DetokNumbers': WHATEVER THE INPUT: true; the input reads as it did. -/
def detokNumbersSpec : ChangeSpec := { name := "detokNumbers", fn := fun _ => fun
  | [] => { results := [.lit (.bool true)], args := [] }
  | _ => none }
def detokNumbersRow : OpenClaim := { program := "ytemnanhoiacphaadoor", sum := "5f0362d91166ad9722afe39d293e8ac99058d1b5ec58f2886b39ff36edbbc38a", func := "tessera/tesseralaw17.DetokNumbers", spec := "detokNumbers", unfollowed := true, recurses := true, named := ["unicode/utf8.first", "unicode/utf8.acceptRanges"], plainKeys := false, apart := false, laid := [("unicode/utf8.acceptRanges", laid_unicode_utf8_acceptRanges), ("unicode/utf8.first", laid_unicode_utf8_first)] }
def DetokNumbersSaid : Prop := detokNumbersRow.holds Tryd.pinned (OpenSpec.ofChange detokNumbersSpec)

/-- ITS FALSE NEIGHBOUR: 'it returns false'. Refute it at one input. -/
def detokNumbersWrong : ChangeSpec := { name := "detokNumbers", fn := fun _ => fun
  | [] => { results := [.lit (.bool false)], args := [] }
  | _ => none }
def DetokNumbersWrongFalsely : Prop := detokNumbersRow.holds Tryd.pinned (OpenSpec.ofChange detokNumbersWrong)

/-- 'tesseralaw17.DetokPlays': WHATEVER THE INPUT: true; the input reads as it did. -/
def detokPlaysSpec : ChangeSpec := { name := "detokPlays", fn := fun _ => fun
  | [d1, d2, d3, d4] => { results := [.lit (.bool true)], args := [d1, d2, d3, d4] }
  | _ => none }
def detokPlaysRow : OpenClaim := { program := "ytemnanhoiacphaadoor", sum := "5f0362d91166ad9722afe39d293e8ac99058d1b5ec58f2886b39ff36edbbc38a", func := "tessera/tesseralaw17.DetokPlays", spec := "detokPlays", unfollowed := true, recurses := true, named := ["unicode/utf8.first", "unicode/utf8.acceptRanges"], plainKeys := false, apart := false, laid := [("unicode/utf8.acceptRanges", laid_unicode_utf8_acceptRanges), ("unicode/utf8.first", laid_unicode_utf8_first)] }
def DetokPlaysSaid : Prop := detokPlaysRow.holds Tryd.pinned (OpenSpec.ofChange detokPlaysSpec)

/-- ITS FALSE NEIGHBOUR: 'it returns false'. Refute it at one input. -/
def detokPlaysWrong : ChangeSpec := { name := "detokPlays", fn := fun _ => fun
  | [d1, d2, d3, d4] => { results := [.lit (.bool false)], args := [d1, d2, d3, d4] }
  | _ => none }
def DetokPlaysWrongFalsely : Prop := detokPlaysRow.holds Tryd.pinned (OpenSpec.ofChange detokPlaysWrong)

/-- 'tesseralaw17.DetokAll': WHATEVER THE INPUT: true; the input reads as it did. -/
def detokAllSpec : ChangeSpec := { name := "detokAll", fn := fun _ => fun
  | [d1, d2, d3, d4, d5] => { results := [.lit (.bool true)], args := [d1, d2, d3, d4, d5] }
  | _ => none }
def detokAllRow : OpenClaim := { program := "ytemnanhoiacphaadoor", sum := "5f0362d91166ad9722afe39d293e8ac99058d1b5ec58f2886b39ff36edbbc38a", func := "tessera/tesseralaw17.DetokAll", spec := "detokAll", inPlace := ["internal/abi.NoEscape"], unfollowed := true, recurses := true, named := ["unicode/utf8.first", "unicode/utf8.acceptRanges"], plainKeys := false, apart := false, laid := [("unicode/utf8.acceptRanges", laid_unicode_utf8_acceptRanges), ("unicode/utf8.first", laid_unicode_utf8_first)] }
def DetokAllSaid : Prop := detokAllRow.holds Tryd.pinned (OpenSpec.ofChange detokAllSpec)

/-- ITS FALSE NEIGHBOUR: 'it returns false'. Refute it at one input. -/
def detokAllWrong : ChangeSpec := { name := "detokAll", fn := fun _ => fun
  | [d1, d2, d3, d4, d5] => { results := [.lit (.bool false)], args := [d1, d2, d3, d4, d5] }
  | _ => none }
def DetokAllWrongFalsely : Prop := detokAllRow.holds Tryd.pinned (OpenSpec.ofChange detokAllWrong)

/- THE SECOND FORM. 'bulk': how many values and letters a reading holds, each counted each time it is reached (what is shared counts as often as it is met; a slice's spare places count too). A statement '..UptoSaid' is the law's where the arguments, and the package variables that the reading takes, are together of bulk at most 1048576: NARROWER than '..Said'. Prove '..Said' where nothing that the law and all that it calls make is longer than what came in: it says more and counts as full. Else prove '..UptoSaid'. A law counts once. -/
mutual
def uptoBulk {H : Type} : DataW H → Nat
  | .lit (.string bytes) => bytes.length + 1
  | .lit _ => 1
  | .nil => 1
  | .ptr d => uptoBulk d + 1
  | .slice elems spare => uptoBulkAll elems + uptoBulkAll spare + 1
  | .agg parts => uptoBulkAll parts + 1
  | .iface _ d => uptoBulk d + 1
  | .map entries => uptoBulkEntries entries + 1
  | .held _ => 1
def uptoBulkAll {H : Type} : List (DataW H) → Nat
  | [] => 0
  | d :: r => uptoBulk d + uptoBulkAll r
def uptoBulkEntries {H : Type} : List (Lit × DataW H) → Nat
  | [] => 0
  | x :: r => uptoBulkEntry x + uptoBulkEntries r
def uptoBulkEntry {H : Type} : Lit × DataW H → Nat
  | (.string bytes, d) => bytes.length + uptoBulk d + 1
  | (_, d) => uptoBulk d + 1
 end
def uptoSmall : (H : Type) → List (DataW H) → Bool := fun _ ds => decide (uptoBulkAll ds ≤ 1048576)
def OpenSpec.upto (s : _root_.Go.ChangeSpec) : _root_.Go.OpenSpec := { _root_.Go.OpenSpec.ofChange s with cond := some uptoSmall }

/-- 'tesseralaw17.DetokKept', WHERE WHAT IT READS IS OF BULK AT MOST 1048576: true; the input reads as it did. -/
def detokKeptUptoRow : OpenClaim := { program := "ytemnanhoiacphaadoor", sum := "5f0362d91166ad9722afe39d293e8ac99058d1b5ec58f2886b39ff36edbbc38a", func := "tessera/tesseralaw17.DetokKept", spec := "detokKept", unfollowed := true, recurses := true, named := ["unicode/utf8.first", "unicode/utf8.acceptRanges"], plainKeys := false, apart := false, laid := [("unicode/utf8.acceptRanges", laid_unicode_utf8_acceptRanges), ("unicode/utf8.first", laid_unicode_utf8_first)], narrowed := true }
def DetokKeptUptoSaid : Prop := detokKeptUptoRow.holds Tryd.pinned (OpenSpec.upto detokKeptSpec)

/-- 'tesseralaw17.DetokTwo', WHERE WHAT IT READS IS OF BULK AT MOST 1048576: true; the input reads as it did. -/
def detokTwoUptoRow : OpenClaim := { program := "ytemnanhoiacphaadoor", sum := "5f0362d91166ad9722afe39d293e8ac99058d1b5ec58f2886b39ff36edbbc38a", func := "tessera/tesseralaw17.DetokTwo", spec := "detokTwo", inPlace := ["internal/abi.NoEscape"], unfollowed := true, recurses := true, named := ["unicode/utf8.first", "unicode/utf8.acceptRanges"], plainKeys := false, apart := false, laid := [("unicode/utf8.acceptRanges", laid_unicode_utf8_acceptRanges), ("unicode/utf8.first", laid_unicode_utf8_first)], narrowed := true }
def DetokTwoUptoSaid : Prop := detokTwoUptoRow.holds Tryd.pinned (OpenSpec.upto detokTwoSpec)

/-- 'tesseralaw17.DetokBad', WHERE WHAT IT READS IS OF BULK AT MOST 1048576: true; the input reads as it did. -/
def detokBadUptoRow : OpenClaim := { program := "ytemnanhoiacphaadoor", sum := "5f0362d91166ad9722afe39d293e8ac99058d1b5ec58f2886b39ff36edbbc38a", func := "tessera/tesseralaw17.DetokBad", spec := "detokBad", unfollowed := true, recurses := true, named := ["unicode/utf8.first", "unicode/utf8.acceptRanges"], plainKeys := false, apart := false, laid := [("unicode/utf8.acceptRanges", laid_unicode_utf8_acceptRanges), ("unicode/utf8.first", laid_unicode_utf8_first)], narrowed := true }
def DetokBadUptoSaid : Prop := detokBadUptoRow.holds Tryd.pinned (OpenSpec.upto detokBadSpec)

/-- 'tesseralaw17.DetokNumbers', WHERE WHAT IT READS IS OF BULK AT MOST 1048576: true; the input reads as it did. -/
def detokNumbersUptoRow : OpenClaim := { program := "ytemnanhoiacphaadoor", sum := "5f0362d91166ad9722afe39d293e8ac99058d1b5ec58f2886b39ff36edbbc38a", func := "tessera/tesseralaw17.DetokNumbers", spec := "detokNumbers", unfollowed := true, recurses := true, named := ["unicode/utf8.first", "unicode/utf8.acceptRanges"], plainKeys := false, apart := false, laid := [("unicode/utf8.acceptRanges", laid_unicode_utf8_acceptRanges), ("unicode/utf8.first", laid_unicode_utf8_first)], narrowed := true }
def DetokNumbersUptoSaid : Prop := detokNumbersUptoRow.holds Tryd.pinned (OpenSpec.upto detokNumbersSpec)

/-- 'tesseralaw17.DetokPlays', WHERE WHAT IT READS IS OF BULK AT MOST 1048576: true; the input reads as it did. -/
def detokPlaysUptoRow : OpenClaim := { program := "ytemnanhoiacphaadoor", sum := "5f0362d91166ad9722afe39d293e8ac99058d1b5ec58f2886b39ff36edbbc38a", func := "tessera/tesseralaw17.DetokPlays", spec := "detokPlays", unfollowed := true, recurses := true, named := ["unicode/utf8.first", "unicode/utf8.acceptRanges"], plainKeys := false, apart := false, laid := [("unicode/utf8.acceptRanges", laid_unicode_utf8_acceptRanges), ("unicode/utf8.first", laid_unicode_utf8_first)], narrowed := true }
def DetokPlaysUptoSaid : Prop := detokPlaysUptoRow.holds Tryd.pinned (OpenSpec.upto detokPlaysSpec)

/-- 'tesseralaw17.DetokAll', WHERE WHAT IT READS IS OF BULK AT MOST 1048576: true; the input reads as it did. -/
def detokAllUptoRow : OpenClaim := { program := "ytemnanhoiacphaadoor", sum := "5f0362d91166ad9722afe39d293e8ac99058d1b5ec58f2886b39ff36edbbc38a", func := "tessera/tesseralaw17.DetokAll", spec := "detokAll", inPlace := ["internal/abi.NoEscape"], unfollowed := true, recurses := true, named := ["unicode/utf8.first", "unicode/utf8.acceptRanges"], plainKeys := false, apart := false, laid := [("unicode/utf8.acceptRanges", laid_unicode_utf8_acceptRanges), ("unicode/utf8.first", laid_unicode_utf8_first)], narrowed := true }
def DetokAllUptoSaid : Prop := detokAllUptoRow.holds Tryd.pinned (OpenSpec.upto detokAllSpec)

end Rows
end Go.Proofs.YtemnanhoiacphaaDoor
