/-
  No cell of these rows narrows 'for every input' (looked for: loops, veiled, ifaces, maps, wideKeys, modest, calm, conditions, laid).
  DERIVED. THE GIVEN ROWS OF THIS SEAT. 6 by the template 'for every input the law returns true; each argument reads behind the call as it read before'; 0 by the template 'total and deterministic' (their statements: YtfnhdkabfkjodaaTotals.lean).
  GIVEN WITH THE SEED: the statements are not yours to turn. If you find one false, say at which input.
  Laid BY PROGRAM, IN A SANDBOX (cutbox-rows.mjs): the forced cells as the released guide's own fill.sh prints them over the translation dae5e7d18c31dc8b… (all of the seat's roots in one cut). By AI agents, Wed Nov 11 2026. No macro, syntax, notation, axiom, sorry.
-/
import Derived.Test.YtfnhdkabfkjodaaChecked
import GoSem.Claim
import GoSem.ClaimJoined
import GoSem.ClaimMapViews
import Derived.JoinedTies
import Derived.KernelRfl
namespace Go.Proofs.Ytfnhdkabfkjodaa
/- THE CELL 'sum', in the pinned program and in every row, IS THE sha256 OF THE DUMP (.gsa) THAT YtfnhdkabfkjodaaProg.lean LOADS. Nothing in Lean hashes anything: it is a label: what it is worth is what the hold of that sum in a sandbox is worth. -/
noncomputable def Try.pinned : Pinned := { name := "ytfnhdkabfkjodaa", sum := "dae5e7d18c31dc8b86f5ece72a1cc429a0d5e0c3ae3f2ddc8d39b73e4aeb4566", checked := Try.checked }
namespace Rows
def none {H : Type} : Left H := { results := [], args := [] }

/-- 'tesseralaw5.ModelRight': WHATEVER THE INPUT: true; the input reads as it did. -/
def modelRightSpec : ChangeSpec := { name := "modelRight", fn := fun _ => fun
  | [d] => { results := [.lit (.bool true)], args := [d] }
  | _ => none }
def modelRightRow : OpenClaim := { program := "ytfnhdkabfkjodaa", sum := "dae5e7d18c31dc8b86f5ece72a1cc429a0d5e0c3ae3f2ddc8d39b73e4aeb4566", func := "tessera/tesseralaw5.ModelRight", spec := "modelRight", unfollowed := true, recurses := true, plainKeys := false, apart := false }
def ModelRightSaid : Prop := modelRightRow.holds Try.pinned (OpenSpec.ofChange modelRightSpec)

/-- ITS FALSE NEIGHBOUR: 'it returns false'. Refute it at one input. -/
def modelRightWrong : ChangeSpec := { name := "modelRight", fn := fun _ => fun
  | [d] => { results := [.lit (.bool false)], args := [d] }
  | _ => none }
def ModelRightWrongFalsely : Prop := modelRightRow.holds Try.pinned (OpenSpec.ofChange modelRightWrong)

/-- 'tesseralaw5.ModelNamed': WHATEVER THE INPUT: true; the input reads as it did. -/
def modelNamedSpec : ChangeSpec := { name := "modelNamed", fn := fun _ => fun
  | [d1, d2, d3, d4] => { results := [.lit (.bool true)], args := [d1, d2, d3, d4] }
  | _ => none }
def modelNamedRow : OpenClaim := { program := "ytfnhdkabfkjodaa", sum := "dae5e7d18c31dc8b86f5ece72a1cc429a0d5e0c3ae3f2ddc8d39b73e4aeb4566", func := "tessera/tesseralaw5.ModelNamed", spec := "modelNamed", unfollowed := true, recurses := true, plainKeys := false, apart := false }
def ModelNamedSaid : Prop := modelNamedRow.holds Try.pinned (OpenSpec.ofChange modelNamedSpec)

/-- ITS FALSE NEIGHBOUR: 'it returns false'. Refute it at one input. -/
def modelNamedWrong : ChangeSpec := { name := "modelNamed", fn := fun _ => fun
  | [d1, d2, d3, d4] => { results := [.lit (.bool false)], args := [d1, d2, d3, d4] }
  | _ => none }
def ModelNamedWrongFalsely : Prop := modelNamedRow.holds Try.pinned (OpenSpec.ofChange modelNamedWrong)

/-- 'tesseralaw5.ModelAll': WHATEVER THE INPUT: true; the input reads as it did. -/
def modelAllSpec : ChangeSpec := { name := "modelAll", fn := fun _ => fun
  | [d] => { results := [.lit (.bool true)], args := [d] }
  | _ => none }
def modelAllRow : OpenClaim := { program := "ytfnhdkabfkjodaa", sum := "dae5e7d18c31dc8b86f5ece72a1cc429a0d5e0c3ae3f2ddc8d39b73e4aeb4566", func := "tessera/tesseralaw5.ModelAll", spec := "modelAll", unfollowed := true, recurses := true, plainKeys := false, apart := false }
def ModelAllSaid : Prop := modelAllRow.holds Try.pinned (OpenSpec.ofChange modelAllSpec)

/-- ITS FALSE NEIGHBOUR: 'it returns false'. Refute it at one input. -/
def modelAllWrong : ChangeSpec := { name := "modelAll", fn := fun _ => fun
  | [d] => { results := [.lit (.bool false)], args := [d] }
  | _ => none }
def ModelAllWrongFalsely : Prop := modelAllRow.holds Try.pinned (OpenSpec.ofChange modelAllWrong)

/-- 'tesseralaw5.ModelKept': WHATEVER THE INPUT: true; the input reads as it did. -/
def modelKeptSpec : ChangeSpec := { name := "modelKept", fn := fun _ => fun
  | [d] => { results := [.lit (.bool true)], args := [d] }
  | _ => none }
def modelKeptRow : OpenClaim := { program := "ytfnhdkabfkjodaa", sum := "dae5e7d18c31dc8b86f5ece72a1cc429a0d5e0c3ae3f2ddc8d39b73e4aeb4566", func := "tessera/tesseralaw5.ModelKept", spec := "modelKept", unfollowed := true, recurses := true, plainKeys := false, apart := false }
def ModelKeptSaid : Prop := modelKeptRow.holds Try.pinned (OpenSpec.ofChange modelKeptSpec)

/-- ITS FALSE NEIGHBOUR: 'it returns false'. Refute it at one input. -/
def modelKeptWrong : ChangeSpec := { name := "modelKept", fn := fun _ => fun
  | [d] => { results := [.lit (.bool false)], args := [d] }
  | _ => none }
def ModelKeptWrongFalsely : Prop := modelKeptRow.holds Try.pinned (OpenSpec.ofChange modelKeptWrong)

/-- 'tesseralaw5.ModelSays': WHATEVER THE INPUT: true; the input reads as it did. -/
def modelSaysSpec : ChangeSpec := { name := "modelSays", fn := fun _ => fun
  | [d1, d2, d3, d4] => { results := [.lit (.bool true)], args := [d1, d2, d3, d4] }
  | _ => none }
def modelSaysRow : OpenClaim := { program := "ytfnhdkabfkjodaa", sum := "dae5e7d18c31dc8b86f5ece72a1cc429a0d5e0c3ae3f2ddc8d39b73e4aeb4566", func := "tessera/tesseralaw5.ModelSays", spec := "modelSays", unfollowed := true, recurses := true, plainKeys := false, apart := false }
def ModelSaysSaid : Prop := modelSaysRow.holds Try.pinned (OpenSpec.ofChange modelSaysSpec)

/-- ITS FALSE NEIGHBOUR: 'it returns false'. Refute it at one input. -/
def modelSaysWrong : ChangeSpec := { name := "modelSays", fn := fun _ => fun
  | [d1, d2, d3, d4] => { results := [.lit (.bool false)], args := [d1, d2, d3, d4] }
  | _ => none }
def ModelSaysWrongFalsely : Prop := modelSaysRow.holds Try.pinned (OpenSpec.ofChange modelSaysWrong)

/-- 'tesseralaw5.ModelNumbers': WHATEVER THE INPUT: true; the input reads as it did. -/
def modelNumbersSpec : ChangeSpec := { name := "modelNumbers", fn := fun _ => fun
  | [] => { results := [.lit (.bool true)], args := [] }
  | _ => none }
def modelNumbersRow : OpenClaim := { program := "ytfnhdkabfkjodaa", sum := "dae5e7d18c31dc8b86f5ece72a1cc429a0d5e0c3ae3f2ddc8d39b73e4aeb4566", func := "tessera/tesseralaw5.ModelNumbers", spec := "modelNumbers", unfollowed := true, recurses := true, plainKeys := false, apart := false }
def ModelNumbersSaid : Prop := modelNumbersRow.holds Try.pinned (OpenSpec.ofChange modelNumbersSpec)

/-- ITS FALSE NEIGHBOUR: 'it returns false'. Refute it at one input. -/
def modelNumbersWrong : ChangeSpec := { name := "modelNumbers", fn := fun _ => fun
  | [] => { results := [.lit (.bool false)], args := [] }
  | _ => none }
def ModelNumbersWrongFalsely : Prop := modelNumbersRow.holds Try.pinned (OpenSpec.ofChange modelNumbersWrong)

/- THE SECOND FORM. 'bulk': how many values and letters a reading holds, each counted each time it is reached (what is shared counts as often as it is met; a slice's spare places count too). A statement '..UptoSaid' is the law's where the arguments, and the package variables that the reading takes, are together of bulk at most 1048576: NARROWER than '..Said'. Prove '..Said' where nothing that the law and all that it calls make is longer than what came in: it says more and counts as full. Else prove '..UptoSaid'. A law counts once. -/
mutual
def uptoBulk {H : Type} : DataW H → Nat
  | .lit (.string bytes) => bytes.length + 1
  | .lit _ => 1
  | .nil => 1
  | .ptr d => uptoBulk d + 1
  | .slice elems spare => uptoBulkAll elems + uptoBulkAll spare + 1
  | .agg parts => uptoBulkAll parts + 1
  | .iface _ d => uptoBulk d + 1
  | .map entries => uptoBulkEntries entries + 1
  | .held _ => 1
def uptoBulkAll {H : Type} : List (DataW H) → Nat
  | [] => 0
  | d :: r => uptoBulk d + uptoBulkAll r
def uptoBulkEntries {H : Type} : List (Lit × DataW H) → Nat
  | [] => 0
  | x :: r => uptoBulkEntry x + uptoBulkEntries r
def uptoBulkEntry {H : Type} : Lit × DataW H → Nat
  | (.string bytes, d) => bytes.length + uptoBulk d + 1
  | (_, d) => uptoBulk d + 1
 end
def uptoSmall : (H : Type) → List (DataW H) → Bool := fun _ ds => decide (uptoBulkAll ds ≤ 1048576)
def OpenSpec.upto (s : _root_.Go.ChangeSpec) : _root_.Go.OpenSpec := { _root_.Go.OpenSpec.ofChange s with cond := some uptoSmall }

/-- 'tesseralaw5.ModelRight', WHERE WHAT IT READS IS OF BULK AT MOST 1048576: true; the input reads as it did. -/
def modelRightUptoRow : OpenClaim := { program := "ytfnhdkabfkjodaa", sum := "dae5e7d18c31dc8b86f5ece72a1cc429a0d5e0c3ae3f2ddc8d39b73e4aeb4566", func := "tessera/tesseralaw5.ModelRight", spec := "modelRight", unfollowed := true, recurses := true, plainKeys := false, apart := false, narrowed := true }
def ModelRightUptoSaid : Prop := modelRightUptoRow.holds Try.pinned (OpenSpec.upto modelRightSpec)

/-- 'tesseralaw5.ModelNamed', WHERE WHAT IT READS IS OF BULK AT MOST 1048576: true; the input reads as it did. -/
def modelNamedUptoRow : OpenClaim := { program := "ytfnhdkabfkjodaa", sum := "dae5e7d18c31dc8b86f5ece72a1cc429a0d5e0c3ae3f2ddc8d39b73e4aeb4566", func := "tessera/tesseralaw5.ModelNamed", spec := "modelNamed", unfollowed := true, recurses := true, plainKeys := false, apart := false, narrowed := true }
def ModelNamedUptoSaid : Prop := modelNamedUptoRow.holds Try.pinned (OpenSpec.upto modelNamedSpec)

/-- 'tesseralaw5.ModelAll', WHERE WHAT IT READS IS OF BULK AT MOST 1048576: true; the input reads as it did. -/
def modelAllUptoRow : OpenClaim := { program := "ytfnhdkabfkjodaa", sum := "dae5e7d18c31dc8b86f5ece72a1cc429a0d5e0c3ae3f2ddc8d39b73e4aeb4566", func := "tessera/tesseralaw5.ModelAll", spec := "modelAll", unfollowed := true, recurses := true, plainKeys := false, apart := false, narrowed := true }
def ModelAllUptoSaid : Prop := modelAllUptoRow.holds Try.pinned (OpenSpec.upto modelAllSpec)

/-- 'tesseralaw5.ModelKept', WHERE WHAT IT READS IS OF BULK AT MOST 1048576: true; the input reads as it did. -/
def modelKeptUptoRow : OpenClaim := { program := "ytfnhdkabfkjodaa", sum := "dae5e7d18c31dc8b86f5ece72a1cc429a0d5e0c3ae3f2ddc8d39b73e4aeb4566", func := "tessera/tesseralaw5.ModelKept", spec := "modelKept", unfollowed := true, recurses := true, plainKeys := false, apart := false, narrowed := true }
def ModelKeptUptoSaid : Prop := modelKeptUptoRow.holds Try.pinned (OpenSpec.upto modelKeptSpec)

/-- 'tesseralaw5.ModelSays', WHERE WHAT IT READS IS OF BULK AT MOST 1048576: true; the input reads as it did. -/
def modelSaysUptoRow : OpenClaim := { program := "ytfnhdkabfkjodaa", sum := "dae5e7d18c31dc8b86f5ece72a1cc429a0d5e0c3ae3f2ddc8d39b73e4aeb4566", func := "tessera/tesseralaw5.ModelSays", spec := "modelSays", unfollowed := true, recurses := true, plainKeys := false, apart := false, narrowed := true }
def ModelSaysUptoSaid : Prop := modelSaysUptoRow.holds Try.pinned (OpenSpec.upto modelSaysSpec)

/-- 'tesseralaw5.ModelNumbers', WHERE WHAT IT READS IS OF BULK AT MOST 1048576: true; the input reads as it did. -/
def modelNumbersUptoRow : OpenClaim := { program := "ytfnhdkabfkjodaa", sum := "dae5e7d18c31dc8b86f5ece72a1cc429a0d5e0c3ae3f2ddc8d39b73e4aeb4566", func := "tessera/tesseralaw5.ModelNumbers", spec := "modelNumbers", unfollowed := true, recurses := true, plainKeys := false, apart := false, narrowed := true }
def ModelNumbersUptoSaid : Prop := modelNumbersUptoRow.holds Try.pinned (OpenSpec.upto modelNumbersSpec)

end Rows
end Go.Proofs.Ytfnhdkabfkjodaa
