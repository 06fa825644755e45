/-
  No cell of these rows narrows 'for every input' (looked for: loops, veiled, ifaces, maps, wideKeys, modest, calm, conditions, laid).
  DERIVED. THE GIVEN ROWS OF THIS SEAT. 3 by the template 'for every input the law returns true; each argument reads behind the call as it read before'; 0 by the template 'total and deterministic' (their statements: YtodgllnmepnpfaaTotals.lean).
  GIVEN WITH THE SEED: the statements are not yours to turn. If you find one false, say at which input.
  Laid BY PROGRAM, IN A SANDBOX (cutbox-rows.mjs): the forced cells as the released guide's own fill.sh prints them over the translation 633ac0ce75aec00a… (all of the seat's roots in one cut). By AI agents, Wed Nov 11 2026. No macro, syntax, notation, axiom, sorry.
-/
import Derived.Test.YtodgllnmepnpfaaChecked
import GoSem.Claim
import GoSem.ClaimJoined
import GoSem.ClaimMapViews
import Derived.JoinedTies
import Derived.KernelRfl
namespace Go.Proofs.Ytodgllnmepnpfaa
/- THE CELL 'sum', in the pinned program and in every row, IS THE sha256 OF THE DUMP (.gsa) THAT YtodgllnmepnpfaaProg.lean LOADS. Nothing in Lean hashes anything: it is a label: what it is worth is what the hold of that sum in a sandbox is worth. -/
noncomputable def Try.pinned : Pinned := { name := "ytodgllnmepnpfaa", sum := "633ac0ce75aec00a3b8dd46865838d336dc9362cbdc2c251dd059683fb13e1a4", checked := Try.checked }
namespace Rows
def none {H : Type} : Left H := { results := [], args := [] }

/-- 'tesseralaw4.ClassesRight': WHATEVER THE INPUT: true; the input reads as it did. -/
def classesRightSpec : ChangeSpec := { name := "classesRight", fn := fun _ => fun
  | [d1, d2, d3] => { results := [.lit (.bool true)], args := [d1, d2, d3] }
  | _ => none }
def classesRightRow : OpenClaim := { program := "ytodgllnmepnpfaa", sum := "633ac0ce75aec00a3b8dd46865838d336dc9362cbdc2c251dd059683fb13e1a4", func := "tessera/tesseralaw4.ClassesRight", spec := "classesRight", unfollowed := true, recurses := true, apart := false }
def ClassesRightSaid : Prop := classesRightRow.holds Try.pinned (OpenSpec.ofChange classesRightSpec)

/-- ITS FALSE NEIGHBOUR: 'it returns false'. Refute it at one input. -/
def classesRightWrong : ChangeSpec := { name := "classesRight", fn := fun _ => fun
  | [d1, d2, d3] => { results := [.lit (.bool false)], args := [d1, d2, d3] }
  | _ => none }
def ClassesRightWrongFalsely : Prop := classesRightRow.holds Try.pinned (OpenSpec.ofChange classesRightWrong)

/-- 'tesseralaw4.ClassesKept': WHATEVER THE INPUT: true; the input reads as it did. -/
def classesKeptSpec : ChangeSpec := { name := "classesKept", fn := fun _ => fun
  | [d1, d2] => { results := [.lit (.bool true)], args := [d1, d2] }
  | _ => none }
def classesKeptRow : OpenClaim := { program := "ytodgllnmepnpfaa", sum := "633ac0ce75aec00a3b8dd46865838d336dc9362cbdc2c251dd059683fb13e1a4", func := "tessera/tesseralaw4.ClassesKept", spec := "classesKept", unfollowed := true, recurses := true, apart := false }
def ClassesKeptSaid : Prop := classesKeptRow.holds Try.pinned (OpenSpec.ofChange classesKeptSpec)

/-- ITS FALSE NEIGHBOUR: 'it returns false'. Refute it at one input. -/
def classesKeptWrong : ChangeSpec := { name := "classesKept", fn := fun _ => fun
  | [d1, d2] => { results := [.lit (.bool false)], args := [d1, d2] }
  | _ => none }
def ClassesKeptWrongFalsely : Prop := classesKeptRow.holds Try.pinned (OpenSpec.ofChange classesKeptWrong)

/-- 'tesseralaw4.ClassesKinds': WHATEVER THE INPUT: true; the input reads as it did. -/
def classesKindsSpec : ChangeSpec := { name := "classesKinds", fn := fun _ => fun
  | [d1, d2, d3] => { results := [.lit (.bool true)], args := [d1, d2, d3] }
  | _ => none }
def classesKindsRow : OpenClaim := { program := "ytodgllnmepnpfaa", sum := "633ac0ce75aec00a3b8dd46865838d336dc9362cbdc2c251dd059683fb13e1a4", func := "tessera/tesseralaw4.ClassesKinds", spec := "classesKinds", unfollowed := true, recurses := true, apart := false }
def ClassesKindsSaid : Prop := classesKindsRow.holds Try.pinned (OpenSpec.ofChange classesKindsSpec)

/-- ITS FALSE NEIGHBOUR: 'it returns false'. Refute it at one input. -/
def classesKindsWrong : ChangeSpec := { name := "classesKinds", fn := fun _ => fun
  | [d1, d2, d3] => { results := [.lit (.bool false)], args := [d1, d2, d3] }
  | _ => none }
def ClassesKindsWrongFalsely : Prop := classesKindsRow.holds Try.pinned (OpenSpec.ofChange classesKindsWrong)

/- THE SECOND FORM. 'bulk': how many values and letters a reading holds, each counted each time it is reached (what is shared counts as often as it is met; a slice's spare places count too). A statement '..UptoSaid' is the law's where the arguments, and the package variables that the reading takes, are together of bulk at most 1048576: NARROWER than '..Said'. Prove '..Said' where nothing that the law and all that it calls make is longer than what came in: it says more and counts as full. Else prove '..UptoSaid'. A law counts once. -/
mutual
def uptoBulk {H : Type} : DataW H → Nat
  | .lit (.string bytes) => bytes.length + 1
  | .lit _ => 1
  | .nil => 1
  | .ptr d => uptoBulk d + 1
  | .slice elems spare => uptoBulkAll elems + uptoBulkAll spare + 1
  | .agg parts => uptoBulkAll parts + 1
  | .iface _ d => uptoBulk d + 1
  | .map entries => uptoBulkEntries entries + 1
  | .held _ => 1
def uptoBulkAll {H : Type} : List (DataW H) → Nat
  | [] => 0
  | d :: r => uptoBulk d + uptoBulkAll r
def uptoBulkEntries {H : Type} : List (Lit × DataW H) → Nat
  | [] => 0
  | x :: r => uptoBulkEntry x + uptoBulkEntries r
def uptoBulkEntry {H : Type} : Lit × DataW H → Nat
  | (.string bytes, d) => bytes.length + uptoBulk d + 1
  | (_, d) => uptoBulk d + 1
 end
def uptoSmall : (H : Type) → List (DataW H) → Bool := fun _ ds => decide (uptoBulkAll ds ≤ 1048576)
def OpenSpec.upto (s : _root_.Go.ChangeSpec) : _root_.Go.OpenSpec := { _root_.Go.OpenSpec.ofChange s with cond := some uptoSmall }

/-- 'tesseralaw4.ClassesRight', WHERE WHAT IT READS IS OF BULK AT MOST 1048576: true; the input reads as it did. -/
def classesRightUptoRow : OpenClaim := { program := "ytodgllnmepnpfaa", sum := "633ac0ce75aec00a3b8dd46865838d336dc9362cbdc2c251dd059683fb13e1a4", func := "tessera/tesseralaw4.ClassesRight", spec := "classesRight", unfollowed := true, recurses := true, apart := false, narrowed := true }
def ClassesRightUptoSaid : Prop := classesRightUptoRow.holds Try.pinned (OpenSpec.upto classesRightSpec)

/-- 'tesseralaw4.ClassesKept', WHERE WHAT IT READS IS OF BULK AT MOST 1048576: true; the input reads as it did. -/
def classesKeptUptoRow : OpenClaim := { program := "ytodgllnmepnpfaa", sum := "633ac0ce75aec00a3b8dd46865838d336dc9362cbdc2c251dd059683fb13e1a4", func := "tessera/tesseralaw4.ClassesKept", spec := "classesKept", unfollowed := true, recurses := true, apart := false, narrowed := true }
def ClassesKeptUptoSaid : Prop := classesKeptUptoRow.holds Try.pinned (OpenSpec.upto classesKeptSpec)

/-- 'tesseralaw4.ClassesKinds', WHERE WHAT IT READS IS OF BULK AT MOST 1048576: true; the input reads as it did. -/
def classesKindsUptoRow : OpenClaim := { program := "ytodgllnmepnpfaa", sum := "633ac0ce75aec00a3b8dd46865838d336dc9362cbdc2c251dd059683fb13e1a4", func := "tessera/tesseralaw4.ClassesKinds", spec := "classesKinds", unfollowed := true, recurses := true, apart := false, narrowed := true }
def ClassesKindsUptoSaid : Prop := classesKindsUptoRow.holds Try.pinned (OpenSpec.upto classesKindsSpec)

end Rows
end Go.Proofs.Ytodgllnmepnpfaa
