/- The marks that a book of items is written over with. -/
import Derived.Test.YteadcibbpbbehaaDoorBook1
import Derived.Test.YteadcibbpbbehaaDoorIBk
set_option linter.unusedVariables false
set_option linter.unusedSimpArgs false
namespace Go.Proofs.YteadcibbpbbehaaDoor
open Go.RowKit

abbrev Mi := Int × Int
def mits1 (p : Mi) : List Value := [.int .i64 p.1, .int .i64 p.2, .int .i32 0, .bool false]
def mits (l : List Mi) : List Value := l.flatMap mits1
theorem mits_length (l : List Mi) : (mits l).length = l.length * 4 := by
  unfold mits
  induction l with
  | nil => rfl
  | cons a l ih => rw [List.flatMap_cons, List.length_append, ih, List.length_cons]; simp [mits1]; omega
def mkI (i j : Nat) : Mi := (-100 - (i : Int), -(j : Int))
theorem flatMap_cell {α : Type} {enc : α → List Value} {size : Nat} (l : List α) (hs : ∀ x ∈ l, (enc x).length = size) (k : Nat) (x : α) (j : Nat) (h : l[k]? = some x) (hj : j < size) : (l.flatMap enc)[k * size + j]? = (enc x)[j]? := by
  induction l generalizing k with
  | nil => simp at h
  | cons a l ih =>
    rw [List.flatMap_cons]
    have ha := hs a (by simp)
    cases k with
    | zero =>
      have : a = x := by simpa using h
      subst this
      rw [Nat.zero_mul, Nat.zero_add, List.getElem?_append_left (by omega)]
    | succ k =>
      rw [List.getElem?_append_right (by rw [ha, Nat.succ_mul]; omega), ha, show (k + 1) * size + j - size = k * size + j by rw [Nat.succ_mul]; omega]
      exact ih (fun y hy => hs y (by simp [hy])) k (by simpa using h)
theorem results_cellD {fn : Func} {p : Tmp} {ty : TypeId} (h : fn.results = #[.cell p ty]) (tmps : Array Value) (P : Program) (w : World) :
    (results fn tmps).run P w = ((asAddr (tmps.getD p undef)).run P w).andThen fun a w₁ => (loadVar ty a).run P w₁ := by
  unfold results
  rw [h]
  simp [Sem.run_bind, Result.andThen, Sem.run_pure]
theorem loadIt {w : World} {h0 : Nat} {v0 v1 v2 v3 : Value} (hb : Blk w h0 33 [v0, v1, v2, v3]) :
    (((asAddr (.pointer (some ⟨h0, 0, none⟩))).run Tryd.prog w).andThen fun a w₁ => (loadVar 33 a).run Tryd.prog w₁) = Result.ok (Value.agg #[v0, v1, v2, v3]) w := by
  have c0 : w.cell? ⟨h0, 0, none⟩ = some v0 := hb.cell 0
  have c1 : w.cell? ⟨h0, 1, none⟩ = some v1 := hb.cell 1
  have c2 : w.cell? ⟨h0, 2, none⟩ = some v2 := hb.cell 2
  have c3 : w.cell? ⟨h0, 3, none⟩ = some v3 := hb.cell 3
  go_simp
set_option maxRecDepth 100000 in
set_option maxHeartbeats 1000000 in
theorem markI_any (i j : Nat) (w : World) (hi : i ≤ 5000) (hj : j ≤ 9223372036854775807) : Calls Tryd.prog 27 #[.int .i64 (i : Int), .int .i64 (j : Int)] w fun e w' => e = .returned (.agg #[.int .i64 (mkI i j).1, .int .i64 (mkI i j).2, .int .i32 0, .bool false]) ∧ Only [] w w' := by
  obtain ⟨h, hh⟩ : ∃ h, h = w.heap.size := ⟨_, rfl⟩
  go_enter Tryd.func27, Tryd.ntmps27
  go_wp2_with (fail)
  refine bodyPost_ret (v := .agg #[.int .i64 (-100 - (i : Int)), .int .i64 (-(j : Int)), .int .i32 0, .bool false]) ?_ rfl ⟨rfl, (Only.refl _ _).alloc _⟩
  rw [results_cellD rfl]
  exact loadIt (Blk.new' _ _ _ rfl rfl)
end Go.Proofs.YteadcibbpbbehaaDoor
