/- the law's moved, few. -/
import Derived.Test.YteadcibbpbbehaaDoorSc4
set_option linter.unusedVariables false
set_option linter.unusedSimpArgs false
namespace Go.Proofs.YteadcibbpbbehaaDoor
open Go.RowKit

set_option maxRecDepth 100000 in
set_option maxHeartbeats 2000000 in
theorem moved_any (w : World) (d : Nat) (l : List It) (A : Option Addr) (n c : Nat) (hn : l.length = n) (hR : Rd w w.heap.size 4 A n (l.flatMap It.enc)) (hl : n ≤ 1048576) (hd : d ≤ 140737488355328) (ha : ∀ x ∈ l, x.at_ ≤ 140737488355328) :
    Calls Tryd.prog 31 #[.slice A n c, .int .i64 (d : Int)] w fun e w' => ∃ v, e = .returned v ∧ w'.ownsRow w.heap.size 34 4 v (movedL d l).length ((movedL d l).flatMap It.enc) ∧ Only [] w w' := by
  go_enter Tryd.func31, Tryd.ntmps31
  go_wp2_with (fail)
  go_loopw [5, 6, 7] (fun v vi vx wr => ∃ i : Nat, vi = .int .i64 (i : Int) ∧ i ≤ n ∧ wr.ownsRow w.heap.size 34 4 v (movedL d (l.take i)).length ((movedL d (l.take i)).flatMap It.enc) ∧ Only [] w wr) (fun _ vi _ _ => n - (intOf vi).toNat)
  case atStart => exact ⟨0, rfl, by omega, ⟨by simp [movedL], .inl ⟨rfl, by simp [movedL]⟩⟩, .refl _ _⟩
  case round =>
    obtain ⟨i, rfl, hi, hown, hO⟩ := hrel
    by_cases hlt : i < n
    · obtain ⟨x, hx⟩ : ∃ x, l[i]? = some x := ⟨_, List.getElem?_eq_getElem (by omega)⟩
      obtain ⟨g, o, rfl, _, q0, q1, q2, q3⟩ := (hR.only hO (by simp)).it hx
      have hxa := ha x (List.mem_of_getElem? hx)
      have htk : l.take (i + 1) = l.take i ++ [x] := by rw [List.take_add_one, hx]; rfl
      have hml : movedL d (l.take (i + 1)) = movedL d (l.take i) ++ [x.by_ d] := by rw [htk]; simp [movedL]
      obtain ⟨xa, xn, xr, xb⟩ := x
      simp only at q0 q1 q2 q3 hxa
      have hOa : Only [] wr (wr.alloc (.cells #[.int .i64 ((xa : Int) + (d : Int)), .int .i64 (xn : Int), .int .i32 (xr : Int), .bool xb] 34)) := (Only.refl _ _).alloc _
      have hz : (wr.alloc (.cells #[.int .i64 ((xa : Int) + (d : Int)), .int .i64 (xn : Int), .int .i32 (xr : Int), .bool xb] 34)).heap.size = wr.heap.size + 1 := by simp
      have hll : (movedL d (l.take i)).length = i := by unfold movedL; rw [List.length_map, List.length_take]; omega
      have hsz := hO.size
      obtain ⟨A1, cc1, rfl, -⟩ := own_slice hown
      obtain ⟨v', w', hrun, hown', hO', -⟩ := app_it Tryd.prog 22 34 Tryd.underlying22 (by kernel_rfl) (own_only hown hOa (by simp)) (by omega) ⟨xa + d, xn, xr, xb⟩ (by omega)
      rw [hz] at hrun
      simp only [It.enc, Int.natCast_add] at hrun
      have hvn : ∀ k, (Value.slice A1 (movedL d (l.take i)).length cc1).ownBlock = some k → w.heap.size ≤ k := fun k hk => (own_lt hown hk).1
      have hOx : Only [] w w' := (hO.trans hOa).trans' hO' (fun x hx => .inr (hvn x (by simpa using hx)))
      rw [show movedL d (List.take i l) ++ [(⟨xa + d, xn, xr, xb⟩ : It)] = movedL d (l.take (i + 1)) from hml.symm] at hown'
      have Hrun := Lib.hid hrun
      have Hown := Lib.hid hown'
      clear hrun hown' hx htk hml hz hOa hO' hvn hown hll
      go_wp2_with (at_builtin; refine wpList_append_run (o := ⟨some 26, _, _, _, _, _⟩) (by rfl) (.tmp 23) (.tmp 25) 22 22 (by rfl) (by rfl) (by rfl) Hrun.out ?_)
      go_roundw
      case rel => exact ⟨i + 1, by go_num, by omega, Hown.out, hOx⟩
      case measure => simp [intOf]; omega
    · obtain rfl : i = n := by omega
      have htk : l.take i = l := List.take_of_length_le (by omega)
      rw [htk] at hown
      go_wp2_with (fail)
      go_ret
      exact ⟨_, rfl, hown, hO⟩
end Go.Proofs.YteadcibbpbbehaaDoor
