/- same. -/
import Derived.Test.YteadcibbpbbehaaDoorUtfK
import Derived.Test.YteadcibbpbbehaaDoorOpen
set_option linter.unusedVariables false
set_option linter.unusedSimpArgs false
namespace Go.Proofs.YteadcibbpbbehaaDoor
open Go.RowKit

theorem Rd.it {w : World} {B : Nat} {A : Option Addr} {n : Nat} {l : List It} (h : Rd w B 4 A n (l.flatMap It.enc)) {k : Nat} {x : It} (hx : l[k]? = some x) :
    ∃ g o, A = some ⟨g, o, none⟩ ∧ k < n ∧ w.cell? ⟨g, o + k * 4, none⟩ = some (.int .i64 (x.at_ : Int)) ∧ w.cell? ⟨g, o + k * 4 + 1, none⟩ = some (.int .i64 (x.n : Int)) ∧ w.cell? ⟨g, o + k * 4 + 2, none⟩ = some (.int .i32 (x.r : Int)) ∧ w.cell? ⟨g, o + k * 4 + 3, none⟩ = some (.bool x.bad) := by
  have hk : k < n := by
    have h1 := h.1
    rw [encs_length] at h1
    have := (List.getElem?_eq_some_iff.1 hx).1
    omega
  obtain ⟨g, o, rfl, _, _, hc⟩ := h.addr (by omega)
  have key : ∀ j, j < 4 → (l.flatMap It.enc)[k * 4 + j]? = x.enc[j]? := fun j hj => flatMap_get (encl := It.enc) (size := 4) l (fun _ _ => rfl) k j x hx hj
  refine ⟨g, o, rfl, hk, ?_, ?_, ?_, ?_⟩
  · rw [show o + k * 4 = o + (k * 4 + 0) by omega]; exact hc _ _ (key 0 (by omega))
  · rw [show o + k * 4 + 1 = o + (k * 4 + 1) by omega]; exact hc _ _ (key 1 (by omega))
  · rw [show o + k * 4 + 2 = o + (k * 4 + 2) by omega]; exact hc _ _ (key 2 (by omega))
  · rw [show o + k * 4 + 3 = o + (k * 4 + 3) by omega]; exact hc _ _ (key 3 (by omega))

/-- are two items the same? closed to simp -/
def itEq (x y : It) : Bool := decide (x = y)
set_option maxRecDepth 100000 in
set_option maxHeartbeats 1000000 in
theorem run_neq_it (a n r : Nat) (b : Bool) (a' n' r' : Nat) (b' : Bool) (w : World) :
    (binOp .neq 33 (.agg #[.int .i64 (a : Int), .int .i64 (n : Int), .int .i32 (r : Int), .bool b]) (.agg #[.int .i64 (a' : Int), .int .i64 (n' : Int), .int .i32 (r' : Int), .bool b'])).run Tryd.prog w = .ok (.bool (!itEq ⟨a, n, r, b⟩ ⟨a', n', r', b'⟩)) w := by
  have u3 := Tryd.underlying3
  have a3 := Tryd.isAgg3
  have z3 := Tryd.sizeOf3
  have u4 := Tryd.underlying21
  have a4 := Tryd.isAgg21
  have z4 := Tryd.sizeOf21
  have u5 := Tryd.underlying4
  have a5 := Tryd.isAgg4
  have z5 := Tryd.sizeOf4
  have hS : Tryd.prog.underlying 33 = some (.struct (Tryd.prog.fieldsOf 33)) := by kernel_rfl
  have hp : Tryd.prog.stoodInHeld 33 = false := by kernel_rfl
  rw [run_neq_struct, show (10000 : Nat) = 9999 + 1 from rfl, run_equalIn_agg w 9999 33 _ _ hS hp]
  simp only [Program.fieldsOf, Tryd.underlying33]
  go_simp
  by_cases h1 : a = a' <;> by_cases h2 : n = n' <;> by_cases h3 : r = r' <;> by_cases h4 : b = b' <;> simp [h1, h2, h3, h4, itEq] <;> omega

set_option maxRecDepth 100000 in
set_option maxHeartbeats 4000000 in
theorem same_any (w : World) {B B' : Nat} {A A' : Option Addr} {n n' : Nat} (c c' : Nat) (l m : List It) (hn : l.length = n) (hn' : m.length = n') (hR : Rd w B 4 A n (l.flatMap It.enc)) (hR' : Rd w B' 4 A' n' (m.flatMap It.enc)) (hb : n ≤ 5000000) (hb' : n' ≤ 5000000) :
    Calls Tryd.prog 13 #[.slice A n c, .slice A' n' c'] w fun e w' => e = .returned (.bool (decide (l = m))) ∧ Only [] w w' := by
  obtain ⟨R, hRR⟩ : ∃ R, R = decide (l = m) := ⟨_, rfl⟩
  rw [← hRR]
  have HR := Lib.hid hRR
  clear hRR
  go_enter Tryd.func13, Tryd.ntmps13
  by_cases hnn : n = n'
  · subst hnn
    go_wp2_with (fail)
    go_loopw [5] (fun vi wr => ∃ i : Nat, vi = .int .i64 (i : Int) ∧ i ≤ n ∧ l.take i = m.take i ∧ Only [] w wr) (fun vi _ => n - (intOf vi).toNat)
    case atStart => exact ⟨0, rfl, by omega, rfl, .refl _ _⟩
    case round =>
      obtain ⟨i, rfl, hi, hq, hO⟩ := hrel
      by_cases hlt : i < n
      · have hil : i < l.length := by omega
        have him : i < m.length := by omega
        obtain ⟨x, hx⟩ : ∃ x, l[i]? = some x := ⟨_, List.getElem?_eq_getElem hil⟩
        obtain ⟨y, hy⟩ : ∃ y, m[i]? = some y := ⟨_, List.getElem?_eq_getElem him⟩
        obtain ⟨g, o, rfl, _, q0, q1, q2, q3⟩ := (hR.only hO (by simp)).it hx
        obtain ⟨g', o', rfl, _, r0, r1, r2, r3⟩ := (hR'.only hO (by simp)).it hy
        have Hx := Lib.hid hx
        have Hy := Lib.hid hy
        have Hq := Lib.hid hq
        have Hn := Lib.hid hn
        have Hn' := Lib.hid hn'
        clear hx hy hq hn hn' hR hR' hil him
        obtain ⟨xa, xn, xr, xb⟩ := x
        obtain ⟨ya, yn, yr, yb⟩ := y
        have hne := run_neq_it xa xn xr xb ya yn yr yb
        by_cases he : (⟨xa, xn, xr, xb⟩ : It) = ⟨ya, yn, yr, yb⟩
        · have hie : itEq ⟨xa, xn, xr, xb⟩ ⟨ya, yn, yr, yb⟩ = true := decide_eq_true he
          rw [hie] at hne
          have He := Lib.hid he
          clear he hie
          go_wp2_with (fail)
          go_quiet (fail)
          go_wp2_with (fail)
          go_roundw
          case rel =>
            refine ⟨i + 1, by go_num, by omega, ?_, hO.drewN _⟩
            rw [List.take_add_one, List.take_add_one, Hq.out, Hx.out, Hy.out, He.out]
          case measure => simp [intOf]; omega
        · have hie : itEq ⟨xa, xn, xr, xb⟩ ⟨ya, yn, yr, yb⟩ = false := decide_eq_false he
          rw [hie] at hne
          have He := Lib.hid he
          clear he hie
          go_wp2_with (fail)
          go_quiet (fail)
          go_wp2_with (fail)
          go_ret
          refine ⟨ret_bool ?_, hO.drewN _⟩
          rw [HR.out]
          refine (decide_eq_false fun e => He.out ?_).symm
          have h1 := Hx.out
          rw [e, Hy.out] at h1
          injection h1 with h1
          exact h1.symm
      · obtain rfl : i = n := by omega
        have hlm : decide (l = m) = true := by
          rw [List.take_of_length_le (by omega), List.take_of_length_le (by omega)] at hq
          exact decide_eq_true hq
        have Hlm := Lib.hid hlm
        clear hlm hq hn hn' hR hR'
        go_wp2_with (fail)
        go_ret
        exact ⟨ret_bool (by rw [HR.out, Hlm.out]), hO⟩
  · have hlm : decide (l = m) = false := decide_eq_false fun e => hnn (by rw [← hn, ← hn', e])
    have Hlm := Lib.hid hlm
    have hni : ¬ ((n : Int) = (n' : Int)) := by omega
    clear hlm hn hn' hR hR'
    go_wp2_with (fail)
    go_ret
    exact ⟨ret_bool (by rw [HR.out, Hlm.out]), .refl _ _⟩
end Go.Proofs.YteadcibbpbbehaaDoor
