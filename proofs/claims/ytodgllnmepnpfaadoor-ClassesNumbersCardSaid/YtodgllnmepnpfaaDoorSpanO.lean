/- The reference's In and Meet. -/
import Derived.Test.YtodgllnmepnpfaaDoorSpanM
set_option linter.unusedVariables false
set_option linter.unusedSimpArgs false
namespace Go.Proofs.YtodgllnmepnpfaaDoor
open Go.RowKit

set_option maxRecDepth 100000 in
set_option maxHeartbeats 2000000 in
theorem refIn_any (n c : Nat) (A : Option Addr) (l : List Sp) (r : Int) (w : World) (B : Nat) (hr : Rd w B 2 A n (ses l)) (hl : l.length = n) (hn : n ≤ 140737488351232) :
    Calls Tryd.prog 34 #[.slice A n c, .int .i32 r] w fun e w' => e = .returned (.bool (inSpans l r)) ∧ w' = w := by
  have Hl := Lib.hid hl
  clear hl
  go_enter Tryd.func34, Tryd.ntmps34
  go_wp2_with (fail)
  go_loop [5] (fun vi => ∃ i : Nat, vi = .int .i64 (i : Int) ∧ i ≤ n ∧ (∀ (t : Nat) (z : Sp), t < i → l[t]? = some z → ¬ (z.1 ≤ r ∧ r ≤ z.2))) (fun vi => n - (intOf vi).toNat)
  case atStart => exact ⟨0, rfl, by omega, fun t z ht => absurd ht (by omega)⟩
  case round =>
    obtain ⟨i, rfl, hi, hno⟩ := hrel
    have Hno := Lib.hid hno
    clear hno
    by_cases hlt : i < n
    · obtain ⟨p, hp⟩ : ∃ p, l[i]? = some p := ⟨_, List.getElem?_eq_getElem (by rw [Hl.out]; exact hlt)⟩
      obtain ⟨g, o, rfl, _, c0, c1⟩ := hr.span hlt hp
      have Hp := Lib.hid hp
      clear hp
      by_cases hA : p.1 ≤ r
      · by_cases hB : r ≤ p.2
        · go_wp2_with (fail)
          refine (refRune_any r _).mono ?_
          rintro e w2 ⟨rfl, rfl⟩
          go_wp2_with (fail)
          go_ret
          exact ⟨ret_bool (by unfold inSpans; rw [List.any_eq_true.2 ⟨p, List.mem_of_getElem? Hp.out, by simp; omega⟩, Bool.and_true]), rfl⟩
        · go_wp2_with (fail)
          go_round
          case rel => exact ⟨i + 1, by go_num, by omega, fun t z ht hz => by
            rcases Nat.lt_or_eq_of_le (Nat.lt_succ_iff.1 ht) with h | rfl
            · exact Hno.out t z h hz
            · rw [Hp.out] at hz; cases hz; omega⟩
          case measure => simp [intOf]; omega
      · go_wp2_with (fail)
        go_round
        case rel => exact ⟨i + 1, by go_num, by omega, fun t z ht hz => by
          rcases Nat.lt_or_eq_of_le (Nat.lt_succ_iff.1 ht) with h | rfl
          · exact Hno.out t z h hz
          · rw [Hp.out] at hz; cases hz; omega⟩
        case measure => simp [intOf]; omega
    · obtain rfl : i = n := by omega
      go_wp2_with (fail)
      go_ret
      refine ⟨ret_bool ?_, rfl⟩
      unfold inSpans
      rw [List.any_eq_false.2, Bool.and_false]
      intro z hz
      obtain ⟨t, ht⟩ := List.mem_iff_getElem?.1 hz
      have := Hno.out t z (by have := (List.getElem?_eq_some_iff.1 ht).1; rw [Hl.out] at this; exact this) ht
      simpa using this

set_option maxRecDepth 100000 in
set_option maxHeartbeats 4000000 in
theorem refMeet_any (n c m d : Nat) (A A' : Option Addr) (l b : List Sp) (w : World) (B : Nat) (hr : Rd w B 2 A n (ses l)) (hr' : Rd w B 2 A' m (ses b)) (hl : l.length = n) (hb : b.length = m) (hn : n ≤ 1000000) (hm : m ≤ 1000000) (hL : RightL l) (hR : RightL b) :
    Calls Tryd.prog 33 #[.slice A n c, .slice A' m d] w fun e w' => e = .returned (metV (meetFrom b 0 l)) ∧ w' = w := by
  have Hl := Lib.hid hl
  have Hb := Lib.hid hb
  clear hl hb
  go_enter Tryd.func33, Tryd.ntmps33
  go_wp2_with (fail)
  go_loop [6] (fun vi => ∃ i : Nat, vi = .int .i64 (i : Int) ∧ i ≤ n ∧ meetFrom b i (l.drop i) = meetFrom b 0 l) (fun vi => n - (intOf vi).toNat)
  case atStart => exact ⟨0, rfl, by omega, rfl⟩
  case round =>
    obtain ⟨i, rfl, hi, hq⟩ := hrel
    have Hq := Lib.hid hq
    clear hq
    by_cases hlt : i < n
    · obtain ⟨p, hp⟩ : ∃ p, l[i]? = some p := ⟨_, List.getElem?_eq_getElem (by rw [Hl.out]; exact hlt)⟩
      have hst := meet_step b hp
      have hpv := hL.each p (List.mem_of_getElem? hp)
      obtain ⟨g, o, rfl, _, c0, c1⟩ := hr.span hlt hp
      have Hst := Lib.hid hst
      have Hp := Lib.hid hp
      have Hpv1 := Lib.hid hpv.1
      have hpl := hpv.2.2
      clear hst hp hpv
      go_wp2_with (fail)
      go_loop [7] (fun vj => ∃ j : Nat, vj = .int .i64 (j : Int) ∧ j ≤ m ∧ (∀ (t : Nat) (z : Sp), t < j → b[t]? = some z → ¬ (z.1 ≤ p.2 ∧ p.1 ≤ z.2))) (fun vj => m - (intOf vj).toNat)
      case atStart => exact ⟨0, rfl, by omega, fun t z ht => absurd ht (by omega)⟩
      case round =>
        obtain ⟨j, rfl, hj, hno⟩ := hrel
        have Hno := Lib.hid hno
        clear hno
        by_cases hjm : j < m
        · obtain ⟨q, hq⟩ : ∃ q, b[j]? = some q := ⟨_, List.getElem?_eq_getElem (by rw [Hb.out]; exact hjm)⟩
          have hqv := hR.each q (List.mem_of_getElem? hq)
          have hov : q.1 ≤ p.2 ∧ p.1 ≤ q.2 → (if overlaps b p = true then some i else meetFrom b (i + 1) (l.drop (i + 1))) = some i := fun h => if_pos (by unfold overlaps; rw [List.any_eq_true]; exact ⟨q, List.mem_of_getElem? hq, by simp; exact h⟩)
          obtain ⟨g', o', rfl, _, d0, d1⟩ := hr'.span hjm hq
          have Hq2 := Lib.hid hq
          have Hqv1 := Lib.hid hqv.1
          have Hov := Lib.hid hov
          have hql := hqv.2.2
          clear hov hq hqv
          by_cases hA : p.1 < q.1
          · by_cases hB : q.2 < p.2
            · go_wp2_with (fail)
              refine (refRune_any _ _).mono ?_
              rintro e w2 ⟨rfl, rfl⟩
              rw [show validRune q.1 = true from Hqv1.out]
              go_wp2_with (fail)
              go_ret2
              exact ⟨by rw [← Hq.out, Hst.out, Hov.out (by omega)]; rfl, rfl⟩
            · by_cases hC : q.1 ≤ p.2
              · go_wp2_with (fail)
                refine (refRune_any _ _).mono ?_
                rintro e w2 ⟨rfl, rfl⟩
                rw [show validRune q.1 = true from Hqv1.out]
                go_wp2_with (fail)
                go_ret2
                exact ⟨by rw [← Hq.out, Hst.out, Hov.out (by omega)]; rfl, rfl⟩
              · go_wp2_with (fail)
                go_round
                case rel => exact ⟨j + 1, by go_num, by omega, fun t z ht hz => by
                  rcases Nat.lt_or_eq_of_le (Nat.lt_succ_iff.1 ht) with h | rfl
                  · exact Hno.out t z h hz
                  · rw [Hq2.out] at hz; cases hz; omega⟩
                case measure => simp [intOf]; omega
          · by_cases hB : q.2 < p.2
            · by_cases hC : p.1 ≤ q.2
              · go_wp2_with (fail)
                refine (refRune_any _ _).mono ?_
                rintro e w2 ⟨rfl, rfl⟩
                rw [show validRune p.1 = true from Hpv1.out]
                go_wp2_with (fail)
                go_ret2
                exact ⟨by rw [← Hq.out, Hst.out, Hov.out (by omega)]; rfl, rfl⟩
              · go_wp2_with (fail)
                go_round
                case rel => exact ⟨j + 1, by go_num, by omega, fun t z ht hz => by
                  rcases Nat.lt_or_eq_of_le (Nat.lt_succ_iff.1 ht) with h | rfl
                  · exact Hno.out t z h hz
                  · rw [Hq2.out] at hz; cases hz; omega⟩
                case measure => simp [intOf]; omega
            · go_wp2_with (fail)
              refine (refRune_any _ _).mono ?_
              rintro e w2 ⟨rfl, rfl⟩
              rw [show validRune p.1 = true from Hpv1.out]
              go_wp2_with (fail)
              go_ret2
              exact ⟨by rw [← Hq.out, Hst.out, Hov.out (by omega)]; rfl, rfl⟩
        · obtain rfl : j = m := by omega
          have hov : overlaps b p = false := by
            unfold overlaps
            rw [List.any_eq_false]
            intro z hz
            obtain ⟨t, ht⟩ := List.mem_iff_getElem?.1 hz
            have := Hno.out t z (by have := (List.getElem?_eq_some_iff.1 ht).1; rw [Hb.out] at this; exact this) ht
            simpa using this
          have Hov := Lib.hid hov
          clear hov
          go_wp2_with (fail)
          go_round
          case rel => exact ⟨i + 1, by go_num, by omega, by rw [← Hq.out, Hst.out, Hov.out, if_neg (by simp)]⟩
          case measure => simp [intOf]; omega
    · obtain rfl : i = n := by omega
      go_wp2_with (fail)
      go_ret2
      exact ⟨by rw [← Hq.out, meet_end b l i (by rw [Hl.out]; omega)]; rfl, rfl⟩
end Go.Proofs.YtodgllnmepnpfaaDoor
