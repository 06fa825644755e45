/- spans.Right. -/
import Derived.Test.YtodgllnmepnpfaaDoorSpanR
set_option linter.unusedVariables false
set_option linter.unusedSimpArgs false
namespace Go.Proofs.YtodgllnmepnpfaaDoor
open Go.RowKit

set_option maxRecDepth 100000 in
set_option maxHeartbeats 2000000 in
theorem right_any (n c : Nat) (A : Option Addr) (l : List Sp) (w : World) (B : Nat) (hr : Rd w B 2 A n (ses l)) (hB : B ≤ w.heap.size) (hl : l.length = n) (hn : n ≤ 140737488351232) :
    Calls Tryd.prog 17 #[.slice A n c] w fun e w' => e = .returned (.tuple #[.int .i64 ((rightFrom none 0 l).1 : Int), .int .i64 ((rightFrom none 0 l).2 : Int)]) ∧ Only [] w w' := by
  have Hl := Lib.hid hl
  clear hl
  go_enter Tryd.func17, Tryd.ntmps17
  go_wp2_with (fail)
  go_loopw [8] (fun vi wr => ∃ i : Nat, vi = .int .i64 (i : Int) ∧ i ≤ n ∧ rightFrom (prevAt l i) i (l.drop i) = rightFrom none 0 l ∧ Only [] w wr) (fun vi _ => n - (intOf vi).toNat)
  case atStart => exact ⟨0, rfl, by omega, rfl, .refl _ _⟩
  case round =>
    obtain ⟨i, rfl, hi, hq, hw⟩ := hrel
    have Hq := Lib.hid hq
    clear hq
    by_cases hlt : i < n
    · obtain ⟨p, hp⟩ : ∃ p, l[i]? = some p := ⟨_, List.getElem?_eq_getElem (by rw [Hl.out]; exact hlt)⟩
      have hst := right_step hp
      rw [Hq.out] at hst
      obtain ⟨g, o, rfl, _, c0, c1⟩ := (hr.only hw (by simp)).span hlt hp
      have Hst := Lib.hid hst
      have Hp := Lib.hid hp
      clear hst hp
      go_wp2_with (fail)
      obtain ⟨h0, hh0⟩ : ∃ h0, h0 = wr.heap.size := ⟨_, rfl⟩
      have hb : Blk (wr.alloc (.cells #[.int .i32 p.1, .int .i32 p.2] 29)) h0 29 [.int .i32 p.1, .int .i32 p.2] := Blk.new' _ _ _ hh0.symm rfl
      have hO := hw.alloc (.cells #[.int .i32 p.1, .int .i32 p.2] 29)
      rw [← hh0]
      refine (valid_any p.1 _).mono ?_
      rintro e w2 ⟨rfl, h2⟩
      rw [h2] at hb hO
      have H2 := Lib.hid h2
      clear h2 c0 c1 hw hh0
      have c0 := hb.cell 0
      have c1 := hb.cell 1
      replace c0 : w2.cell? ⟨h0, 0, none⟩ = some (.int .i32 p.1) := c0
      replace c1 : w2.cell? ⟨h0, 1, none⟩ = some (.int .i32 p.2) := c1
      obtain ⟨b1, hb1⟩ : ∃ b, b = validRune p.1 := ⟨_, rfl⟩
      obtain ⟨b2, hb2⟩ : ∃ b, b = validRune p.2 := ⟨_, rfl⟩
      rw [← hb1]
      have Hb1 := Lib.hid hb1
      have Hb2 := Lib.hid hb2
      clear hb1 hb2
      cases b1 with
      | false =>
        go_wp2_with (fail)
        go_ret2
        exact ⟨by rw [Hst.out, ← Hb1.out, if_pos (by simp)]; rfl, hO⟩
      | true =>
        go_wp2_with (fail)
        refine (valid_any p.2 _).mono ?_
        rintro e w3 ⟨rfl, rfl⟩
        rw [← Hb2.out]
        cases b2 with
        | false =>
          go_wp2_with (fail)
          go_ret2
          exact ⟨by rw [Hst.out, ← Hb1.out, ← Hb2.out, if_pos (by simp)]; rfl, hO⟩
        | true =>
          by_cases hA : p.2 < p.1
          · go_upto_region 6 with (fail)
            go_quiet (fail)
            go_wp2_with (fail)
            go_ret2
            exact ⟨by rw [Hst.out, ← Hb1.out, ← Hb2.out, if_neg (by simp), if_pos (.inl hA)]; rfl, hO.drewN _⟩
          · have dA : decide (p.2 < p.1) = false := decide_eq_false hA
            by_cases h0 : 0 < (i : Int)
            · obtain ⟨q, hq⟩ : ∃ q, l[i - 1]? = some q := ⟨_, List.getElem?_eq_getElem (by rw [Hl.out]; omega)⟩
              obtain ⟨_, _, e0, _, d0, d1⟩ := (hr.only hO (by simp)).span (show i - 1 < n by omega) hq
              cases e0
              have hsub : ((i : Int) - 1) = ((i - 1 : Nat) : Int) := by omega
              obtain ⟨m, hm⟩ : ∃ m, m = i - 1 := ⟨_, rfl⟩
              rw [← hm] at hsub d0 d1 hq
              have Hm := Lib.hid hm
              have Hq2 := Lib.hid hq
              clear hm hq
              have hpv : prevAt l i = some q.2 := by unfold prevAt; rw [if_neg (by omega), ← Hm.out, Hq2.out]; rfl
              have Hpv := Lib.hid hpv
              clear hpv
              have d0 : decide (0 < i) = true := decide_eq_true (by omega)
              by_cases hB : p.1 ≤ q.2
              · go_upto_region 6 with (fail)
                go_quiet (fail)
                go_wp2_with (fail)
                go_ret2
                exact ⟨by rw [Hst.out, ← Hb1.out, ← Hb2.out, if_neg (by simp), if_pos (.inr ⟨_, Hpv.out, hB⟩)]; rfl, hO.drewN _⟩
              · have dB : decide (p.1 ≤ q.2) = false := decide_eq_false hB
                go_upto_region 6 with (fail)
                go_quiet (fail)
                go_wp2_with (fail)
                go_roundw
                case rel => exact ⟨i + 1, by go_num, by omega, by rw [Hst.out, ← Hb1.out, ← Hb2.out, if_neg (by simp), if_neg (by rintro (h | ⟨h, e, h2⟩) <;> first | omega | (rw [Hpv.out] at e; cases e; omega))], hO.drewN _⟩
                case measure => simp [intOf]; omega
            · have d0 : decide (0 < i) = false := decide_eq_false (by omega)
              have Hi0 : RowKit.Hid (i = 0) := Lib.hid (by omega)
              clear h0
              go_upto_region 6 with (fail)
              go_quiet (fail)
              go_wp2_with (fail)
              go_roundw
              case rel => exact ⟨i + 1, by go_num, by omega, by rw [Hst.out, ← Hb1.out, ← Hb2.out, if_neg (by simp), if_neg (by rintro (h | ⟨h, e, _⟩) <;> first | omega | (simp [prevAt, Hi0.out] at e))], hO.drewN _⟩
              case measure => simp [intOf]; omega
    · obtain rfl : i = n := by omega
      go_wp2_with (fail)
      go_ret2
      exact ⟨by rw [← Hq.out, right_end l i (by rw [Hl.out]; omega)]; rfl, hw⟩
end Go.Proofs.YtodgllnmepnpfaaDoor
