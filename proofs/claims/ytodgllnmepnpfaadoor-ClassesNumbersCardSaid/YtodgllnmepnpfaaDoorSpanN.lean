/- spans.Meet over right lists. -/
import Derived.Test.YtodgllnmepnpfaaDoorSpanM
import Derived.BigRegion
set_option linter.unusedVariables false
set_option linter.unusedSimpArgs false
namespace Go.Proofs.YtodgllnmepnpfaaDoor
open Go.RowKit

set_option maxRecDepth 100000 in
set_option maxHeartbeats 4000000 in
theorem meet_any (n c m d : Nat) (A A' : Option Addr) (l b : List Sp) (w : World) (B : Nat) (hr : Rd w B 2 A n (ses l)) (hr' : Rd w B 2 A' m (ses b)) (hB : B ≤ w.heap.size) (hl : l.length = n) (hb : b.length = m) (hn : n ≤ 1000000) (hm : m ≤ 1000000) (hL : RightL l) (hR : RightL b) :
    Calls Tryd.prog 18 #[.slice A n c, .slice A' m d] w fun e w' => e = .returned (metV (meetFrom b 0 l)) ∧ Only [] w w' := by
  have Hl := Lib.hid hl
  have Hb := Lib.hid hb
  clear hl hb
  go_enter Tryd.func18, Tryd.ntmps18
  go_wp2_with (fail)
  go_loopw [12] (fun vi wr => ∃ i : Nat, vi = .int .i64 (i : Int) ∧ i ≤ n ∧ meetFrom b i (l.drop i) = meetFrom b 0 l ∧ Only [] w wr) (fun vi _ => n - (intOf vi).toNat)
  case atStart => exact ⟨0, rfl, by omega, rfl, .refl _ _⟩
  case round =>
    obtain ⟨i, rfl, hi, hq, hw⟩ := hrel
    have Hq := Lib.hid hq
    clear hq
    by_cases hlt : i < n
    · obtain ⟨p, hp⟩ : ∃ p, l[i]? = some p := ⟨_, List.getElem?_eq_getElem (by rw [Hl.out]; exact hlt)⟩
      have hst := meet_step b hp
      rw [Hq.out] at hst
      have hpv := hL.each p (List.mem_of_getElem? hp)
      have hov := overlaps_find hR p hpv.2.2
      obtain ⟨g, o, rfl, _, c0, c1⟩ := (hr.only hw (by simp)).span hlt hp
      have Hst := Lib.hid hst
      have Hp := Lib.hid hp
      have Hpv := Lib.hid hpv
      have Hov := Lib.hid hov
      clear hst hp hpv hov
      go_wp2_with (fail)
      obtain ⟨h0, hh0⟩ : ∃ h0, h0 = wr.heap.size := ⟨_, rfl⟩
      have hbk : Blk (wr.alloc (.cells #[.int .i32 p.1, .int .i32 p.2] 29)) h0 29 [.int .i32 p.1, .int .i32 p.2] := Blk.new' _ _ _ hh0.symm rfl
      have hO := hw.alloc (.cells #[.int .i32 p.1, .int .i32 p.2] 29)
      rw [← hh0]
      clear hh0 c0 c1
      obtain ⟨wa, hwa⟩ : ∃ wa, wa = (wr.alloc (.cells #[.int .i32 p.1, .int .i32 p.2] 29)) := ⟨_, rfl⟩
      rw [← hwa] at hbk hO ⊢
      have Hwa := Lib.hid hwa
      clear hwa
      refine (find_any m d A' b p.1 _ B (hr'.only hO (by simp)) Hb.out hm hR.rising).mono ?_
      rintro e w2 ⟨rfl, hO2⟩
      replace hbk := hbk.only hO2 (by simp)
      replace hO := hO.trans hO2
      have hr2 := hr'.only hO (by simp)
      clear hO2 Hwa
      have hle := findHi_le b p.1
      rw [Hb.out] at hle
      obtain ⟨j, hj⟩ : ∃ j, j = findHi b p.1 := ⟨_, rfl⟩
      rw [← hj] at hle Hov ⊢
      have Hj := Lib.hid hj
      clear hj
      have c0 := hbk.cell 0
      have c1 := hbk.cell 1
      replace c0 : w2.cell? ⟨h0, 0, none⟩ = some (.int .i32 p.1) := c0
      replace c1 : w2.cell? ⟨h0, 1, none⟩ = some (.int .i32 p.2) := c1
      go_wp2_with (fail)
      go_loopw [8] (fun vj wx => vj = .int .i64 (j : Int) ∧ wx = w2) (fun _ _ => 0)
      case atStart => exact ⟨rfl, rfl⟩
      case round =>
        obtain ⟨rfl, rfl⟩ := hrel
        by_cases hjm : j < m
        · obtain ⟨q, hq⟩ : ∃ q, b[j]? = some q := ⟨_, List.getElem?_eq_getElem (by rw [Hb.out]; exact hjm)⟩
          have hov := Hov.out
          rw [hq] at hov
          have Hov2 : RowKit.Hid (overlaps b p = decide (q.1 ≤ p.2)) := Lib.hid hov
          have hqv := hR.each q (List.mem_of_getElem? hq)
          have hqf : p.1 ≤ q.2 := findHi_get (by rw [← Hj.out]; exact hq)
          obtain ⟨g', o', rfl, _, d0, d1⟩ := hr2.span hjm hq
          have Hq2 := Lib.hid hq
          have Hqv := Lib.hid hqv
          have Hqf := Lib.hid hqf
          clear hov hq hqv hqf Hov
          have dj : decide (j < m) = true := decide_eq_true hjm
          by_cases hA : q.1 ≤ p.2
          · go_upto_region 5 with (fail)
            go_quiet (fail)
            go_upto_region 7 with (fail)
            refine name_it (p := fun y => Code.wp _ _ _ _ y) ?_
            intro wy HY
            replace hbk : Blk wy h0 29 [.int .i32 p.1, .int .i32 p.2] := by rw [HY.out]; exact hbk.only ((Only.refl [] _).drewN _) (by simp)
            replace hO : Only [] w wy := by rw [HY.out]; exact hO.drewN _
            have c0 : wy.cell? ⟨h0, 0, none⟩ = some (.int .i32 p.1) := hbk.cell 0
            have c1 : wy.cell? ⟨h0, 1, none⟩ = some (.int .i32 p.2) := hbk.cell 1
            replace d0 : wy.cell? ⟨g', o' + j * 2, none⟩ = some (.int .i32 q.1) := by rw [HY.out]; exact d0
            replace d1 : wy.cell? ⟨g', o' + j * 2 + 1, none⟩ = some (.int .i32 q.2) := by rw [HY.out]; exact d1
            clear hr2 hr' hr
            have hOz : Only [] wy (wy.alloc (.cells #[.int .i32 0, .int .i32 0] 29)) := (Only.refl _ _).alloc _
            have e0 := hOz.cellv c0 (by simp)
            have e1 := hOz.cellv c1 (by simp)
            have e2 := hOz.cellv d0 (by simp)
            have e3 := hOz.cellv d1 (by simp)
            clear hOz
            go_region
            have hv : validRune (if p.1 < q.1 then q.1 else p.1) = true ∧ validRune (if q.2 < p.2 then q.2 else p.2) = true ∧ (if p.1 < q.1 then q.1 else p.1) ≤ (if q.2 < p.2 then q.2 else p.2) := by
              have h1 := Hpv.out
              have h2 := Hqv.out
              have h3 := Hqf.out
              refine ⟨by split; exact h2.1; exact h1.1, by split; exact h2.2.1; exact h1.2.1, by (repeat' split) <;> omega⟩
            generalize (if p.1 < q.1 then q.1 else p.1) = x at hv ⊢
            generalize (if q.2 < p.2 then q.2 else p.2) = y at hv ⊢
            have Hv := Lib.hid hv
            clear hv e0 e1 e2 e3 c0 c1 d0 d1 hbk
            have hOa : Only [] w (wy.alloc (.cells #[.int .i32 x, .int .i32 y] 29)).drew := (hO.alloc _).drew
            go_wp2_with (fail)
            have hb3 : Blk ((wy.alloc (.cells #[.int .i32 x, .int .i32 y] 29)).alloc (.cells #[.int .i32 x, .int .i32 y] 29)) (wy.heap.size + 1) 29 [.int .i32 x, .int .i32 y] := Blk.new' _ _ _ (by simp) rfl
            replace hb3 := hb3.only (w' := ((wy.alloc (.cells #[.int .i32 x, .int .i32 y] 29)).alloc (.cells #[.int .i32 x, .int .i32 y] 29)).drew) ((Only.refl [] _).drew) (by simp)
            refine (size_one _ 0 1 x y _ (hb3.cell 0) (hb3.cell 1) Hv.out.1 Hv.out.2.2 Hv.out.2.1).mono ?_
            rintro e w3 ⟨z, rfl, hz, hO3⟩
            replace hO3 : Only [] w w3 := (((hO.alloc _).alloc _).drew).trans hO3
            clear hb3 hOa
            go_wp2_with (fail)
            go_ret2
            exact ⟨by rw [Hst.out, Hov2.out, if_pos (by simpa using hA)]; rfl, hO3⟩
          · have dA : decide (q.1 ≤ p.2) = false := decide_eq_false hA
            go_upto_region 5 with (fail)
            go_quiet (fail)
            go_wp2_with (fail)
            go_roundw
            case rel => exact ⟨i + 1, by go_num, by omega, by rw [Hst.out, Hov2.out, dA, if_neg (by simp)], hO.drewN _⟩
            case measure => simp [intOf]; omega
        · have hov := Hov.out
          rw [List.getElem?_eq_none (by rw [Hb.out]; omega)] at hov
          have Hov2 : RowKit.Hid (overlaps b p = false) := Lib.hid hov
          clear hov Hov
          have dj : decide (j < m) = false := decide_eq_false hjm
          go_upto_region 5 with (fail)
          go_quiet (fail)
          go_wp2_with (fail)
          go_roundw
          case rel => exact ⟨i + 1, by go_num, by omega, by rw [Hst.out, Hov2.out, if_neg (by simp)], hO.drewN _⟩
          case measure => simp [intOf]; omega
    · obtain rfl : i = n := by omega
      go_wp2_with (fail)
      go_ret2
      exact ⟨by rw [← Hq.out, meet_end b l i (by rw [Hl.out]; omega)]; rfl, hw⟩
end Go.Proofs.YtodgllnmepnpfaaDoor
