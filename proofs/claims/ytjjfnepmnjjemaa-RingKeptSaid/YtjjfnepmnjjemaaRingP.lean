/- RingPlays: the walk. -/
import Derived.Test.YtjjfnepmnjjemaaRingK
import Derived.Test.YtjjfnepmnjjemaaOpenAsk
import Derived.Test.YtjjfnepmnjjemaaApStep
import Derived.Test.YtjjfnepmnjjemaaBk
import Derived.Test.YtjjfnepmnjjemaaTo
import Derived.Deep.DeepCutAuto
import Derived.Deep.CutBlock
import Derived.Deep.RegionLaw
namespace Go.Proofs.Ytjjfnepmnjjemaa
open Go.RowKit

theorem ask_cells {w : World} {A : Option Addr} {n : Nat} {L : List AskD} (hR : Rd w w.heap.size 3 A n (L.flatMap AskD.enc)) (hL : L.length = n) {k : Nat} (hk : k < n) {a : AskD} (ha : L[k]? = some a) :
    ∃ g o, A = some ⟨g, o, none⟩ ∧ g < w.heap.size ∧ w.cell? ⟨g, o + k * 3, none⟩ = some (.int .i64 a.k) ∧ w.cell? ⟨g, o + k * 3 + 1, none⟩ = some (.slice a.A a.n a.c) ∧ w.cell? ⟨g, o + k * 3 + 2, none⟩ = some (.int .i64 a.m) := by
  obtain ⟨g, o, h1, h2, _, h3⟩ := hR.addr (by omega)
  have hg := fun j hj => flatMap_get (encl := AskD.enc) (size := 3) L (fun x _ => rfl) k j a ha hj
  refine ⟨g, o, h1, h2, ?_, ?_, ?_⟩
  · have := h3 (k * 3 + 0) _ ((hg 0 (by omega)).trans rfl); simpa using this
  · have := h3 (k * 3 + 1) _ ((hg 1 (by omega)).trans rfl); rw [Nat.add_assoc]; exact this
  · have := h3 (k * 3 + 2) _ ((hg 2 (by omega)).trans rfl); rw [Nat.add_assoc]; exact this

theorem rd_roomy {w1 : World} {h n : Nat} {l : List UInt8} {m : UInt8} {t : TypeId} (hb1 : Blk w1 h t (bvs (roomy l m))) (hl : l.length = n) :
    Rd w1 w1.heap.size 1 (some ⟨h, 0, none⟩) (n + 80) (bvs (roomy l m)) ∧ Rd w1 w1.heap.size 1 (some ⟨h, 0, none⟩) n (bvs l) := by
  have hf : Rd w1 w1.heap.size 1 (some ⟨h, 0, none⟩) (n + 80) (bvs (roomy l m)) := (Rd.whole hb1 (by rw [bvs_length, roomy, List.length_append, List.length_replicate, hl, Nat.mul_one])).more hb1.lt
  refine ⟨hf, ?_⟩
  have h1 := hf.take (k := n) (by omega)
  rw [Nat.mul_one, bvs_take] at h1
  have e : (roomy l m).take n = l := by unfold roomy; rw [List.take_append_of_le_length (by omega), List.take_of_length_le (by omega)]
  rwa [e] at h1

/-- the ring and what the law holds beside it -/
def PlayAt (w wr : World) (g g2 r : Nat) (v : Value) : Prop := ∃ (A' : Option Addr) (c' at' : Nat) (arr q : List UInt8), v = .slice A' q.length c' ∧ q.length ≤ c' ∧ Rd wr wr.heap.size 1 A' q.length (bvs q) ∧ (∀ ad, A' = some ad → 0 < q.length → ad.block ≠ g ∧ ad.block ≠ g2) ∧ RingAt wr g g2 r at' arr q ∧ Only [] w wr

set_option maxRecDepth 100000 in
set_option maxHeartbeats 2000000 in
theorem ringPlays_walk (w : World) (r : Int) (hr : -9223372036854775808 ≤ r ∧ r ≤ 9223372036854775807) (A : Option Addr) (n c : Nat) (L : List AskD) (hL : L.length = n)
    (hRd : Rd w w.heap.size 3 A n (L.flatMap AskD.enc)) (hnc : n ≤ c) (hcm : c ≤ maxLen) (hok : ∀ a ∈ L, a.ok w) :
    Calls Try.prog 4 #[.int .i64 r, .slice A n c] w fun e w' => e = .returned (.bool true) ∧ Only [] w w' := by
  have hnm : n ≤ 9223372036854775807 := by simp only [maxLen] at hcm; omega
  by_cases hbad : r < 1 ∨ 1048576 < r
  · rcases hbad with h | h
    case' inr => have h' : ¬ r < 1 := by omega
    all_goals
      go_enter Try.func4, Try.ntmps4
      go_wp2_with (fail)
      refine (ringNew_no r _ (by omega)).mono ?_
      rintro e w1 ⟨rfl, rfl⟩
      go_wp2_with (fail)
      refine (ringKnown _).mono ?_
      rintro e w9 ⟨rfl, hO9⟩
      go_wp2
      go_ret
      exact ⟨rfl, hO9⟩
  obtain ⟨r, rfl⟩ := Int.eq_ofNat_of_zero_le (show 0 ≤ r by omega)
  have hr1 : ¬ (r : Int) < 1 := by omega
  have hr2 : ¬ 1048576 < (r : Int) := by omega
  go_enter Try.func4, Try.ntmps4
  go_wp2_with (fail)
  refine (ringNew_yes r _ (by omega) (by omega)).mono ?_
  rintro e w1 ⟨g, rfl, hg, hR1, hO1⟩
  obtain ⟨g2, hg2⟩ : ∃ g2, g2 = w.heap.size := ⟨_, rfl⟩
  rw [← hg2] at hR1
  have hgg := hR1.lt
  have hgw : w.heap.size ≤ g2 := by omega
  have HL := Lib.hid hL
  clear hg2 hr hbad hL
  go_wp2_with (fail)
  go_loopw [7, 8] (fun v i wr => ∃ k : Nat, i = .int .i64 (k : Int) ∧ k ≤ n ∧ PlayAt w wr g g2 r v) (fun _ i _ => n - (intOf i).toNat)
  case atStart => exact ⟨0, rfl, by omega, none, 0, 0, _, [], rfl, by simp, Rd.zero _ _ _ _, by simp, hR1, hO1⟩
  case round =>
    obtain ⟨k, rfl, hk, A', c', at', arr, q, rfl, hqc, hq, hqg, hR, hO⟩ := hrel
    have hqr : q.length ≤ r := hR.2.2.2.2.2.2.1
    by_cases hlt : k < n ∧ k < 200
    · obtain ⟨hlt, hlt2⟩ := hlt
      obtain ⟨a, ha⟩ : ∃ a, L[k]? = some a := ⟨_, List.getElem?_eq_getElem (by rw [HL.out]; exact hlt)⟩
      have hao := hok a (List.mem_of_getElem? ha)
      obtain ⟨h1, h2, hal, har, hac, hacm⟩ := hao
      obtain ⟨gA, oA, hA, hgA, hc0, hc1, hc2⟩ := ask_cells hRd HL.out hlt ha
      replace hc0 := hO.cellv hc0 (by simp)
      replace hc1 := hO.cellv hc1 (by simp)
      replace hc2 := hO.cellv hc2 (by simp)
      obtain ⟨ak, aA, an, ac, al, am⟩ := a
      simp only at h1 h2 hal har hac hacm hc0 hc1 hc2
      replace har := har.only hO (by simp)
      subst hA
      have Hal := Lib.hid hal
      clear ha hal
      obtain ⟨ql, hql⟩ : ∃ ql, ql = q.length := ⟨_, rfl⟩
      rw [← hql] at hqc hq hqg hqr ⊢
      have Hql := Lib.hid hql
      clear hql
      go_upto_if 58 with (fail)
      obtain ⟨h9, hh9⟩ : ∃ h9, h9 = wr.heap.size := ⟨_, rfl⟩
      rw [← hh9]
      refine name_it (p := fun y => Code.wp _ _ _ _ y) ?_
      intro wa Hwa
      have hOa : Only [] wr wa := by rw [Hwa.out]; exact (Only.refl _ _).alloc _
      have hb9 : Blk wa h9 33 [.int .i64 ak, .slice aA an ac, .int .i64 am] := by rw [Hwa.out]; exact Blk.new' _ _ _ hh9.symm rfl
      have hb0 : wa.cell? ⟨h9, 0, none⟩ = some (.int .i64 ak) := hb9.cell 0
      have hb1 : wa.cell? ⟨h9, 1, none⟩ = some (.slice aA an ac) := hb9.cell 1
      have hb2 : wa.cell? ⟨h9, 2, none⟩ = some (.int .i64 am) := hb9.cell 2
      have hgr := hR.lt
      have hg9 : g ≠ h9 ∧ g2 ≠ h9 := by omega
      replace hR := hR.only hOa (by simp) (by simp)
      replace hO := hO.trans hOa
      replace har := har.only hOa (by simp)
      replace hq := hq.on hOa (Nat.le_refl _)
      clear hh9 Hwa hOa hc0 hc1 hc2 hRd hgr
      obtain ⟨mz, hmz⟩ : ∃ mz : Nat, mz = am.toNat := ⟨_, rfl⟩
      go_cut [10] (fun s wx => wa = wx ∧ s = .int .i64 (mz : Int))
      case first =>
        go_wp2
        all_goals
          go_meet
          case rel => exact ⟨rfl, by congr 1; omega⟩
      case rest =>
      obtain ⟨rfl, rfl⟩ := hcut
      go_upto_if 62 with (fail)
      obtain ⟨m, hm⟩ : ∃ m : Nat, m = min mz ql := ⟨_, rfl⟩
      go_cut [10] (fun s wx => wa = wx ∧ s = .int .i64 (m : Int))
      case first =>
        go_wp2
        all_goals
          go_meet
          case rel => exact ⟨rfl, by congr 1; omega⟩
      case rest =>
      obtain ⟨rfl, rfl⟩ := hcut
      have hmq : m ≤ ql := by omega
      have hmm : m = min am.toNat ql := by omega
      have Hmm := Lib.hid hmm
      clear hm hmz hmm
      go_upto_block 2 with (fail)
      go_cut [7] (fun v wx => PlayAt w wx g g2 r v)
      case first =>
        by_cases k1 : ak = 1
        · subst k1
          go_upto_if 73 with (fail)
          obtain ⟨bn, bl, hbl, hbr, hbn1, hbn2, _, hbe, hcase⟩ := har.cutTo Hal.out 2000
          have Hbe := Lib.hid hbe
          clear hbe
          go_cut [11] (fun s wx => wa = wx ∧ s = .slice aA bn ac)
          case first =>
            rcases hcase with ⟨h3, h4⟩ | ⟨h3, h4⟩
            · have h5 : ¬ (2000 : Int) < (an : Int) := by omega
              have H4 := Lib.hid h4
              clear h4
              go_wp2
              go_meet
              case rel => exact ⟨rfl, by rw [H4.out]⟩
            · have hsh := run_slice_h (P := Try.prog) (A := aA) (n := an) (c := ac) (m := bn) (hi := (2000 : Int)) Try.underlying26 (size := 1) (by kernel_rfl) (by omega) (by omega)
              have h5 : (2000 : Int) < (an : Int) := by omega
              have H4 := Lib.hid h4
              clear h4
              go_wp2
              go_meet
              case rel => exact ⟨rfl, rfl⟩
          case rest =>
          obtain ⟨rfl, rfl⟩ := hcut
          clear hcase
          go_wp2_with (fail)
          refine (roomy_any aA bn ac _ bl 165 _ hbr (by omega)).mono ?_
          rintro e w2 ⟨rfl, hb2', hO2⟩
          obtain ⟨hf, hhf⟩ : ∃ hf, hf = wa.heap.size := ⟨_, rfl⟩
          rw [← hhf] at hb2' ⊢
          obtain ⟨hf1, hf2⟩ := rd_roomy hb2' hbl
          have hgr := hR.lt
          have hgf : g ≠ hf ∧ g2 ≠ hf := by omega
          replace hR := hR.only hO2 (by simp) (by simp)
          replace hO := hO.trans hO2
          replace hbr := hbr.only hO2 (by simp)
          replace hq := hq.on hO2 (Nat.le_refl _)
          clear har hb9 hb0 hb1 hb2 hO2 hb2' hhf hgr
          go_wp2_with (fail)
          refine (ringPut_any g g2 r at' bn (bn + 80) _ arr q bl _ hR _ hf2 (by intro ad e _; injection e with e; subst e; exact fun h => hgf.2 h.symm) (by omega) (by omega)).mono ?_
          rintro e w3 ⟨arr3, rfl, hR3, hO3⟩
          have hgb := hR.lt
          have hgq : g ≠ g2 := fun h => by subst h; exact absurd (hR.1.eq hR.2.1) (by simp [bvs]; intro h; cases hh : arr <;> simp [hh, bv] at h)
          rw [← Hql.out] at hR3 ⊢
          obtain ⟨kp, hkp⟩ : ∃ kp, kp = min bn (r - ql) := ⟨_, rfl⟩
          rw [← hkp]
          have hkb : kp ≤ bn := by omega
          have Hkp := Lib.hid hkp
          clear hkp
          have hl2 : ∀ x ∈ [g, g2], x ∈ ([] : List Nat) ∨ w.heap.size ≤ x := by intro x hx; simp at hx; omega
          replace hO := hO.trans' hO3 hl2
          replace hbr := hbr.only hO3 (by intro x hx; simp at hx; omega)
          replace hf1 := (hf1.only' hO3 (by intro ad e _; injection e with e; subst e; simp; omega)).more hO3.size
          replace hq := (hq.only' hO3 (by intro ad e h; have := hqg ad e h; simp; exact this)).more hO3.size
          clear hO3 hf2 hR hgb
          go_upto_if 91 with (fail)
          go_cut [14] (fun s wx => w3 = wx ∧ s = .int .i64 (kp : Int))
          case first =>
            go_wp2
            all_goals
              go_meet
              case rel => exact ⟨rfl, by have := Hkp.out; congr 1; omega⟩
          case rest =>
          obtain ⟨rfl, rfl⟩ := hcut
          go_wp2_with (fail)
          refine (intact_any (some ⟨hf, 0, none⟩) aA bn (bn + 80) ac _ _ bl 165 _ hf1 hbr (by omega) (by omega)).mono ?_
          rintro e w4 ⟨rfl, k4, rfl⟩
          clear hf1
          go_upto_region 28 with (fail)
          refine name_it (p := fun y => Code.wp _ _ _ _ y) ?_
          intro w4 H4
          replace hO : Only [] w w4 := by rw [H4.out]; exact hO.drewN _
          replace hbr : Rd w4 w.heap.size 1 aA bn (bvs bl) := by rw [H4.out]; exact hbr.drewN _
          replace hq : Rd w4 w4.heap.size 1 A' ql (bvs q) := by rw [H4.out]; exact hq.drewN _
          replace hR3 : RingAt w4 g g2 r at' arr3 (q ++ List.take (r - ql) bl) := by rw [H4.out]; exact hR3.drewN _
          clear H4
          have hbk := hbr.take hkb
          rw [Nat.mul_one, bvs_take] at hbk
          have hsh := run_slice_h (P := Try.prog) (A := aA) (n := bn) (c := ac) (m := kp) (hi := (kp : Int)) Try.underlying26 (size := 1) (by kernel_rfl) rfl (by omega)
          have hk0 : (0 : Int) ≤ (kp : Int) := by omega
          have hk1 : (kp : Int) ≤ (ac : Int) := by omega
          have hk2 : kp ≤ ac := by omega
          have hnc : n ≤ c := hnc
          go_region_law (first
            | (refine step_append_row (v := .slice (some ⟨w4.heap.size, 0, none⟩) 0 0) (by rfl) (.tmp 103) (.tmp 104) 26 (by rfl) w4.heap.size 5 (.int .u8 0) 1 1 Try.underlying26 byteInfo rfl (by omega) (by rfl) (by exact own_empty w4 _ _ _ rfl (Nat.le_refl _)) c' (by rfl) (by exact hq.alloc (.cells #[] 5)) (bvs_one _) (by simp only [maxLen]; omega) (by omega) (by simp) ?_
               intro v5 w5 hown5 hO5 hb5
               replace hO5 : Only [] w4 w5 := only_own hO5 (Nat.le_refl _) (by first | exact ((Only.refl [] w4).alloc _) | exact ((Only.refl [] w4).alloc _).drew | exact ((Only.refl [] w4).drew).alloc _ | exact (((Only.refl [] w4).drew).alloc _).drew)
               clear hb5)
            | (refine step_append_row (v := v5) (by rfl) (.tmp 105) (.tmp 108) 26 (by rfl) w4.heap.size 5 (.int .u8 0) 1 1 Try.underlying26 byteInfo rfl (by omega) (by rfl) (by exact hown5) ac (by rfl) (by exact hbk.only hO5 (by simp)) (bvs_one _) (by simp only [maxLen]; omega) (by omega) (by exact hO5.size) ?_
               intro v6 w6 hown6 hO6 hb6
               replace hO6 : Only [] w4 w6 := only_own' hO5 (by first | exact Only.refl _ _ | exact (Only.refl _ _).drew) hO6 hown5
               clear hb6))
          all_goals
            go_wp2
            go_meet
            case rel =>
              obtain ⟨A6, c6, rfl, hc6, hrd6, hb6⟩ := own_slice hown6
              have hkp := Hkp.out
              have hql := Hql.out
              have hlen : (q ++ bl.take (r - ql)).length = 0 + ql + kp := by rw [List.length_append, List.length_take, hbl, ← hql]; omega
              have htk : bl.take kp = bl.take (r - ql) := by rw [List.take_eq_take_iff, hbl]; omega
              have e6 : [] ++ bvs q ++ bvs (bl.take kp) = bvs (q ++ bl.take (r - ql)) := by rw [htk, List.nil_append, bvs_append]
              rw [e6] at hrd6
              refine ⟨A6, c6, at', arr3, q ++ bl.take (r - ql), by rw [hlen], by rw [hlen]; exact hc6, by rw [hlen]; exact hrd6, ?_, hR3.only hO6 (by simp) (by simp), hO.trans hO6⟩
              · intro ad e h
                have h1 := (hb6 ad e).2
                have h2 := hR3.lt
                omega
        · have hqm := hq.take hmq
          rw [Nat.mul_one, bvs_take] at hqm
          have hsh := run_slice_h (P := Try.prog) (A := A') (n := ql) (c := c') (m := m) (hi := (m : Int)) Try.underlying26 (size := 1) (by kernel_rfl) rfl (by omega)
          have hgr := hR.lt
          have hm0 : (0 : Int) ≤ (m : Int) := by omega
          have hm1 : (m : Int) ≤ (c' : Int) := by omega
          have hm2 : m ≤ c' := by omega
          have cv0 := run_string_rd (P := Try.prog) 26 9 5 Try.underlying26 Try.underlying5 Try.underlying9 c' hqm
          have cv1 := run_string_rd (P := Try.prog) 26 9 5 Try.underlying26 Try.underlying5 Try.underlying9 c' hqm.drew
          have cv2 := run_string_rd (P := Try.prog) 26 9 5 Try.underlying26 Try.underlying5 Try.underlying9 c' hqm.drew.drew
          by_cases k2 : ak = 2
          · subst k2
            go_upto_region 30 with (fail)
            go_region_with (
              (go_at_call 15
               refine (ringTake_any g g2 r at' am arr q _ (by exact hR) m (by rw [← Hql.out]; exact Hmm.out)).mono ?_
               rintro e w5 ⟨o5, a5, rfl, ho5, hb5, hR5, hO5⟩
               replace hO5 : Only [g] wa w5 := by first | exact hO5 | exact hO5.ofDrew | exact hO5.ofDrew.ofDrew
               have hl5 : (q.take m).length = m := by rw [List.length_take, ← Hql.out]; omega
               have hq5 : Rd w5 w5.heap.size 1 A' ql (bvs q) := (hq.only' (w' := w5) hO5 (by intro ad e h; have := (hqg ad e h).1; simpa using this)).more hO5.size
               have hqm5 := hq5.take hmq
               rw [Nat.mul_one, bvs_take] at hqm5
               have cw0 := byteStr (n := m) m hb5 hl5
               have cw1 := byteStr (w := w5.drew) (n := m) m hb5 hl5
               have cx0 := run_string_rd (P := Try.prog) 26 9 5 Try.underlying26 Try.underlying5 Try.underlying9 c' hqm5
               have cx1 := run_string_rd (P := Try.prog) 26 9 5 Try.underlying26 Try.underlying5 Try.underlying9 c' hqm5.drew
               clear hl5))
            all_goals
              have hlt5 := hR5.lt
              obtain ⟨A2, hs2, hr2, hbk2⟩ := hq5.slice_lb (P := Try.prog) Try.underlying26 (by kernel_rfl) (k := m) (c := c') (lo := (m : Int)) rfl hmq hqc
              rw [Nat.mul_one, bvs_drop] at hr2
              clear cw0 cw1 cx0 cx1 cv0 cv1 cv2 hsh
              go_wp2
              go_meet
              case rel =>
                have hld : (q.drop m).length = ql - m := by rw [List.length_drop, ← Hql.out]
                refine ⟨A2, c' - m, a5, arr, q.drop m, by rw [hld], by rw [hld]; omega, by rw [hld]; exact hr2, ?_, by exact hR5, by exact (hO.trans' hO5 (by intro x hx; simp at hx; omega))⟩
                intro ad e h
                obtain ⟨ad0, e0, eb⟩ := hbk2 ad e
                rw [← eb]
                exact hqg ad0 e0 (by omega)
          · by_cases k3 : ak = 3
            · subst k3
              go_upto_region 34 with (fail)
              go_region_with (
                (go_at_call 17
                 refine (ringPeek_any g g2 r at' am arr q _ (by exact hR) m (by rw [← Hql.out]; exact Hmm.out)).mono ?_
                 rintro e w5 ⟨o5, rfl, ho5, hb5, hO5⟩
                 replace hO5 : Only [] wa w5 := by first | exact hO5 | exact hO5.ofDrew | exact hO5.ofDrew.ofDrew
                 have hl5 : (q.take m).length = m := by rw [List.length_take, ← Hql.out]; omega
                 have hq5 : Rd w5 w5.heap.size 1 A' ql (bvs q) := hq.on hO5 (Nat.le_refl _)
                 have hqm5 := hq5.take hmq
                 rw [Nat.mul_one, bvs_take] at hqm5
                 have cw0 := byteStr (n := m) m hb5 hl5
                 have cw1 := byteStr (w := w5.drew) (n := m) m hb5 hl5
                 have cx0 := run_string_rd (P := Try.prog) 26 9 5 Try.underlying26 Try.underlying5 Try.underlying9 c' hqm5
                 have cx1 := run_string_rd (P := Try.prog) 26 9 5 Try.underlying26 Try.underlying5 Try.underlying9 c' hqm5.drew
                 clear hl5))
              all_goals
                clear cw0 cw1 cx0 cx1 cv0 cv1 cv2 hsh
                go_wp2
                go_meet
                case rel =>
                  exact ⟨A', c', at', arr, q, by rw [← Hql.out], by rw [← Hql.out]; exact hqc, by rw [← Hql.out]; exact hq5, by rw [← Hql.out]; exact hqg, by exact hR.only hO5 (by simp) (by simp), by exact hO.trans hO5⟩
            · go_wp2
              go_meet
              case rel => exact ⟨A', c', at', arr, q, by rw [← Hql.out], by rw [← Hql.out]; exact hqc, by rw [← Hql.out]; exact hq, by rw [← Hql.out]; exact hqg, hR, hO⟩
      case rest =>
      obtain ⟨A2, c2, at2, arr2, q2, rfl, hqc2, hq2, hqg2, hR2, hO2⟩ := hcut
      have hlen2 := hR2.len
      have hrow2 := hR2.row
      have hqr2 : q2.length ≤ r := hR2.2.2.2.2.2.2.1
      obtain ⟨n2, hn2⟩ : ∃ n2, n2 = q2.length := ⟨_, rfl⟩
      rw [← hn2] at hlen2 hqr2 ⊢
      have Hn2 := Lib.hid hn2
      clear hn2 hR hO har hq hb9 hb0 hb1 hb2
      go_wp2_with (fail)
      refine (ringLen_any g n2 _ hlen2).mono ?_
      rintro e w8 ⟨rfl, rfl⟩
      go_wp2_with (fail)
      refine (ringRoom_any g (some ⟨g2, 0, none⟩) r r n2 _ hrow2 hlen2 (by omega) hqr2).mono ?_
      rintro e w9 ⟨rfl, n9, rfl⟩
      have hsub : ((r - n2 : Nat) : Int) = (r : Int) - (n2 : Int) := by omega
      rw [hsub]
      clear hlen2 hrow2
      go_wp2
      go_roundw
      case rel => exact ⟨k + 1, by go_num, by omega, A2, c2, at2, arr2, q2, by rw [← Hn2.out], hqc2, by exact hq2, hqg2, by exact hR2, hO2.drewN _⟩
      case measure => simp [intOf]; omega
    · by_cases hkn : k < n
      case' pos => have hk200 : ¬ k < 200 := fun h => hlt ⟨hkn, h⟩
      all_goals
        have Hlt := Lib.hid hlt
        clear hlt hR hq
        go_wp2_with (fail)
        refine (ringKnown _).mono ?_
        rintro e w9 ⟨rfl, hO9⟩
        go_wp2
        go_ret
        exact ⟨rfl, hO.trans hO9⟩
end Go.Proofs.Ytjjfnepmnjjemaa
