/- DetokBad. -/
import Derived.Test.YtemnanhoiacphaaDoorPk17
set_option linter.unusedVariables false
set_option linter.unusedSimpArgs false
set_option maxRecDepth 100000
namespace Go.Proofs.YtemnanhoiacphaaDoor
open Go.RowKit

set_option maxHeartbeats 8000000 in
theorem detokBad_walk (w : World) (v0 v1 v2 v3 v4 : Value) (ws : List ByteArray) (ms : List Mg) (a b d : List Sp) (hR : Rd5 w v0 v1 v2 v3 v4 ws ms a b d)
    (s0 : ws.length ≤ 8796093021952) (s1 : ms.length ≤ 5864062014634) (s2 : a.length ≤ 17592186043904) (s3 : b.length ≤ 17592186043904) (s4 : d.length ≤ 17592186043904) (hws : ∀ s ∈ ws, s.size ≤ maxLen) (hms : ∀ m ∈ ms, m.ok)
    (A : Option Addr) (n c : Nat) (l : List Int) (hl : l.length = n) (hr : Rd w w.heap.size 1 A n (l.map (Value.int .i64))) (hnc : n ≤ c) (hc : c ≤ 140737488351232) (hwf : ∀ x ∈ l, (Lit.int .i64 x).wf = true) (bad : Int) (hbd : -9223372036854775808 ≤ bad ∧ bad ≤ 9223372036854775807) (hT : Tabs w) :
    Calls Tryd.prog 5 #[.agg #[v0, v1, v2, v3, v4], .slice A n c, .int .i64 bad] w fun e w' => e = .returned (.bool true) ∧ Only [] w w' := by
  obtain ⟨h, hh⟩ : ∃ h, h = w.heap.size := ⟨_, rfl⟩
  obtain ⟨W1, hW1⟩ : ∃ W1, W1 = w.alloc (.cells #[v0, v1, v2, v3, v4] 26) := ⟨_, rfl⟩
  have hb : Blk W1 h 26 [v0, v1, v2, v3, v4] := by rw [hW1]; exact Blk.new' _ _ _ hh.symm rfl
  have hO1 : Only [] w W1 := by rw [hW1]; exact (Only.refl _ _).alloc _
  have hof := ofM_any W1 v0 v1 v2 v3 v4 ws ms a b d (hR.only hO1) (by omega) (by omega) s2 s3 s4 hws hms
  have k0 : W1.cell? ⟨h, 0, none⟩ = some v0 := hb.cell 0
  have k1 : W1.cell? ⟨h, 1, none⟩ = some v1 := hb.cell 1
  have k2 : W1.cell? ⟨h, 2, none⟩ = some v2 := hb.cell 2
  have k3 : W1.cell? ⟨h, 3, none⟩ = some v3 := hb.cell 3
  have k4 : W1.cell? ⟨h, 4, none⟩ = some v4 := hb.cell 4
  obtain ⟨⟨A0, d0, e0, -⟩, ⟨A1, d1, e1, -⟩, ⟨A2, d2, e2, -⟩, ⟨A3, d3, e3, -⟩, ⟨A4, d4, e4, -⟩⟩ := hR
  have Hof := Lib.hid hof
  have Hh := Lib.hid hh
  have HW := Lib.hid hW1
  have HO1 := Lib.hid hO1
  have HT := Lib.hid hT
  have HL := Lib.hid hl
  have HR := Lib.hid hr
  have h64 := i64s_ok hwf
  have H64 := Lib.hid h64
  clear hof hh hW1 hb hO1 hT hl hr hwf h64 hws hms s0 s1 s2 s3 s4
  subst e0 e1 e2 e3 e4
  go_enter Tryd.func5, Tryd.ntmps5
  go_upto_region 1 with (fail)
  rw [← Hh.out, ← HW.out]
  go_wp2_with (fail)
  refine Hof.out.mono ?_
  rintro e W2 hpost
  rcases hpost.no with ⟨rfl, hO2⟩ | ⟨gm, base, rfl, hO2, hbW, hF, hM, -⟩
  · clear hpost k0 k1 k2 k3 k4 Hof
    have hT2 := HT.out.only (HO1.out.trans hO2) (by simp) (by simp)
    go_wp2_with (fail)
    refine (known17_any W2 hT2).mono ?_
    rintro e W3 ⟨rfl, hO3⟩
    go_wp2_with (fail)
    go_ret
    exact ⟨rfl, HO1.out.trans (hO2.trans hO3)⟩
  obtain ⟨hw256, hlg⟩ := fault_small hF
  have hO02 := HO1.out.trans hO2
  have hT2 := HT.out.only hO02 (by simp) (by simp)
  have HT2 := Lib.hid hT2
  have HO02 := Lib.hid hO02
  have HM := Lib.hid hM
  have Hw := Lib.hid hw256
  obtain ⟨n', l', hl', hr', hn'1, hn'2, hlt', hcase⟩ := (HR.out.only hO02 (by simp)).cutI HL.out 20
  have h64' : ∀ i ∈ l', i64ok i := fun i hi => H64.out i (by rw [hlt'] at hi; exact List.mem_of_mem_take hi)
  have HL' := Lib.hid hl'
  have HR' := Lib.hid hr'
  have H64' := Lib.hid h64'
  clear hpost k0 k1 k2 k3 k4 Hof hO02 hT2 hM hw256 hl' hr' h64' hlt'
  go_upto_if 37 with (fail)
  go_cut [1] (fun s wx => W2 = wx ∧ s = .slice A n' c)
  case first =>
    rcases hcase with ⟨h3, h4⟩ | ⟨h3, h4⟩
    · have h5 : ¬ (20 : Int) < (n : Int) := by omega
      have H4 := Lib.hid h4
      clear h4
      go_wp2
      go_meet
      case rel => exact ⟨rfl, by rw [H4.out]⟩
    · have hsh := run_slice_h (P := Tryd.prog) (A := A) (n := n) (c := c) (m := n') (hi := (20 : Int)) Tryd.underlying27 (size := 1) (by kernel_rfl) (by omega) (by omega)
      have h5 : (20 : Int) < (n : Int) := by omega
      have H4 := Lib.hid h4
      clear h4
      go_wp2
      go_meet
      case rel => exact ⟨rfl, rfl⟩
  case rest =>
  obtain ⟨rfl, rfl⟩ := hcut
  clear hcase
  have hB2 : w.heap.size ≤ W2.heap.size := HO02.out.size
  have hwd := word_any W2 base gm ws ms a b d ms.length (lookM 0 ms) (lgF ws) HM.out bad (by unfold i64ok; exact hbd)
  have Hwd := Lib.hid hwd
  clear hwd
  go_wp2_with (fail)
  refine Hwd.out.mono ?_
  rintro e W3 ⟨rfl, hO3⟩
  obtain ⟨BS, hBS⟩ : ∃ z, z = bytS ws l' := ⟨_, rfl⟩
  have hby := bytes17_any W3 gm base ws ms a b d ms.length (lookM 0 ms) (lgF ws) (HM.out.only0 hO3) Hw.out A n' c w.heap.size l' HL'.out (by omega) (HR'.out.only hO3 (by simp)) (by have := hO3.size; omega) H64'.out
  rw [← hBS] at hby
  have hble : BS.2 ≤ n' := by rw [hBS, ← HL'.out]; exact bytS_le ws l'
  have Hby := Lib.hid hby
  have HBS := Lib.hid hBS
  clear hby hBS
  obtain ⟨isb, hisb⟩ : ∃ z, z = isWord ws bad := ⟨_, rfl⟩
  rw [← hisb]
  have His := Lib.hid hisb
  clear hisb
  go_wp2_with (fail)
  refine Hby.out.mono ?_
  rintro e W4 ⟨rfl, hO4⟩
  have hO04 := HO02.out.trans (hO3.trans hO4)
  have hT4 := HT.out.only hO04 (by simp) (by simp)
  by_cases hgo : isb = true ∨ BS.2 < n'
  · rcases hgo with hg1 | hg2
    · subst hg1
      go_wp2_with (fail)
      refine (known17_any W4 hT4).mono ?_
      rintro e W5 ⟨rfl, hO5⟩
      go_wp2_with (fail)
      go_ret
      exact ⟨rfl, hO04.trans hO5⟩
    · have hgi : ((BS.2 : Nat) : Int) < (n' : Int) := by omega
      cases isb
      all_goals
       go_wp2_with (fail)
       refine (known17_any W4 hT4).mono ?_
       rintro e W5 ⟨rfl, hO5⟩
       go_wp2_with (fail)
       go_ret
       exact ⟨rfl, hO04.trans hO5⟩
  have hib : isb = false := by
    cases h : isb with
    | true => exact absurd (.inl h) hgo
    | false => rfl
  have hbn : BS.2 = n' := by
    have : ¬ BS.2 < n' := fun h => hgo (.inr h)
    omega
  subst hib
  have hnb : ¬ ((BS.2 : Nat) : Int) < (n' : Int) := by omega
  have Hbn := Lib.hid hbn
  have hM4 := HM.out.only0 (hO3.trans hO4)
  have hnew := dkNew_any W4 gm base ws ms a b d ms.length (lookM 0 ms) (lgF ws) hM4 (by omega) 1048576 (by unfold i64ok; omega) false
  have Hnew := Lib.hid hnew
  have HM4 := Lib.hid hM4
  have HT4 := Lib.hid hT4
  have HO04 := Lib.hid hO04
  have hs04 := hO04.size
  have HO24 := Lib.hid (hO3.trans hO4)
  clear hgo hbn hnew hM4 hT4 hO04 hO3 hO4
  go_wp2_with (fail)
  refine Hnew.out.mono ?_
  rintro e W5 ⟨hO5, ⟨hno, -⟩ | ⟨-, g, gr, g2, rfl, hD⟩⟩
  · exact absurd (by unfold NewOk; omega) hno
  have hlt : g < W5.heap.size ∧ gr < W5.heap.size ∧ g2 < W5.heap.size := by
    obtain ⟨at_, arr, hr⟩ := hD.ring
    have h1 := hD.blk.lt
    have h2 := hr.1.lt
    have h3 := hr.2.1.lt
    omega
  have hge := hD.ge
  -- the list of three parts
  have hr5 := HR'.out.only (HO24.out.trans hO5) (by simp)
  obtain ⟨x1, U1, hrun1, own1, hO1a, -, -⟩ := run_append_row (P := Tryd.prog) (w := W5.alloc (.cells #[] 3)) W5.heap.size 27 27 3 (.int .i64 0) 1 8 Tryd.underlying27 (by kernel_rfl) rfl (by omega) (own_empty W5 W5.heap.size 3 1 rfl (Nat.le_refl _)) c (hr5.alloc _) (by simp [Value.oneCell']) (by simp only [maxLen]; omega) (by omega) (by simp)
  have hU1 : Only [] W5 U1 := ((Only.refl [] W5).alloc _).trans' hO1a (by simp [Value.ownBlock])
  obtain ⟨X1, y1, rfl, -⟩ := own_slice own1
  simp only [Nat.zero_add, List.nil_append] at own1 hrun1
  have hb2 : Blk (U1.alloc (.cells #[.int .i64 bad] 3)) U1.heap.size 3 ([bad].map (Value.int .i64)) := Blk.new' _ _ _ rfl rfl
  obtain ⟨x2, U2, hrun2, own2, hO2a, -, -⟩ := run_append_row (P := Tryd.prog) (w := U1.alloc (.cells #[.int .i64 bad] 3)) W5.heap.size 27 27 3 (.int .i64 0) 1 8 Tryd.underlying27 (by kernel_rfl) rfl (by omega) (own_only own1 ((Only.refl [] U1).alloc _) (by simp)) 1 (rd_ints (n := 1) hb2 rfl) (by simp [Value.oneCell']) (by simp only [maxLen]; omega) (by omega) (by have := hU1.size; simp; omega)
  have hU2 : Only [] W5 U2 := (hU1.trans ((Only.refl [] U1).alloc _)).trans' hO2a (by intro y hy; exact .inr (own_lt own1 (by simpa using hy)).1)
  obtain ⟨X2, y2, rfl, -⟩ := own_slice own2
  obtain ⟨x3, U3, hrun3, own3, hO3a, -, -⟩ := run_append_row (P := Tryd.prog) (w := U2) W5.heap.size 27 27 3 (.int .i64 0) 1 8 Tryd.underlying27 (by kernel_rfl) rfl (by omega) own2 c (hr5.only hU2 (by simp)) (by simp [Value.oneCell']) (by simp only [maxLen]; omega) (by omega) (hU2.size)
  have hU3 : Only [] W5 U3 := hU2.trans' hO3a (by intro y hy; exact .inr (own_lt own2 (by simpa using hy)).1)
  obtain ⟨X3, y3, rfl, -, hrd3, hX3⟩ := own_slice own3
  obtain ⟨L3, hL3⟩ : ∃ L, L = (l' ++ [bad]) ++ l' := ⟨_, rfl⟩
  have hmap : List.map (Value.int IntKind.i64) l' ++ List.map (Value.int IntKind.i64) [bad] ++ List.map (Value.int IntKind.i64) l' = L3.map (Value.int .i64) := by rw [hL3]; simp
  rw [hmap] at hrd3
  have hL3l : L3.length = n' + 1 + n' := by rw [hL3]; simp [HL'.out]; omega
  have h643 : ∀ i ∈ L3, i64ok i := by
    intro i hi
    rw [hL3] at hi
    simp only [List.mem_append, List.mem_singleton] at hi
    rcases hi with (hi | rfl) | hi
    · exact H64'.out i hi
    · unfold i64ok; exact hbd
    · exact H64'.out i hi
  -- what the calls answer
  have hkn : ∀ id ∈ l', isWord ws id = true := by
    have : ∀ (l : List Int), (bytS ws l).2 = l.length → ∀ id ∈ l, isWord ws id = true := by
      intro l
      induction l with
      | nil => simp
      | cons i l ih =>
        intro h
        unfold bytS at h
        split at h
        · rename_i hi
          intro id hid
          rcases List.mem_cons.1 hid with rfl | hid
          · exact hi
          · exact ih (by simpa using h) id hid
        · simp at h
    exact this l' (by rw [← HBS.out, HL'.out]; exact Hbn.out)
  obtain ⟨z, hz, hzt, hzm, hzf, -, -, -⟩ := feed_exact Hw.out (R := 1048576) l' dk0 rfl hkn (by simp [totS, dk0, HL'.out]; omega)
  have hfeed : feedS ws false 1048576 L3 dk0 = (n', { z with met := true }) := by
    rw [hL3, List.append_assoc, feed_append l' _ dk0 z hz]
    rw [List.singleton_append, feed_bad (His.out.symm) l' z, HL'.out]
    simp
  have hzb : totS z = BS.1 := by rw [hzt, HBS.out]; simp [totS, dk0]
  have hbl : BS.1.length ≤ 256 * n' := by rw [HBS.out, ← HL'.out]; exact bytS_size Hw.out l'
  have hfd := dkFeed_any U3 W4 g gr g2 gm false (1048576 : Int).toNat dk0 (hD.only0 hU3) HT4.out base ws ms a b d ms.length (lookM 0 ms) (lgF ws) HM4.out Hw.out X3 (n' + 1 + n') y3 U3.heap.size L3 hL3l (by omega) hrd3 (.inr (by
    intro ad e1
    have := (hX3 ad e1).2
    omega)) h643
  rw [show (1048576 : Int).toNat = 1048576 from rfl, hfeed] at hfd
  simp only [dk0, Bool.false_eq_true, if_false] at hfd
  have Hfd := Lib.hid hfd
  have Hrun1 := Lib.hid hrun1
  have Hrun2 := Lib.hid hrun2
  have Hrun3 := Lib.hid hrun3
  have HU3 := Lib.hid (hO5.trans hU3)
  have Hzb := Lib.hid hzb
  have hs45 := hO5.size
  have Hzm := Lib.hid hzm
  have Hzf := Lib.hid hzf
  have HO5 := Lib.hid hO5
  clear hfd hrun1 hrun2 hrun3 hU3 hU2 hU1 hO3a hO2a hO1a own1 own2 own3 hb2 hrd3 hX3 hmap hL3 hL3l h643 hr5 hkn hz hzt hzm hzf hfeed hD hO5 hzb Hnew
  go_wp2_with ((first
    | (at_builtin; refine wpList_append_run (o := ⟨some 73, _, _, _, _, _⟩) (by rfl) (.tmp 71) (.tmp 72) 27 27 (by rfl) (by rfl) (by rfl) Hrun1.out ?_)
    | (at_builtin; refine wpList_append_run (o := ⟨some 76, _, _, _, _, _⟩) (by rfl) (.tmp 73) (.tmp 75) 27 27 (by rfl) (by rfl) (by rfl) Hrun2.out ?_)
    | (at_builtin; refine wpList_append_run (o := ⟨some 78, _, _, _, _, _⟩) (by rfl) (.tmp 76) (.tmp 77) 27 27 (by rfl) (by rfl) (by rfl) Hrun3.out ?_)))
  refine Hfd.out.mono ?_
  rintro e W6 ⟨rfl, hD6, hO6⟩
  have hg4 := hD6.ge
  have hs6 : ∀ y ∈ ([g, gr, g2] : List Nat), W4.heap.size ≤ y := by intro y hy; simp at hy; omega
  have HO46 := Lib.hid (HU3.out.trans' hO6 (fun y hy => .inr (hs6 y hy)))
  have hst1 := dkStatus_any W6 W4 g gr g2 gm false 1048576 _ hD6
  rw [show statS { z with met := true } = 3 from rfl] at hst1
  have Hst1 := Lib.hid hst1
  have HD6 := Lib.hid hD6
  clear hst1 hD6 hO6
  go_wp2_with (fail)
  refine Hst1.out.mono ?_
  rintro e W6' ⟨rfl, rfl⟩
  -- again the ids
  have hfd := dkFeed_any W6 W4 g gr g2 gm false 1048576 _ HD6.out HT4.out base ws ms a b d ms.length (lookM 0 ms) (lgF ws) HM4.out Hw.out A n' c w.heap.size l' HL'.out (by omega) (HR'.out.only (HO24.out.trans HO46.out) (by simp)) (.inl hs04) H64'.out
  rw [feed_met l' _ rfl] at hfd
  simp only [Hzf.out, dk0, Bool.false_eq_true, if_false] at hfd
  have Hfd2 := Lib.hid hfd
  clear hfd
  go_wp2_with (fail)
  refine Hfd2.out.mono ?_
  rintro e W7 ⟨rfl, hD7, hO7⟩
  have HO47 := Lib.hid (HO46.out.trans' hO7 (fun y hy => .inr (hs6 y hy)))
  have hfl := dkFlush_any W7 W4 g gr g2 gm false 1048576 _ hD7 HT4.out
  have hzl : (totS ⟨z.held, z.ring, true, false⟩).length ≤ 1048576 := by
    show (totS z).length ≤ _
    rw [Hzb.out]; omega
  rw [flush_exact (x := ⟨z.held, z.ring, true, false⟩) rfl hzl, show totS ⟨z.held, z.ring, true, false⟩ = totS z from rfl, Hzb.out] at hfl
  simp only [Bool.false_eq_true, if_false] at hfl
  have Hfl := Lib.hid hfl
  clear hfl hD7 hO7
  go_wp2_with (fail)
  refine Hfl.out.mono ?_
  rintro e W8 ⟨rfl, hD8, hO8⟩
  have HO48 := Lib.hid (HO47.out.trans' hO8 (fun y hy => .inr (hs6 y hy)))
  have hst2 := dkStatus_any W8 W4 g gr g2 gm false 1048576 _ hD8
  simp only [statS, if_true] at hst2
  have Hst2 := Lib.hid hst2
  clear hst2 hO8
  go_wp2_with (fail)
  refine Hst2.out.mono ?_
  rintro e W8' ⟨rfl, rfl⟩
  clear Hst2 Hfl Hfd2 Hst1 Hfd
  go_wp2_with (fail)
  obtain ⟨q, hq⟩ : ∃ q, q = BS.1 := ⟨_, rfl⟩
  rw [← hq] at hD8 hbl
  have Hq := Lib.hid hq
  clear hq
  go_loopw [20, 19] (fun vi vo wr => ∃ k : Nat, vi = .int .i64 (k : Int) ∧ k ≤ 3 ∧ vo = .string (if k = 0 then ⟨#[]⟩ else str q) ∧ DecAt wr W4 g gr g2 gm false 1048576 ⟨.empty, if k = 0 then q else [], true, true⟩ ∧ Only [] W4 wr) (fun vi _ _ => 3 - (intOf vi).toNat)
  case atStart => exact ⟨0, rfl, by omega, rfl, hD8, HO48.out⟩
  case round =>
    clear hD8
    obtain ⟨k, rfl, hk, rfl, hD, hO⟩ := hrel
    by_cases hlt : k < 3
    · obtain ⟨qk, hqk⟩ : ∃ r, r = (if k = 0 then q else []) := ⟨_, rfl⟩
      have hqkl : qk.length ≤ 5120 := by
        rw [hqk]
        split
        · omega
        · simp
      rw [← hqk] at hD
      obtain ⟨so, hso⟩ : ∃ r : ByteArray, r = (if k = 0 then ⟨#[]⟩ else str q) := ⟨_, rfl⟩
      rw [← hso]
      have hrd := dkRead_any wr W4 g gr g2 gm false 1048576 _ hD HT4.out 1048576
      rw [read_empty (by show qk.length ≤ 1048576; omega)] at hrd
      have hmin : min (1048576 : Int).toNat qk.length = qk.length := Nat.min_eq_right (by show qk.length ≤ 1048576; omega)
      simp only [hmin, List.take_length, statS, if_true] at hrd
      have hnx : so ++ str qk = str q := by
        rw [hso, hqk]
        by_cases h0 : k = 0
        · rw [if_pos h0, if_pos h0]
          exact ByteArray.empty_append
        · rw [if_neg h0, if_neg h0]
          exact ByteArray.append_empty
      have hsum : ¬ 9223372036854775807 < so.size + (str qk).size := by
        have h1 : (so ++ str qk).size = so.size + (str qk).size := ByteArray.size_append
        have h2 : (str q).size = q.length := by simp [str, ByteArray.size]
        rw [hnx] at h1
        omega
      have Hnx := Lib.hid hnx
      have Hrd := Lib.hid hrd
      have HO := Lib.hid hO
      obtain ⟨ml, hml⟩ : ∃ m, m = qk.length := ⟨_, rfl⟩
      rw [← hml] at Hrd
      have Hml := Lib.hid hml
      clear hnx hrd hO hD hqk hso hmin hml
      go_wp2_with (fail)
      refine Hrd.out.mono ?_
      rintro e W9 ⟨o, rfl, hwo, hbo, hD9, hO9⟩
      have hcv := byteStr ml hbo (n := ml) Hml.out.symm
      have HD9 := Lib.hid hD9
      have HO9 := Lib.hid (HO.out.trans' hO9 (fun y hy => .inr (hs6 y hy)))
      clear hbo hD9 hO9 Hrd
      go_wp2_with (fail)
      go_roundw
      case rel => exact ⟨k + 1, by go_num, by omega, by rw [if_neg (by omega), Hnx.out], by rw [if_neg (by omega)]; exact HD9.out, HO9.out⟩
      case measure => simp [intOf]; omega
    · obtain rfl : k = 3 := by omega
      rw [if_neg (by omega), Hq.out]
      have hse : ((str BS.1).toList == (str BS.1).toList) = true := beq_self_eq_true _
      have hT9 := HT4.out.only hO (by simp) (by simp)
      have HO := Lib.hid hO
      clear hD hO
      go_wp2_with (fail)
      refine (known17_any wr hT9).mono ?_
      rintro e W10 ⟨rfl, hO10⟩
      go_wp2_with (fail)
      go_ret
      exact ⟨rfl, HO04.out.trans (HO.out.trans hO10)⟩
end Go.Proofs.YtemnanhoiacphaaDoor
