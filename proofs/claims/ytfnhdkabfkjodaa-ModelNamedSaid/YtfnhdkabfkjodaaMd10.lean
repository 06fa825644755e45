/- The document's answer for chapter 5: what is wrong with a merge. -/
import Derived.Test.YtfnhdkabfkjodaaMd9
set_option linter.unusedVariables false
set_option linter.unusedSimpArgs false
namespace Go.Proofs.Ytfnhdkabfkjodaa
open Go.RowKit

theorem lookM_mem {m : Mg} {p : Int × Int} (h : (m.l, m.r) = p) : ∀ (l : List Mg) (i : Nat), m ∈ l → (lookM i l p).isSome = true
  | [], _, hm => by cases hm
  | x :: l, i, hm => by
    rw [lookM]
    by_cases hx : (x.l, x.r) = p
    · rw [if_pos hx]; rfl
    · rw [if_neg hx]
      rcases List.mem_cons.1 hm with rfl | hm
      · exact absurd h hx
      · exact lookM_mem h l (i + 1) hm
/-- what is wrong with the merges, as a fault -/
def mergesF (ws : List ByteArray) (ms : List Mg) : Wr := if (pairsAt ws [] 0 ms).2 ≠ 0 then ((pairsAt ws [] 0 ms).2, 5, (pairsAt ws [] 0 ms).1) else (0, 0, 0)

set_option maxRecDepth 100000 in
set_option maxHeartbeats 8000000 in
theorem merges5_any (w : World) (v0 v1 v2 v3 v4 : Value) (ws : List ByteArray) (ms : List Mg) (a b d : List Sp) (hR : Rd5 w v0 v1 v2 v3 v4 ws ms a b d) (s0 : ws.length ≤ 17592186043904) (s1 : ms.length ≤ 17592186043904) (hws : ∀ s ∈ ws, s.size ≤ 256) (hms : ∀ m ∈ ms, m.ok) :
    Calls Try.prog 58 #[.agg #[v0, v1, v2, v3, v4]] w fun e w' => e = .returned (faultV (mergesF ws ms)) ∧ Only [] w w' := by
  obtain ⟨T, hT⟩ : ∃ T, T = mergesF ws ms := ⟨_, rfl⟩
  rw [← hT]
  obtain ⟨P, hP⟩ : ∃ P, P = pairsAt ws [] 0 ms := ⟨_, rfl⟩
  unfold mergesF at hT
  rw [← hP] at hT
  have hP0 : pairsAt ws (ms.take 0) 0 (ms.drop 0) = P := by rw [hP]; rfl
  obtain ⟨h, hh⟩ : ∃ h, h = w.heap.size := ⟨_, rfl⟩
  obtain ⟨W1, hW1⟩ : ∃ W1, W1 = (w.alloc (.cells #[v0, v1, v2, v3, v4] 26)).alloc (.cells #[.int .i64 0, .int .i64 0, .int .i64 0] 89) := ⟨_, rfl⟩
  have hb : Blk W1 h 26 [v0, v1, v2, v3, v4] := by rw [hW1]; exact (Blk.new' _ _ _ hh.symm rfl).alloc _
  have hb2 : Blk W1 (h + 1) 89 [.int .i64 0, .int .i64 0, .int .i64 0] := by rw [hW1]; exact Blk.new' _ _ _ (by simp; omega) rfl
  have hO : Only [] w W1 := by rw [hW1]; exact ((Only.refl _ _).alloc _).alloc _
  have hwh : w.heap.size ≤ h := by omega
  have hz1 : W1.heap.size = h + 2 := by rw [hW1]; simp; omega
  have hR1 := hR.only hO
  have HR5 := Lib.hid hR1
  obtain ⟨⟨A, c, rfl, -, r0⟩, ⟨A1, c1, rfl, -, r1⟩, ⟨A2, c2, rfl, -, -⟩, ⟨A3, c3, rfl, -, -⟩, ⟨A4, c4, rfl, -, -⟩⟩ := hR1
  obtain ⟨n, hn⟩ : ∃ n, n = ws.length := ⟨_, rfl⟩
  obtain ⟨nm, hnm⟩ : ∃ n, n = ms.length := ⟨_, rfl⟩
  rw [← hn] at r0 s0
  rw [← hnm] at r1 s1
  have HT := Lib.hid hT
  have HP0 := Lib.hid hP0
  have Hn := Lib.hid hn
  have Hnm := Lib.hid hnm
  have R0 := Lib.hid r0
  have R1 := Lib.hid r1
  have Hh := Lib.hid hh
  have HW := Lib.hid hW1
  have Hb2 := Lib.hid hb2
  have Hws := Lib.hid hws
  have Hms := Lib.hid hms
  have kS : ∀ W, Only [] W1 W → (W.cell? ⟨h, 0, none⟩ = some (.slice A n c) ∧ W.cell? ⟨h, 1, none⟩ = some (.slice A1 nm c1) ∧ W.cell? ⟨h, 2, none⟩ = some (.slice A2 a.length c2) ∧ W.cell? ⟨h, 3, none⟩ = some (.slice A3 b.length c3) ∧ W.cell? ⟨h, 4, none⟩ = some (.slice A4 d.length c4)) := by
    intro W hw
    rw [hn, hnm]
    have k := hb.only hw (by simp)
    exact ⟨k.cell 0, k.cell 1, k.cell 2, k.cell 3, k.cell 4⟩
  have KS := Lib.hid kS
  have kQ : ∀ W, Only [] W1 W → (W.cell? ⟨h + 1, 0, none⟩ = some (.int .i64 0) ∧ W.cell? ⟨h + 1, 1, none⟩ = some (.int .i64 0) ∧ W.cell? ⟨h + 1, 2, none⟩ = some (.int .i64 0) ∧ W.frozen? ⟨h + 1, 0, none⟩ = false ∧ W.frozen? ⟨h + 1, 1, none⟩ = false ∧ W.frozen? ⟨h + 1, 2, none⟩ = false) := by
    intro W hw
    have k := hb2.only hw (by simp)
    exact ⟨k.cell 0, k.cell 1, k.cell 2, k.frozen 0, k.frozen 1, k.frozen 2⟩
  have KQ := Lib.hid kQ
  /- how it is left -/
  have hout : ∀ (W : World) (x y z : Nat), Only [] W1 W → T = (x, y, z) → Only [] w (((W.setCell ⟨h + 1, 0, none⟩ (.int .i64 (x : Int))).setCell ⟨h + 1, 1, none⟩ (.int .i64 (y : Int))).setCell ⟨h + 1, 2, none⟩ (.int .i64 (z : Int))) ∧
      Blk (((W.setCell ⟨h + 1, 0, none⟩ (.int .i64 (x : Int))).setCell ⟨h + 1, 1, none⟩ (.int .i64 (y : Int))).setCell ⟨h + 1, 2, none⟩ (.int .i64 (z : Int))) (h + 1) 89 [.int .i64 (T.1 : Int), .int .i64 (T.2.1 : Int), .int .i64 (T.2.2 : Int)] := by
    intro W x y z hw hTx
    have hg : w.heap.size ≤ h + 1 := by omega
    refine ⟨(((hO.trans hw).setCell (p := ⟨h + 1, 0, none⟩) (.inr hg) _).setCell (p := ⟨h + 1, 1, none⟩) (.inr hg) _).setCell (p := ⟨h + 1, 2, none⟩) (.inr hg) _, ?_⟩
    rw [hTx]
    exact (((hb2.only hw (by simp)).set 0 _).set 1 _).set 2 _
  have Hout := Lib.hid hout
  clear hT hh hW1 hn hnm hb hb2 hR hws hms hout r0 r1 hP0 hP kS kQ
  go_enter Try.func58, Try.ntmps58
  go_upto_region 1 with (fail)
  rw [← Hh.out, ← HW.out]
  go_wp2_with (fail)
  go_loopw [3] (fun vi wr => ∃ i : Nat, vi = .int .i64 (i : Int) ∧ i ≤ nm ∧ Only [] W1 wr ∧ Hid (pairsAt ws (ms.take i) i (ms.drop i) = P)) (fun vi _ => nm - (intOf vi).toNat)
  case atStart => exact ⟨0, rfl, by omega, .refl _ _, HP0⟩
  case round =>
    obtain ⟨i, rfl, hi, hOw, hPi⟩ := hrel
    obtain ⟨k0, k1, k2, k3, k4⟩ := KS.out wr hOw
    by_cases hlt : i < nm
    · obtain ⟨m, hmi⟩ : ∃ m, ms[i]? = some m := ⟨_, List.getElem?_eq_getElem (by rw [← Hnm.out]; exact hlt)⟩
      obtain ⟨g1, o1, he1, _, q0, q1, q2⟩ := (R1.out.only hOw (by simp)).mg hmi
      subst he1
      obtain ⟨hok1, hok2, hok3⟩ := Hms.out m (List.mem_of_getElem? hmi)
      have hdr := drop_cons' hmi
      have htk := take_snoc' hmi
      have hw := hPi.out
      rw [hdr, pairsAt] at hw
      obtain ⟨done, hdone⟩ : ∃ done, done = ms.take i := ⟨_, rfl⟩
      rw [← hdone] at hw htk
      obtain ⟨ml, mr, mid⟩ := m
      simp only at q0 q1 q2 hok1 hok2 hok3 hw
      obtain ⟨hx, hhx⟩ : ∃ hx, hx = wr.heap.size := ⟨_, rfl⟩
      obtain ⟨W2, hW2⟩ : ∃ W2, W2 = wr.alloc (.cells #[.int .i64 ml, .int .i64 mr, .int .i64 mid] 38) := ⟨_, rfl⟩
      have bx : Blk W2 hx 38 [.int .i64 ml, .int .i64 mr, .int .i64 mid] := by rw [hW2]; exact Blk.new' _ _ _ hhx.symm rfl
      have hO2 : Only [] W1 W2 := by rw [hW2]; exact hOw.alloc _
      have Hw := Lib.hid hw
      have Hmi := Lib.hid hmi
      have Htk := Lib.hid htk
      have Hdone := Lib.hid hdone
      have HW2 := Lib.hid hW2
      have Hhx := Lib.hid hhx
      have kX : ∀ W, Only [] W2 W → (W.cell? ⟨hx, 0, none⟩ = some (.int .i64 ml) ∧ W.cell? ⟨hx, 1, none⟩ = some (.int .i64 mr) ∧ W.cell? ⟨hx, 2, none⟩ = some (.int .i64 mid)) := fun W hw => by
        have k := bx.only hw (by simp)
        exact ⟨k.cell 0, k.cell 1, k.cell 2⟩
      have KX := Lib.hid kX
      clear hw hmi htk hdone hdr hPi hW2 hhx kX
      go_upto_region 5 with (fail)
      rw [← Hhx.out, ← HW2.out]
      clear k0 k1 k2 k3 k4 q0 q1 q2 bx
      obtain ⟨k0, k1, k2, k3, k4⟩ := KS.out W2 hO2
      obtain ⟨x0, x1, x2⟩ := KX.out W2 (.refl _ _)
      obtain ⟨q0, q1, q2, z0, z1, z2⟩ := KQ.out W2 hO2
      unfold i64ok at hok1 hok2 hok3
      by_cases h1 : mid < 256
      · have hb : badId ws done mid = true := by unfold badId; rw [decide_eq_true (.inl h1)]; rfl
        have hT2 : T = (24, 5, i) := by rw [HT.out, ← Hw.out, if_pos hb, if_pos (by simp)]
        obtain ⟨hOn, hbn⟩ := Hout.out W2 24 5 i hO2 hT2
        have Hbn := Lib.hid hbn
        clear hb hT2 hbn
        go_wp2_with (fail)
        (try simp only [Exit.inBlock, Exit.then])
        refine bodyPost_ret (v := faultV T) ?_ rfl ⟨rfl, hOn⟩
        rw [results_cellD rfl]
        exact loadF5 Hbn.out
      · obtain ⟨j, hj⟩ : ∃ j : Nat, mid - 256 = (j : Int) := ⟨(mid - 256).toNat, by omega⟩
        have Hj := Lib.hid hj
        by_cases hjn : ¬ j < n
        · have hjn' : n ≤ j := by omega
          have hb : badId ws done mid = true := by unfold badId; rw [decide_eq_true (.inr (by rw [← Hn.out]; omega))]; rfl
          have hT2 : T = (24, 5, i) := by rw [HT.out, ← Hw.out, if_pos hb, if_pos (by simp)]
          obtain ⟨hOn, hbn⟩ := Hout.out W2 24 5 i hO2 hT2
          have Hbn := Lib.hid hbn
          clear hb hT2 hbn
          go_wp2_with (fail)
          (try simp only [Exit.inBlock, Exit.then])
          refine bodyPost_ret (v := faultV T) ?_ rfl ⟨rfl, hOn⟩
          rw [results_cellD rfl]
          exact loadF5 Hbn.out
        · have hjn' : ¬ n ≤ j := by omega
          have hjl : j < n := by omega
          have hbI : badId ws done mid = (idsOf done).contains mid := by unfold badId; rw [decide_eq_false (by rw [← Hn.out]; omega), Bool.false_or]
          have hpI : partB (idsOf done) mid = (idsOf done).contains mid := by unfold partB; rw [decide_eq_false (by omega), decide_eq_true (by omega), Bool.false_or, Bool.true_and]
          have hmade : ∀ (W : World) (id : Int), Only [] W1 W → i64ok id → Calls Try.prog 69 #[.agg #[.slice A n c, .slice (some ⟨g1, o1, none⟩) nm c1, .slice A2 a.length c2, .slice A3 b.length c3, .slice A4 d.length c4], .int .i64 (i : Int), .int .i64 id] W fun e w' => e = .returned (.bool (partB (idsOf done) id)) ∧ Only [] W w' := by
            intro W id hw hid
            rw [Hn.out, Hnm.out, Hdone.out]
            exact made5_any W _ _ _ _ _ ws ms a b d (HR5.out.only hw) (by rw [← Hnm.out]; exact s1) i (by rw [← Hnm.out]; exact hi) id hid
          have hword : ∀ (W : World) (id : Int), Only [] W1 W → i64ok id → Calls Try.prog 31 #[.agg #[.slice A n c, .slice (some ⟨g1, o1, none⟩) nm c1, .slice A2 a.length c2, .slice A3 b.length c3, .slice A4 d.length c4], .int .i64 id] W fun e w' => e = .returned (.tuple #[.string (wordB ws id), .bool (isWord ws id)]) ∧ Only [] W w' := by
            intro W id hw hid
            rw [Hn.out, Hnm.out]
            exact word5_any W _ _ _ _ _ ws ms a b d (HR5.out.only hw) (by rw [← Hn.out]; exact s0) id hid
          have Hmade := Lib.hid hmade
          have Hword := Lib.hid hword
          obtain ⟨C, hC⟩ : ∃ C, C = (idsOf done).contains mid := ⟨_, rfl⟩
          rw [← hC] at hbI hpI
          have HbI := Lib.hid hbI
          have HpI := Lib.hid hpI
          clear hbI hpI hC hmade hword
          go_wp2_with (fail)
          refine (Hmade.out W2 mid hO2 hok3).mono ?_
          rintro e W3 ⟨rfl, hO3⟩
          rw [HpI.out]
          clear k0 k1 k2 k3 k4 x0 x1 x2 q0 q1 q2 z0 z1 z2
          have hO13 := hO2.trans hO3
          obtain ⟨k0, k1, k2, k3, k4⟩ := KS.out W3 hO13
          obtain ⟨x0, x1, x2⟩ := KX.out W3 hO3
          obtain ⟨q0, q1, q2, z0, z1, z2⟩ := KQ.out W3 hO13
          cases C with
          | true =>
            have hT2 : T = (24, 5, i) := by rw [HT.out, ← Hw.out, if_pos HbI.out, if_pos (by simp)]
            obtain ⟨hOn, hbn⟩ := Hout.out W3 24 5 i hO13 hT2
            have Hbn := Lib.hid hbn
            clear hT2 hbn
            go_wp2_with (fail)
            (try simp only [Exit.inBlock, Exit.then])
            refine bodyPost_ret (v := faultV T) ?_ rfl ⟨rfl, hOn⟩
            rw [results_cellD rfl]
            exact loadF5 Hbn.out
          | false =>
            have hw1 := Hw.out
            rw [if_neg (by rw [HbI.out]; simp)] at hw1
            obtain ⟨pl, hpl⟩ : ∃ p, p = partB (idsOf done) ml := ⟨_, rfl⟩
            obtain ⟨pr, hpr⟩ : ∃ p, p = partB (idsOf done) mr := ⟨_, rfl⟩
            rw [← hpl, ← hpr] at hw1
            have Hw1 := Lib.hid hw1
            have Hpl := Lib.hid hpl
            have Hpr := Lib.hid hpr
            clear hw1 hpl hpr
            go_wp2_with (fail)
            refine (Hmade.out W3 ml hO13 hok1).mono ?_
            rintro e W4 ⟨rfl, hO4⟩
            rw [← Hpl.out]
            clear k0 k1 k2 k3 k4 x0 x1 x2 q0 q1 q2 z0 z1 z2
            have hO14 := hO13.trans hO4
            have hO24 := hO3.trans hO4
            obtain ⟨k0, k1, k2, k3, k4⟩ := KS.out W4 hO14
            obtain ⟨x0, x1, x2⟩ := KX.out W4 hO24
            obtain ⟨q0, q1, q2, z0, z1, z2⟩ := KQ.out W4 hO14
            cases pl with
            | false =>
              have hT2 : T = (23, 5, i) := by rw [HT.out, ← Hw1.out, if_pos (by simp), if_pos (by simp)]
              obtain ⟨hOn, hbn⟩ := Hout.out W4 23 5 i hO14 hT2
              have Hbn := Lib.hid hbn
              clear hT2 hbn
              go_wp2_with (fail)
              (try simp only [Exit.inBlock, Exit.then])
              refine bodyPost_ret (v := faultV T) ?_ rfl ⟨rfl, hOn⟩
              rw [results_cellD rfl]
              exact loadF5 Hbn.out
            | true =>
              go_wp2_with (fail)
              refine (Hmade.out W4 mr hO14 hok2).mono ?_
              rintro e W5 ⟨rfl, hO5⟩
              rw [← Hpr.out]
              clear k0 k1 k2 k3 k4 x0 x1 x2 q0 q1 q2 z0 z1 z2
              have hO15 := hO14.trans hO5
              have hO25 := hO24.trans hO5
              obtain ⟨k0, k1, k2, k3, k4⟩ := KS.out W5 hO15
              obtain ⟨x0, x1, x2⟩ := KX.out W5 hO25
              obtain ⟨q0, q1, q2, z0, z1, z2⟩ := KQ.out W5 hO15
              cases pr with
              | false =>
                have hT2 : T = (23, 5, i) := by rw [HT.out, ← Hw1.out, if_pos (by simp), if_pos (by simp)]
                obtain ⟨hOn, hbn⟩ := Hout.out W5 23 5 i hO15 hT2
                have Hbn := Lib.hid hbn
                clear hT2 hbn
                go_wp2_with (fail)
                (try simp only [Exit.inBlock, Exit.then])
                refine bodyPost_ret (v := faultV T) ?_ rfl ⟨rfl, hOn⟩
                rw [results_cellD rfl]
                exact loadF5 Hbn.out
              | true =>
                have hw1 := Hw1.out
                rw [if_neg (by simp)] at hw1
                have Hw3 := Lib.hid hw1
                clear hw1 q0 q1 q2 z0 z1 z2
                go_wp2_with (fail)
                refine (Hword.out W5 ml hO15 hok1).mono ?_
                rintro e W6 ⟨rfl, hO6⟩
                obtain ⟨sl, hsl⟩ : ∃ s, s = wordB ws ml := ⟨_, rfl⟩
                obtain ⟨sr, hsr⟩ : ∃ s, s = wordB ws mr := ⟨_, rfl⟩
                rw [← hsl]
                have Hsl := Lib.hid hsl
                have Hsr := Lib.hid hsr
                clear hsl hsr k0 k1 k2 k3 k4 x0 x1 x2
                have hO16 := hO15.trans hO6
                have hO26 := hO25.trans hO6
                obtain ⟨k0, k1, k2, k3, k4⟩ := KS.out W6 hO16
                obtain ⟨x0, x1, x2⟩ := KX.out W6 hO26
                go_wp2_with (fail)
                refine (Hword.out W6 mr hO16 hok2).mono ?_
                rintro e W7 ⟨rfl, hO7⟩
                rw [← Hsr.out]
                clear k0 k1 k2 k3 k4 x0 x1 x2
                have hO17 := hO16.trans hO7
                have hO27 := hO26.trans hO7
                obtain ⟨k0, k1, k2, k3, k4⟩ := KS.out W7 hO17
                obtain ⟨x0, x1, x2⟩ := KX.out W7 hO27
                obtain ⟨q0, q1, q2, z0, z1, z2⟩ := KQ.out W7 hO17
                obtain ⟨s, hsj⟩ : ∃ s, ws[j]? = some s := ⟨_, List.getElem?_eq_getElem (by rw [← Hn.out]; exact hjl)⟩
                obtain ⟨g0, o0, he0, _, q⟩ := (R0.out.only hO17 (by simp)).wd hsj
                subst he0
                have hwm : wordB ws mid = s := by
                  unfold wordB
                  rw [if_neg (by omega), if_pos ⟨by omega, by rw [← Hn.out]; omega⟩, hj, Int.toNat_natCast, List.getD_eq_getElem?_getD, hsj]; rfl
                have y1 : sl.size ≤ 256 := by rw [Hsl.out]; exact wordB_size Hws.out ml
                have y2 : sr.size ≤ 256 := by rw [Hsr.out]; exact wordB_size Hws.out mr
                have had : ¬ (9223372036854775807 < sl.size + sr.size) := by omega
                obtain ⟨su, hsu⟩ : ∃ su, su = sl ++ sr := ⟨_, rfl⟩
                have hap : sl ++ sr = su := hsu.symm
                have hw3 := Hw3.out
                rw [hwm, ← Hsl.out, ← Hsr.out, ← hsu] at hw3
                have Hw4 := Lib.hid hw3
                clear hw3 hsj hwm hsu Hw3
                by_cases hse : s.data.toList = su.data.toList
                · have hne : (s.toList == su.toList) = true := by rw [Lib.toList_data, Lib.toList_data, hse]; simp
                  have hw5 := Hw4.out
                  rw [if_neg (by simpa using hse)] at hw5
                  have Hw5 := Lib.hid hw5
                  have hno0 : lookM 0 (ms.take 0) (ml, mr) = none := rfl
                  have Hno0 := Lib.hid hno0
                  clear hse hw5 hno0
                  go_wp2_with (fail)
                  go_loopw [9] (fun vj wx => ∃ t : Nat, vj = .int .i64 (t : Int) ∧ t ≤ i ∧ Only [] W2 wx ∧ Hid (lookM 0 (ms.take t) (ml, mr) = none)) (fun vj _ => i - (intOf vj).toNat)
                  case atStart => exact ⟨0, rfl, by omega, hO27, Hno0⟩
                  case round =>
                    obtain ⟨t, rfl, ht, hO2x, hno⟩ := hrel
                    clear k0 k1 k2 k3 k4 x0 x1 x2 q0 q1 q2 z0 z1 z2 q
                    have hO1x := hO2.trans hO2x
                    obtain ⟨k0, k1, k2, k3, k4⟩ := KS.out wr hO1x
                    obtain ⟨x0, x1, x2⟩ := KX.out wr hO2x
                    obtain ⟨q0, q1, q2, z0, z1, z2⟩ := KQ.out wr hO1x
                    by_cases hti : t < i
                    · obtain ⟨p, hpt⟩ : ∃ p, ms[t]? = some p := ⟨_, List.getElem?_eq_getElem (by rw [← Hnm.out]; omega)⟩
                      obtain ⟨_, _, he, _, p0, p1, p2⟩ := (R1.out.only hO1x (by simp)).mg hpt
                      cases he
                      have htn : t < nm := by omega
                      have hsn : lookM 0 (ms.take (t + 1)) (ml, mr) = if (p.l, p.r) = (ml, mr) then some (0 + (ms.take t).length, p.id) else none := by rw [take_snoc' hpt, lookM_snoc, hno.out]
                      have hmem : (p.l, p.r) = (ml, mr) → (lookM 0 done (ml, mr)).isSome = true := fun h => lookM_mem h _ _ (by rw [Hdone.out]; exact List.mem_of_getElem? (i := t) (by rw [List.getElem?_take, if_pos hti]; exact hpt))
                      have Hsn := Lib.hid hsn
                      have Hmem := Lib.hid hmem
                      clear hsn hmem hpt
                      obtain ⟨pl, pr, pid⟩ := p
                      simp only at p0 p1 p2
                      by_cases e1 : pl = ml
                      · by_cases e2 : pr = mr
                        · have hT2 : T = (22, 5, i) := by rw [HT.out, ← Hw5.out, if_pos (Hmem.out (by simp [e1, e2])), if_pos (by simp)]
                          have hbn := fun k => Hout.out (wr.drewN k) 22 5 i (hO1x.drewN k) hT2
                          have Hbn := Lib.hid hbn
                          subst e1 e2
                          clear hT2 hbn
                          go_wp2_with (fail)
                          go_quiet (fail)
                          go_wp2_with (fail)
                          (try simp only [Exit.inBlock, Exit.then])
                          refine bodyPost_ret (v := faultV T) ?_ rfl ⟨rfl, (Hbn.out _).1⟩
                          rw [results_cellD rfl]
                          exact loadF5 (Hbn.out _).2
                        · have hno2 : lookM 0 (ms.take (t + 1)) (ml, mr) = none := by rw [Hsn.out, if_neg (by simp [e2])]
                          have Hno2 := Lib.hid hno2
                          have e1' : decide (pl = ml) = true := decide_eq_true e1
                          have e2' : decide (pr = mr) = false := decide_eq_false e2
                          clear hno2
                          go_wp2_with (fail)
                          go_quiet (fail)
                          go_wp2_with (fail)
                          refine ⟨⟨t + 1, by go_num, by omega, hO2x.drewN _, Hno2⟩, by simp [intOf]; omega⟩
                      · have hno2 : lookM 0 (ms.take (t + 1)) (ml, mr) = none := by rw [Hsn.out, if_neg (by simp [e1])]
                        have Hno2 := Lib.hid hno2
                        have e1' : decide (pl = ml) = false := decide_eq_false e1
                        clear hno2
                        go_wp2_with (fail)
                        go_quiet (fail)
                        go_wp2_with (fail)
                        refine ⟨⟨t + 1, by go_num, by omega, hO2x.drewN _, Hno2⟩, by simp [intOf]; omega⟩
                    · obtain rfl : t = i := by omega
                      have hw6 := Hw5.out
                      rw [← Hdone.out] at hno
                      rw [if_neg (by rw [hno.out]; simp), ← Htk.out] at hw6
                      have Hw6 := Lib.hid hw6
                      clear hw6
                      go_wp2_with (fail)
                      refine ⟨⟨t + 1, by go_num, by omega, hO1x, Hw6⟩, by simp [intOf]; omega⟩
                · have hne : (s.toList == su.toList) = false := by rw [Lib.toList_data, Lib.toList_data]; exact beq_eq_false_iff_ne.2 hse
                  have hw5 := Hw4.out
                  rw [if_pos hse] at hw5
                  have hT2 : T = (25, 5, i) := by rw [HT.out, ← hw5, if_pos (by simp)]
                  obtain ⟨hOn, hbn⟩ := Hout.out W7 25 5 i hO17 hT2
                  have Hbn := Lib.hid hbn
                  clear hT2 hbn hse hw5
                  go_wp2_with (fail)
                  (try simp only [Exit.inBlock, Exit.then])
                  refine bodyPost_ret (v := faultV T) ?_ rfl ⟨rfl, hOn⟩
                  rw [results_cellD rfl]
                  exact loadF5 Hbn.out
    · obtain rfl : i = nm := by omega
      obtain ⟨q0, q1, q2, z0, z1, z2⟩ := KQ.out wr hOw
      have hdr : ms.drop i = [] := List.drop_of_length_le (by rw [← Hnm.out]; exact Nat.le_refl _)
      have hw := hPi.out
      rw [hdr, pairsAt] at hw
      have hT2 : T = (0, 0, 0) := by rw [HT.out, ← hw]; rfl
      obtain ⟨hOn, hbn⟩ := Hout.out wr 0 0 0 hOw hT2
      have HT2 := Lib.hid hT2
      have Hbn := Lib.hid hbn
      clear hT2 hw hdr hbn
      go_wp2_with (fail)
      (try simp only [Exit.inBlock, Exit.then])
      refine bodyPost_ret (v := faultV T) ?_ rfl ⟨rfl, hOn⟩
      rw [results_cellD rfl]
      exact loadF5 Hbn.out
end Go.Proofs.Ytfnhdkabfkjodaa
