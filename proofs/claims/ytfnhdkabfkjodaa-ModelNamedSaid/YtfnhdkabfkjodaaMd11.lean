/- The document's answer for chapter 5: Check. -/
import Derived.Test.YtfnhdkabfkjodaaMd10
import Derived.Test.YtfnhdkabfkjodaaChk
set_option linter.unusedVariables false
set_option linter.unusedSimpArgs false
namespace Go.Proofs.Ytfnhdkabfkjodaa
open Go.RowKit

set_option maxRecDepth 100000 in
set_option maxHeartbeats 8000000 in
theorem check5_any (w : World) (v0 v1 v2 v3 v4 : Value) (ws : List ByteArray) (ms : List Mg) (a b d : List Sp) (hR : Rd5 w v0 v1 v2 v3 v4 ws ms a b d) (s0 : ws.length ≤ 17592186043904) (s1 : ms.length ≤ 17592186043904) (s2 : a.length ≤ 17592186043904) (s3 : b.length ≤ 17592186043904) (s4 : d.length ≤ 17592186043904)
    (hws : ∀ s ∈ ws, s.size ≤ maxLen) (hms : ∀ m ∈ ms, m.ok) :
    Calls Try.prog 41 #[.agg #[v0, v1, v2, v3, v4]] w fun e w' => e = .returned (faultV (faultW ws ms a b d)) ∧ Only [] w w' := by
  obtain ⟨T, hT⟩ : ∃ T, T = faultW ws ms a b d := ⟨_, rfl⟩
  rw [← hT]
  unfold faultW at hT
  obtain ⟨h, hh⟩ : ∃ h, h = w.heap.size := ⟨_, rfl⟩
  obtain ⟨W1, hW1⟩ : ∃ W1, W1 = (w.alloc (.cells #[v0, v1, v2, v3, v4] 26)).alloc (.cells #[.int .i64 0, .int .i64 0, .int .i64 0] 89) := ⟨_, rfl⟩
  have hb : Blk W1 h 26 [v0, v1, v2, v3, v4] := by rw [hW1]; exact (Blk.new' _ _ _ hh.symm rfl).alloc _
  have hb2 : Blk W1 (h + 1) 89 [.int .i64 0, .int .i64 0, .int .i64 0] := by rw [hW1]; exact Blk.new' _ _ _ (by simp; omega) rfl
  have hO : Only [] w W1 := by rw [hW1]; exact ((Only.refl _ _).alloc _).alloc _
  have hwh : w.heap.size ≤ h := by omega
  have hz1 : W1.heap.size = h + 2 := by rw [hW1]; simp; omega
  have hR1 := hR.only hO
  have HR5 := Lib.hid hR1
  obtain ⟨⟨A, c, rfl, -, -⟩, ⟨A1, c1, rfl, -, -⟩, ⟨A2, c2, rfl, -, r2⟩, ⟨A3, c3, rfl, -, r3⟩, ⟨A4, c4, rfl, -, r4⟩⟩ := hR1
  obtain ⟨n, hn⟩ : ∃ n, n = ws.length := ⟨_, rfl⟩
  obtain ⟨nm, hnm⟩ : ∃ n, n = ms.length := ⟨_, rfl⟩
  rw [← hn] at s0
  rw [← hnm] at s1
  have HT := Lib.hid hT
  have Hn := Lib.hid hn
  have Hnm := Lib.hid hnm
  have R2 := Lib.hid r2
  have R3 := Lib.hid r3
  have R4 := Lib.hid r4
  have Hh := Lib.hid hh
  have HW := Lib.hid hW1
  have Hb2 := Lib.hid hb2
  have Hws := Lib.hid hws
  have Hms := Lib.hid hms
  have kS : ∀ W, Only [] W1 W → (W.cell? ⟨h, 0, none⟩ = some (.slice A n c) ∧ W.cell? ⟨h, 1, none⟩ = some (.slice A1 nm c1) ∧ W.cell? ⟨h, 2, none⟩ = some (.slice A2 a.length c2) ∧ W.cell? ⟨h, 3, none⟩ = some (.slice A3 b.length c3) ∧ W.cell? ⟨h, 4, none⟩ = some (.slice A4 d.length c4)) := by
    intro W hw
    rw [hn, hnm]
    have k := hb.only hw (by simp)
    exact ⟨k.cell 0, k.cell 1, k.cell 2, k.cell 3, k.cell 4⟩
  have KS := Lib.hid kS
  have kQ : ∀ W, Only [] W1 W → (W.cell? ⟨h + 1, 0, none⟩ = some (.int .i64 0) ∧ W.cell? ⟨h + 1, 1, none⟩ = some (.int .i64 0) ∧ W.cell? ⟨h + 1, 2, none⟩ = some (.int .i64 0) ∧ W.frozen? ⟨h + 1, 0, none⟩ = false ∧ W.frozen? ⟨h + 1, 1, none⟩ = false ∧ W.frozen? ⟨h + 1, 2, none⟩ = false) := by
    intro W hw
    have k := hb2.only hw (by simp)
    exact ⟨k.cell 0, k.cell 1, k.cell 2, k.frozen 0, k.frozen 1, k.frozen 2⟩
  have KQ := Lib.hid kQ
  /- how it is left -/
  have hout : ∀ (W : World) (x y z : Nat), Only [] W1 W → T = (x, y, z) → Only [] w (((W.setCell ⟨h + 1, 0, none⟩ (.int .i64 (x : Int))).setCell ⟨h + 1, 1, none⟩ (.int .i64 (y : Int))).setCell ⟨h + 1, 2, none⟩ (.int .i64 (z : Int))) ∧
      Blk (((W.setCell ⟨h + 1, 0, none⟩ (.int .i64 (x : Int))).setCell ⟨h + 1, 1, none⟩ (.int .i64 (y : Int))).setCell ⟨h + 1, 2, none⟩ (.int .i64 (z : Int))) (h + 1) 89 [.int .i64 (T.1 : Int), .int .i64 (T.2.1 : Int), .int .i64 (T.2.2 : Int)] := by
    intro W x y z hw hTx
    have hg : w.heap.size ≤ h + 1 := by omega
    refine ⟨(((hO.trans hw).setCell (p := ⟨h + 1, 0, none⟩) (.inr hg) _).setCell (p := ⟨h + 1, 1, none⟩) (.inr hg) _).setCell (p := ⟨h + 1, 2, none⟩) (.inr hg) _, ?_⟩
    rw [hTx]
    exact (((hb2.only hw (by simp)).set 0 _).set 1 _).set 2 _
  have Hout := Lib.hid hout
  clear hT hh hW1 hn hnm hb hb2 hR hws hms hout r2 r3 r4 kS kQ
  obtain ⟨k0, k1, k2, k3, k4⟩ := KS.out W1 (.refl _ _)
  obtain ⟨q0, q1, q2, z0, z1, z2⟩ := KQ.out W1 (.refl _ _)
  go_enter Try.func41, Try.ntmps41
  go_upto_region 1 with (fail)
  rw [← Hh.out, ← HW.out]
  by_cases h1 : 4096 < nm
  · have hT2 : T = (4, 5, 4096) := by rw [HT.out, ← Hnm.out, if_pos h1]
    obtain ⟨hOn, hbn⟩ := Hout.out W1 4 5 4096 (.refl _ _) hT2
    have Hbn := Lib.hid hbn
    have h1' : (4096 : Int) < (nm : Int) := by omega
    clear hT2 hbn h1
    go_wp2_with (fail)
    (try simp only [Exit.inBlock, Exit.then])
    refine bodyPost_ret (v := faultV T) ?_ rfl ⟨rfl, hOn⟩
    rw [results_cellD rfl]
    exact loadF5 Hbn.out
  · have h1' : ¬ (4096 : Int) < (nm : Int) := by omega
    by_cases h2 : n = nm
    · have hT1 : T = if (checkW a b d).1 ≠ 0 then checkW a b d else if (wordsAt [] 0 ws).2 ≠ 0 then ((wordsAt [] 0 ws).2, 4, (wordsAt [] 0 ws).1) else if (pairsAt ws [] 0 ms).2 ≠ 0 then ((pairsAt ws [] 0 ms).2, 5, (pairsAt ws [] 0 ms).1) else (0, 0, 0) := by
        rw [HT.out, ← Hnm.out, ← Hn.out, if_neg h1, if_neg (by omega)]
      have h2' : ((n : Int) != (nm : Int)) = false := by simp; omega
      have HT1 := Lib.hid hT1
      have H2 := Lib.hid h2
      clear hT1 h1 h2
      go_wp2_with (fail)
      refine (refCheck_any W1 A2 A3 A4 a.length b.length d.length c2 c3 c4 a b d rfl rfl rfl s2 s3 s4 _ R2.out R3.out R4.out).mono ?_
      rintro e W2 ⟨rfl, hO2⟩
      obtain ⟨X, hX⟩ : ∃ X, X = checkW a b d := ⟨_, rfl⟩
      rw [← hX]
      have HX := Lib.hid hX
      clear hX
      obtain ⟨x, y, z⟩ := X
      simp only
      obtain ⟨g, hg⟩ : ∃ g, g = W2.heap.size := ⟨_, rfl⟩
      obtain ⟨W3, hW3⟩ : ∃ W3, W3 = W2.alloc (.cells #[.int .i64 (x : Int), .int .i64 (y : Int), .int .i64 (z : Int)] 114) := ⟨_, rfl⟩
      have bx : Blk W3 g 114 [.int .i64 (x : Int), .int .i64 (y : Int), .int .i64 (z : Int)] := by rw [hW3]; exact Blk.new' _ _ _ hg.symm rfl
      have hO13 : Only [] W1 W3 := by rw [hW3]; exact hO2.alloc _
      have x0 : W3.cell? ⟨g, 0, none⟩ = some (.int .i64 (x : Int)) := bx.cell 0
      have x1 : W3.cell? ⟨g, 1, none⟩ = some (.int .i64 (y : Int)) := bx.cell 1
      have x2 : W3.cell? ⟨g, 2, none⟩ = some (.int .i64 (z : Int)) := bx.cell 2
      have HW3 := Lib.hid hW3
      have Hg := Lib.hid hg
      clear k0 k1 k2 k3 k4 q0 q1 q2 z0 z1 z2 bx hW3 hg
      go_upto_region 9 with (fail)
      rw [← Hg.out, ← HW3.out]
      obtain ⟨k0, k1, k2, k3, k4⟩ := KS.out W3 hO13
      obtain ⟨q0, q1, q2, z0, z1, z2⟩ := KQ.out W3 hO13
      by_cases hx0 : x = 0
      · subst hx0
        have hT3 : T = if (wordsAt [] 0 ws).2 ≠ 0 then ((wordsAt [] 0 ws).2, 4, (wordsAt [] 0 ws).1) else if (pairsAt ws [] 0 ms).2 ≠ 0 then ((pairsAt ws [] 0 ms).2, 5, (pairsAt ws [] 0 ms).1) else (0, 0, 0) := by
          rw [HT1.out, ← HX.out, if_neg (by simp)]
        have HT3 := Lib.hid hT3
        have hwd := words5_any W3 _ _ _ _ _ ws ms a b d (HR5.out.only hO13) (by rw [← Hn.out]; exact s0) Hws.out
        rw [← Hn.out, ← Hnm.out] at hwd
        have Hwd := Lib.hid hwd
        clear hT3 hwd
        go_wp2_with (fail)
        refine Hwd.out.mono ?_
        rintro e W4 ⟨rfl, hO4⟩
        have hO14 := hO13.trans hO4
        obtain ⟨F, hF⟩ : ∃ F, F = wordsF ws := ⟨_, rfl⟩
        rw [← hF]
        have HF := Lib.hid hF
        unfold faultV
        obtain ⟨f1, f2, f3⟩ := F
        simp only
        obtain ⟨g5, hg5⟩ : ∃ g, g = W4.heap.size := ⟨_, rfl⟩
        obtain ⟨W5, hW5⟩ : ∃ W5, W5 = W4.alloc (.cells #[.int .i64 (f1 : Int), .int .i64 (f2 : Int), .int .i64 (f3 : Int)] 89) := ⟨_, rfl⟩
        have b5 : Blk W5 g5 89 [.int .i64 (f1 : Int), .int .i64 (f2 : Int), .int .i64 (f3 : Int)] := by rw [hW5]; exact Blk.new' _ _ _ hg5.symm rfl
        have hO15 : Only [] W1 W5 := by rw [hW5]; exact hO14.alloc _
        have y0 : W5.cell? ⟨g5, 0, none⟩ = some (.int .i64 (f1 : Int)) := b5.cell 0
        have y1 : W5.cell? ⟨g5, 1, none⟩ = some (.int .i64 (f2 : Int)) := b5.cell 1
        have y2 : W5.cell? ⟨g5, 2, none⟩ = some (.int .i64 (f3 : Int)) := b5.cell 2
        have HW5 := Lib.hid hW5
        have Hg5 := Lib.hid hg5
        clear k0 k1 k2 k3 k4 q0 q1 q2 z0 z1 z2 x0 x1 x2 hF b5 hW5 hg5
        go_upto_region 12 with (fail)
        rw [← Hg5.out, ← HW5.out]
        obtain ⟨k0, k1, k2, k3, k4⟩ := KS.out W5 hO15
        obtain ⟨q0, q1, q2, z0, z1, z2⟩ := KQ.out W5 hO15
        have hF1 := HF.out
        unfold wordsF at hF1
        by_cases hw0 : (wordsAt [] 0 ws).2 = 0
        · rw [if_neg (by simpa using hw0)] at hF1
          obtain ⟨rfl, rfl, rfl⟩ : f1 = 0 ∧ f2 = 0 ∧ f3 = 0 := by simpa using hF1
          have hT4 : T = mergesF ws ms := by rw [HT3.out, if_neg (by simpa using hw0)]; rfl
          have hmg := merges5_any W5 _ _ _ _ _ ws ms a b d (HR5.out.only hO15) (by rw [← Hn.out]; exact s0) (by rw [← Hnm.out]; exact s1) (fun s hs => (words_small ws [] 0 hw0 s hs).2) Hms.out
          rw [← Hn.out, ← Hnm.out, ← hT4] at hmg
          have Hmg := Lib.hid hmg
          clear hF1 hw0 hT4 hmg
          go_wp2_with (fail)
          refine Hmg.out.mono ?_
          rintro e W6 ⟨rfl, hO6⟩
          have hO16 := hO15.trans hO6
          obtain ⟨q0, q1, q2, z0, z1, z2⟩ := KQ.out W6 hO16
          obtain ⟨t1, t2, t3⟩ := T
          unfold faultV
          obtain ⟨hOn, hbn⟩ := Hout.out W6 t1 t2 t3 hO16 rfl
          have Hbn := Lib.hid hbn
          clear hbn k0 k1 k2 k3 k4 y0 y1 y2
          simp only
          go_wp2_with (fail)
          (try simp only [Exit.inBlock, Exit.then])
          refine bodyPost_ret (v := faultV (t1, t2, t3)) ?_ rfl ⟨rfl, hOn⟩
          rw [results_cellD rfl]
          exact loadF5 Hbn.out
        · rw [if_pos hw0] at hF1
          have hT4 : T = (f1, f2, f3) := by rw [HT3.out, if_pos hw0, hF1]
          have hf1 : ((f1 : Int) != 0) = true := by simp at hF1 ⊢; omega
          obtain ⟨hOn, hbn⟩ := Hout.out W5 f1 f2 f3 hO15 hT4
          have Hbn := Lib.hid hbn
          clear hF1 hw0 hT4 hbn
          go_wp2_with (fail)
          (try simp only [Exit.inBlock, Exit.then])
          refine bodyPost_ret (v := faultV T) ?_ rfl ⟨rfl, hOn⟩
          rw [results_cellD rfl]
          exact loadF5 Hbn.out
      · have hT2 : T = (x, y, z) := by rw [HT1.out, ← HX.out, if_pos hx0]
        have hx1 : ((x : Int) != 0) = true := by simp; omega
        obtain ⟨hOn, hbn⟩ := Hout.out W3 x y z hO13 hT2
        have Hbn := Lib.hid hbn
        clear hT2 hbn hx0
        go_wp2_with (fail)
        (try simp only [Exit.inBlock, Exit.then])
        refine bodyPost_ret (v := faultV T) ?_ rfl ⟨rfl, hOn⟩
        rw [results_cellD rfl]
        exact loadF5 Hbn.out
    · have h2' : ((n : Int) != (nm : Int)) = true := by simp; omega
      have hT2 : T = (4, 4, min n nm) := by rw [HT.out, ← Hnm.out, ← Hn.out, if_neg h1, if_pos h2]
      by_cases h3 : nm < n
      · rw [Nat.min_eq_right (by omega)] at hT2
        obtain ⟨hOn, hbn⟩ := Hout.out W1 4 4 nm (.refl _ _) hT2
        have Hbn := Lib.hid hbn
        clear hT2 hbn h1 h2
        go_wp2_with (fail)
        (try simp only [Exit.inBlock, Exit.then])
        refine bodyPost_ret (v := faultV T) ?_ rfl ⟨rfl, hOn⟩
        rw [results_cellD rfl]
        exact loadF5 Hbn.out
      · rw [Nat.min_eq_left (by omega)] at hT2
        obtain ⟨hOn, hbn⟩ := Hout.out W1 4 4 n (.refl _ _) hT2
        have Hbn := Lib.hid hbn
        clear hT2 hbn h1 h2
        go_wp2_with (fail)
        (try simp only [Exit.inBlock, Exit.then])
        refine bodyPost_ret (v := faultV T) ?_ rfl ⟨rfl, hOn⟩
        rw [results_cellD rfl]
        exact loadF5 Hbn.out
end Go.Proofs.Ytfnhdkabfkjodaa
