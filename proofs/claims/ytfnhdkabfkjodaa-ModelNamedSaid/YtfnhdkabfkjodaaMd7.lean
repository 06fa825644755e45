/- model.New. -/
import Derived.Test.YtfnhdkabfkjodaaMd6
import Derived.Test.YtfnhdkabfkjodaaNew
import Derived.Deep.RegionHeld3
set_option linter.unusedVariables false
set_option linter.unusedSimpArgs false
namespace Go.Proofs.Ytfnhdkabfkjodaa
open Go.RowKit

/-- what a model is refused for -/
def faultW (ws : List ByteArray) (ms : List Mg) (a b d : List Sp) : Wr :=
  if 4096 < ms.length then (4, 5, 4096) else if ws.length ≠ ms.length then (4, 4, min ws.length ms.length) else if (checkW a b d).1 ≠ 0 then checkW a b d
  else if (wordsAt [] 0 ws).2 ≠ 0 then ((wordsAt [] 0 ws).2, 4, (wordsAt [] 0 ws).1) else if (pairsAt ws [] 0 ms).2 ≠ 0 then ((pairsAt ws [] 0 ms).2, 5, (pairsAt ws [] 0 ms).1) else (0, 0, 0)
theorem loadF {w : World} {h0 : Nat} {v0 v1 v2 u : Value} (hb : Blk w h0 41 [v0, v1, v2]) :
    (((asAddr (.pointer (some ⟨h0, 0, none⟩))).run Try.prog w).andThen fun a w₁ => ((loadVar 41 a).run Try.prog w₁).andThen fun v w₂ => Result.ok (Value.tuple #[u, v]) w₂) = Result.ok (Value.tuple #[u, Value.agg #[v0, v1, v2]]) w := by
  have c0 : w.cell? ⟨h0, 0, none⟩ = some v0 := hb.cell 0
  have c1 : w.cell? ⟨h0, 1, none⟩ = some v1 := hb.cell 1
  have c2 : w.cell? ⟨h0, 2, none⟩ = some v2 := hb.cell 2
  go_simp
theorem Own5.only0 {w w' : World} {base : Nat} {v0 v1 v2 v3 v4 : Value} {ws : List ByteArray} {ms : List Mg} {a b d : List Sp} (h : Own5 w base v0 v1 v2 v3 v4 ws ms a b d) (hO : Only [] w w') : Own5 w' base v0 v1 v2 v3 v4 ws ms a b d := h.only hO (by simp)
def NewPost (w : World) (ws : List ByteArray) (ms : List Mg) (a b d : List Sp) (e : Ending) (w' : World) : Prop :=
  ∃ v, e = .returned (.tuple #[v, .agg #[.int .i64 ((faultW ws ms a b d).1 : Int), .int .i64 ((faultW ws ms a b d).2.1 : Int), .int .i64 ((faultW ws ms a b d).2.2 : Int)]]) ∧ Only [] w w' ∧
    (((faultW ws ms a b d).1 = 0 ∧ ∃ g base, w.heap.size ≤ base ∧ v = .pointer (some ⟨g, 0, none⟩) ∧ MdAt w' base g ws ms a b d ms.length (lookM 0 ms) (lgF ws)) ∨ ((faultW ws ms a b d).1 ≠ 0 ∧ v = .pointer none))

set_option maxRecDepth 100000 in
set_option maxHeartbeats 8000000 in
theorem newM_any (w : World) (v0 v1 v2 v3 v4 : Value) (ws : List ByteArray) (ms : List Mg) (a b d : List Sp) (hR : Rd5 w v0 v1 v2 v3 v4 ws ms a b d) (s0 : ws.length ≤ 17592186043904) (s1 : ms.length ≤ 17592186043904) (s2 : a.length ≤ 17592186043904) (s3 : b.length ≤ 17592186043904) (s4 : d.length ≤ 17592186043904)
    (hws : ∀ s ∈ ws, s.size ≤ maxLen) (hms : ∀ m ∈ ms, m.ok) :
    Calls Try.prog 14 #[.agg #[v0, v1, v2, v3, v4]] w (NewPost w ws ms a b d) := by
  obtain ⟨T, hT⟩ : ∃ T, T = faultW ws ms a b d := ⟨_, rfl⟩
  unfold NewPost
  rw [← hT]
  unfold faultW at hT
  obtain ⟨h, hh⟩ : ∃ h, h = w.heap.size := ⟨_, rfl⟩
  obtain ⟨W1, hW1⟩ : ∃ W1, W1 = (w.alloc (.cells #[v0, v1, v2, v3, v4] 26)).alloc (.cells #[.int .i64 0, .int .i64 0, .int .i64 0] 41) := ⟨_, rfl⟩
  have hb : Blk W1 h 26 [v0, v1, v2, v3, v4] := by rw [hW1]; exact (Blk.new' _ _ _ hh.symm rfl).alloc _
  have hb2 : Blk W1 (h + 1) 41 [.int .i64 0, .int .i64 0, .int .i64 0] := by rw [hW1]; exact Blk.new' _ _ _ (by simp; omega) rfl
  have hO : Only [] w W1 := by rw [hW1]; exact ((Only.refl _ _).alloc _).alloc _
  have hwh : w.heap.size ≤ h := by omega
  have hz : W1.heap.size = h + 2 := by rw [hW1]; simp; omega
  have hR1 := hR.only hO
  obtain ⟨⟨A0, c0, rfl, k0, r0⟩, ⟨A1, c1, rfl, k1, r1⟩, ⟨A2, c2, rfl, k2, r2⟩, ⟨A3, c3, rfl, k3, r3⟩, ⟨A4, c4, rfl, k4, r4⟩⟩ := hR1
  obtain ⟨n0, hn0⟩ : ∃ n, n = ws.length := ⟨_, rfl⟩
  obtain ⟨n1, hn1⟩ : ∃ n, n = ms.length := ⟨_, rfl⟩
  have e0 : W1.cell? ⟨h, 0, none⟩ = some (.slice A0 n0 c0) := by rw [hn0]; exact hb.cell 0
  have e1 : W1.cell? ⟨h, 1, none⟩ = some (.slice A1 n1 c1) := by rw [hn1]; exact hb.cell 1
  have q0 : W1.cell? ⟨h + 1, 0, none⟩ = some (.int .i64 0) := hb2.cell 0
  have q1 : W1.cell? ⟨h + 1, 1, none⟩ = some (.int .i64 0) := hb2.cell 1
  have q2 : W1.cell? ⟨h + 1, 2, none⟩ = some (.int .i64 0) := hb2.cell 2
  have z0 := hb2.frozen 0
  have z1 := hb2.frozen 1
  have z2 := hb2.frozen 2
  have HT := Lib.hid hT
  have Hh := Lib.hid hh
  have HW := Lib.hid hW1
  have N0 := Lib.hid hn0
  have N1 := Lib.hid hn1
  have Hb := Lib.hid hb
  have Hb2 := Lib.hid hb2
  have Hws := Lib.hid hws
  have Hms := Lib.hid hms
  rw [← hn0] at s0
  rw [← hn1] at s1
  have R0 := Lib.hid hR
  have e2 : W1.cell? ⟨h, 2, none⟩ = some (.slice A2 a.length c2) := hb.cell 2
  have e3 : W1.cell? ⟨h, 3, none⟩ = some (.slice A3 b.length c3) := hb.cell 3
  have e4 : W1.cell? ⟨h, 4, none⟩ = some (.slice A4 d.length c4) := hb.cell 4
  have R2 := Lib.hid r2
  have R3 := Lib.hid r3
  have R4 := Lib.hid r4
  /- how it is left, where it refuses -/
  have hout : ∀ (W : World) (x y z : Nat), Only [] W1 W → T = (x, y, z) → x ≠ 0 → Only [] w (((W.setCell ⟨h + 1, 0, none⟩ (.int .i64 (x : Int))).setCell ⟨h + 1, 1, none⟩ (.int .i64 (y : Int))).setCell ⟨h + 1, 2, none⟩ (.int .i64 (z : Int))) ∧
      Blk (((W.setCell ⟨h + 1, 0, none⟩ (.int .i64 (x : Int))).setCell ⟨h + 1, 1, none⟩ (.int .i64 (y : Int))).setCell ⟨h + 1, 2, none⟩ (.int .i64 (z : Int))) (h + 1) 41 [.int .i64 (T.1 : Int), .int .i64 (T.2.1 : Int), .int .i64 (T.2.2 : Int)] := by
    intro W x y z hw hTx _
    have hg : w.heap.size ≤ h + 1 := by omega
    refine ⟨(((hO.trans hw).setCell (p := ⟨h + 1, 0, none⟩) (.inr hg) _).setCell (p := ⟨h + 1, 1, none⟩) (.inr hg) _).setCell (p := ⟨h + 1, 2, none⟩) (.inr hg) _, ?_⟩
    rw [hTx]
    exact (((hb2.only hw (by simp)).set 0 _).set 1 _).set 2 _
  have Hout := Lib.hid hout
  clear hT hh hW1 hn0 hn1 hb hb2 hR hws hms hout r0 r1 r2 r3 r4
  go_enter Try.func14, Try.ntmps14
  go_upto_block 0 with (fail)
  rw [← Hh.out, ← HW.out]
  by_cases h1 : 4096 < n1
  · have hT2 : T = (4, 5, 4096) := by rw [HT.out, ← N1.out, if_pos h1]
    obtain ⟨hOn, hbn⟩ := Hout.out W1 4 5 4096 (.refl _ _) hT2 (by omega)
    have HT2 := Lib.hid hT2
    have Hbn := Lib.hid hbn
    have h1' : (4096 : Int) < (n1 : Int) := by omega
    clear hT2 hbn h1
    go_wp2_with (fail)
    (try simp only [Exit.inBlock, Exit.then])
    refine bodyPost_ret (v := .tuple #[.pointer none, .agg #[.int .i64 (T.1 : Int), .int .i64 (T.2.1 : Int), .int .i64 (T.2.2 : Int)]]) ?_ rfl ⟨.pointer none, rfl, hOn, .inr ⟨by rw [HT2.out]; decide, rfl⟩⟩
    rw [results_tmp_cell rfl]
    exact loadF Hbn.out
  · have h1' : ¬ (4096 : Int) < (n1 : Int) := by omega
    by_cases h2 : n0 = n1
    · have h2' : ((n0 : Int) != (n1 : Int)) = false := by simp; omega
      have hT1 : T = if (checkW a b d).1 ≠ 0 then checkW a b d else if (wordsAt [] 0 ws).2 ≠ 0 then ((wordsAt [] 0 ws).2, 4, (wordsAt [] 0 ws).1) else if (pairsAt ws [] 0 ms).2 ≠ 0 then ((pairsAt ws [] 0 ms).2, 5, (pairsAt ws [] 0 ms).1) else (0, 0, 0) := by
        rw [HT.out, ← N1.out, ← N0.out, if_neg h1, if_neg (by omega)]
      have HT1 := Lib.hid hT1
      have hsm : ws.length ≤ 4096 ∧ ms.length ≤ 4096 := by have := N0.out; have := N1.out; omega
      have Hsm := Lib.hid hsm
      have h12 := Lib.hid h2
      clear hT1 hsm h2 h1
      go_wp2_with (fail)
      refine (new_any W1 A2 A3 A4 a.length b.length d.length c2 c3 c4 a b d rfl rfl rfl s2 s3 s4 _ R2.out R3.out R4.out).mono ?_
      rintro e W2 ⟨v, rfl, hO2, hcase⟩
      obtain ⟨X, hX⟩ : ∃ X, X = checkW a b d := ⟨_, rfl⟩
      rw [← hX] at hcase ⊢
      have HX := Lib.hid hX
      clear hX
      obtain ⟨x, y, z⟩ := X
      simp only at hcase ⊢
      have hb2w := Hb2.out.only hO2 (by simp)
      have e0 : W2.cell? ⟨h, 0, none⟩ = some (.slice A0 n0 c0) := hO2.cellv e0 (by simp)
      have e1 : W2.cell? ⟨h, 1, none⟩ = some (.slice A1 n1 c1) := hO2.cellv e1 (by simp)
      have e2 := hO2.cellv e2 (by simp)
      have e3 := hO2.cellv e3 (by simp)
      have e4 := hO2.cellv e4 (by simp)
      have q0 : W2.cell? ⟨h + 1, 0, none⟩ = some (.int .i64 0) := hb2w.cell 0
      have q1 : W2.cell? ⟨h + 1, 1, none⟩ = some (.int .i64 0) := hb2w.cell 1
      have q2 : W2.cell? ⟨h + 1, 2, none⟩ = some (.int .i64 0) := hb2w.cell 2
      have z0 := hb2w.frozen 0
      have z1 := hb2w.frozen 1
      have z2 := hb2w.frozen 2
      have hz2 : h + 2 ≤ W2.heap.size := by have := hO2.size; omega
      rcases hcase with ⟨tb, rfl, hx0, hTab⟩ | ⟨rfl, hx0⟩
      · have hT3 : T = if (wordsAt [] 0 ws).2 ≠ 0 then ((wordsAt [] 0 ws).2, 4, (wordsAt [] 0 ws).1) else if (pairsAt ws [] 0 ms).2 ≠ 0 then ((pairsAt ws [] 0 ms).2, 5, (pairsAt ws [] 0 ms).1) else (0, 0, 0) := by
          rw [HT1.out, ← HX.out, if_neg (by simpa using hx0)]
        obtain ⟨hq, hhq⟩ : ∃ k, k = W2.heap.size := ⟨_, rfl⟩
        obtain ⟨W3, hW3⟩ : ∃ W3, W3 = W2.alloc (.cells #[.int .i64 (x : Int), .int .i64 (y : Int), .int .i64 (z : Int)] 94) := ⟨_, rfl⟩
        have hO3 : Only [] W1 W3 := by rw [hW3]; exact hO2.alloc _
        have hO23 : Only [] W2 W3 := by rw [hW3]; exact (Only.refl _ _).alloc _
        have b3 := Hb.out.only hO3 (by simp)
        have e0 : W3.cell? ⟨h, 0, none⟩ = some (.slice A0 ws.length c0) := b3.cell 0
        have e1 : W3.cell? ⟨h, 1, none⟩ = some (.slice A1 ms.length c1) := b3.cell 1
        have e2 : W3.cell? ⟨h, 2, none⟩ = some (.slice A2 a.length c2) := b3.cell 2
        have e3 : W3.cell? ⟨h, 3, none⟩ = some (.slice A3 b.length c3) := b3.cell 3
        have e4 : W3.cell? ⟨h, 4, none⟩ = some (.slice A4 d.length c4) := b3.cell 4
        have hcp := copied_any W3 _ _ _ _ _ ws ms a b d (R0.out.only (hO.trans hO3)) Hsm.out.1 Hsm.out.2 hTab.small.1 hTab.small.2.1 hTab.small.2.2
        have hz3 : W2.heap.size ≤ W3.heap.size := hO23.size
        have HT3 := Lib.hid hT3
        have Hcp := Lib.hid hcp
        have HTab := Lib.hid hTab
        have HW3 := Lib.hid hW3
        have Hhq := Lib.hid hhq
        have hmm := @run_makeMap Try.prog
        have hsm2 := hTab.small
        clear hx0 hT3 hcp hTab hW3 hhq b3 q0 q1 q2 z0 z1 z2 hb2w
        go_upto_region 8 with (fail)
        rw [← Hhq.out, ← HW3.out]
        go_wp2_with (fail)
        refine Hcp.out.mono ?_
        rintro e W4 ⟨u0, u1, u2, u3, u4, rfl, h5, hO4⟩
        obtain ⟨B0, y0, rfl, -⟩ := own_slice h5.o0
        obtain ⟨B1, y1, rfl, -⟩ := own_slice h5.o1
        obtain ⟨B2, y2, rfl, -⟩ := own_slice h5.o2
        obtain ⟨B3, y3, rfl, -⟩ := own_slice h5.o3
        obtain ⟨B4, y4, rfl, -⟩ := own_slice h5.o4
        obtain ⟨mq, hmq⟩ : ∃ mq, mq = W4.heap.size := ⟨_, rfl⟩
        obtain ⟨W5, hW5⟩ : ∃ W5, W5 = (W4.alloc (.map #[] 0)).alloc (.cells #[.slice B0 ws.length y0, .slice B1 ms.length y1, .slice B2 a.length y2, .slice B3 b.length y3, .slice B4 d.length y4, .pointer (some ⟨tb, 0, none⟩), .map (some mq), .int .i64 1] 100) := ⟨_, rfl⟩
        have hO5 : Only [] W4 W5 := by rw [hW5]; exact ((Only.refl _ _).alloc _).alloc _
        have hz4 := hO4.size
        have hMX : MdX W5 (h + 2) (mq + 1) (.slice B0 ws.length y0) (.slice B1 ms.length y1) (.slice B2 a.length y2) (.slice B3 b.length y3) (.slice B4 d.length y4) tb mq ws ms a b d 0 (fun _ => none) 1 := by
          refine ⟨?_, (h5.only0 hO5).down (by omega), ⟨W2, (by have := HTab.out; rw [hz] at this; exact this), by omega, by have := hO5.size; omega, fun k _ hk => (((hO23.trans hO4).trans hO5).block k hk (by simp))⟩, ?_, by omega, by omega, ⟨Hsm.out.1, Hsm.out.2, hsm2⟩⟩
          · rw [hW5]; exact Blk.new' _ _ _ (by simp; omega) rfl
          · rw [hW5]
            exact (MapIs.new pairTy W4 hmq.symm).only ((Only.refl [] _).alloc _) (by simp)
        have hO15 : Only [] W1 W5 := (hO3.trans hO4).trans hO5
        have HMX := Lib.hid hMX
        have Hmq := Lib.hid hmq
        have HW5 := Lib.hid hW5
        have hmqh : h + 2 ≤ mq := by omega
        clear hMX hmq hW5 h5 e0 e1 e2 e3 e4 Hcp
        go_upto_region 9 with (fail)
        rw [← Hmq.out, ← HW5.out]
        go_wp2_with (fail)
        refine (words_any W5 (h + 2) (mq + 1) ws ms a b d 0 (fun _ => none) _ _ _ _ _ tb mq HMX.out Hws.out).mono ?_
        rintro e W6 ⟨rfl, hO6, hM6⟩
        have hsml := words_small ws [] 0
        obtain ⟨wr, hwr⟩ : ∃ x, x = wordsAt [] 0 ws := ⟨_, rfl⟩
        have hT4 := HT3.out
        rw [← hwr] at hM6 hT4 hsml ⊢
        obtain ⟨wrow, wwhy⟩ := wr
        simp only at hM6 hT4 hsml ⊢
        have hO16 : Only [] W1 W6 := hO15.trans' hO6 (by simp; omega)
        have HT4 := Lib.hid hT4
        clear hwr hT4 HT3
        by_cases hw0 : wwhy = 0
        · subst hw0
          have hM6 := hM6 rfl
          have hs2 := hsml rfl
          have hT5 := HT4.out
          rw [if_neg (by simp)] at hT5
          have HT5 := Lib.hid hT5
          have HM6 := Lib.hid hM6
          have Hs2 := Lib.hid hs2
          have hln : ws.length = ms.length := by have := N0.out; have := N1.out; have := h12.out; omega
          have Hln := Lib.hid hln
          clear hM6 hs2 hsml hT5 HT4 hln
          go_wp2_with (fail)
          refine (pairs_any W6 (h + 2) (mq + 1) ws ms a b d (lgF ws) _ _ _ _ _ tb mq HM6.out (fun s hs => (Hs2.out s hs).2) Hms.out Hln.out).mono ?_
          rintro e W7 ⟨rfl, hO7, hM7⟩
          obtain ⟨pr, hpr⟩ : ∃ x, x = pairsAt ws [] 0 ms := ⟨_, rfl⟩
          have hT6 := HT5.out
          rw [← hpr] at hM7 hT6 ⊢
          obtain ⟨prow, pwhy⟩ := pr
          simp only at hM7 hT6 ⊢
          have hO17 : Only [] W1 W7 := hO16.trans' hO7 (by simp; omega)
          have hb2w := Hb2.out.only hO17 (by simp)
          have q0 : W7.cell? ⟨h + 1, 0, none⟩ = some (.int .i64 0) := hb2w.cell 0
          have q1 : W7.cell? ⟨h + 1, 1, none⟩ = some (.int .i64 0) := hb2w.cell 1
          have q2 : W7.cell? ⟨h + 1, 2, none⟩ = some (.int .i64 0) := hb2w.cell 2
          have z0 := hb2w.frozen 0
          have z1 := hb2w.frozen 1
          have z2 := hb2w.frozen 2
          have HT6 := Lib.hid hT6
          have HM7 := Lib.hid hM7
          have Hbw := Lib.hid hb2w
          clear hpr hT6 hM7 HT5 hb2w
          by_cases hp0 : pwhy = 0
          · subst hp0
            have hT7 : T = (0, 0, 0) := by rw [HT6.out, if_neg (by simp)]
            have HT7 := Lib.hid hT7
            clear hT7
            go_wp2_with (fail)
            (try simp only [Exit.inBlock, Exit.then])
            have hg : w.heap.size ≤ h + 1 := by omega
            have hOs : Only [h + 1] W7 (((W7.setCell ⟨h + 1, 0, none⟩ (.int .i64 0)).setCell ⟨h + 1, 1, none⟩ (.int .i64 0)).setCell ⟨h + 1, 2, none⟩ (.int .i64 0)) := (((Only.refl [h + 1] _).setCell (.inl (by simp)) _).setCell (.inl (by simp)) _).setCell (.inl (by simp)) _
            have hM8 := (HM7.out (by simp)).only hOs (fun x hx => .inl (by simp at hx; omega))
            have hbn : Blk (((W7.setCell ⟨h + 1, 0, none⟩ (.int .i64 0)).setCell ⟨h + 1, 1, none⟩ (.int .i64 0)).setCell ⟨h + 1, 2, none⟩ (.int .i64 0)) (h + 1) 41 [.int .i64 (T.1 : Int), .int .i64 (T.2.1 : Int), .int .i64 (T.2.2 : Int)] := by
              rw [HT7.out]; exact ((Hbw.out.set 0 _).set 1 _).set 2 _
            refine bodyPost_ret (v := .tuple #[.pointer (some ⟨mq + 1, 0, none⟩), .agg #[.int .i64 (T.1 : Int), .int .i64 (T.2.1 : Int), .int .i64 (T.2.2 : Int)]]) ?_ rfl ⟨_, rfl, (hO.trans hO17).trans' hOs (by simp; omega), .inl ⟨by rw [HT7.out], mq + 1, h + 2, by omega, rfl, hM8.at_⟩⟩
            rw [results_tmp_cell rfl]
            exact loadF hbn
          · have hT7 : T = (pwhy, 5, prow) := by rw [HT6.out, if_pos hp0]
            obtain ⟨hOn, hbn⟩ := Hout.out W7 pwhy 5 prow hO17 hT7 hp0
            have HT7 := Lib.hid hT7
            have Hbn := Lib.hid hbn
            have hp1 : ((pwhy : Int) != 0) = true := by simp; omega
            clear hT7 hbn
            go_wp2_with (fail)
            (try simp only [Exit.inBlock, Exit.then])
            refine bodyPost_ret (v := .tuple #[.pointer none, .agg #[.int .i64 (T.1 : Int), .int .i64 (T.2.1 : Int), .int .i64 (T.2.2 : Int)]]) ?_ rfl ⟨.pointer none, rfl, hOn, .inr ⟨by rw [HT7.out]; exact hp0, rfl⟩⟩
            rw [results_tmp_cell rfl]
            exact loadF Hbn.out
        · have hT7 : T = (wwhy, 4, wrow) := by rw [HT4.out, if_pos hw0]
          obtain ⟨hOn, hbn⟩ := Hout.out W6 wwhy 4 wrow hO16 hT7 hw0
          have hb2w := Hb2.out.only hO16 (by simp)
          have q0 : W6.cell? ⟨h + 1, 0, none⟩ = some (.int .i64 0) := hb2w.cell 0
          have q1 : W6.cell? ⟨h + 1, 1, none⟩ = some (.int .i64 0) := hb2w.cell 1
          have q2 : W6.cell? ⟨h + 1, 2, none⟩ = some (.int .i64 0) := hb2w.cell 2
          have z0 := hb2w.frozen 0
          have z1 := hb2w.frozen 1
          have z2 := hb2w.frozen 2
          have HT7 := Lib.hid hT7
          have Hbn := Lib.hid hbn
          have hp1 : ((wwhy : Int) != 0) = true := by simp; omega
          clear hT7 hbn hM6 hsml HT4 hb2w
          go_wp2_with (fail)
          (try simp only [Exit.inBlock, Exit.then])
          refine bodyPost_ret (v := .tuple #[.pointer none, .agg #[.int .i64 (T.1 : Int), .int .i64 (T.2.1 : Int), .int .i64 (T.2.2 : Int)]]) ?_ rfl ⟨.pointer none, rfl, hOn, .inr ⟨by rw [HT7.out]; exact hw0, rfl⟩⟩
          rw [results_tmp_cell rfl]
          exact loadF Hbn.out
      · have hT2 : T = (x, y, z) := by rw [HT1.out, ← HX.out, if_pos hx0]
        obtain ⟨hq, hhq⟩ : ∃ k, k = W2.heap.size := ⟨_, rfl⟩
        obtain ⟨W3, hW3⟩ : ∃ W3, W3 = W2.alloc (.cells #[.int .i64 (x : Int), .int .i64 (y : Int), .int .i64 (z : Int)] 94) := ⟨_, rfl⟩
        have hb3 : Blk W3 hq 94 [.int .i64 (x : Int), .int .i64 (y : Int), .int .i64 (z : Int)] := by rw [hW3]; exact Blk.new' _ _ _ hhq.symm rfl
        have hO3 : Only [] W1 W3 := by rw [hW3]; exact hO2.alloc _
        obtain ⟨hOn, hbn⟩ := Hout.out W3.drew x y z hO3.drew hT2 hx0
        have HT2 := Lib.hid hT2
        have Hbn := Lib.hid hbn
        have HW3 := Lib.hid hW3
        have Hhq := Lib.hid hhq
        have hqh : h + 2 ≤ hq := by omega
        have hb2w := Hb2.out.only hO3 (by simp)
        have q0 : W3.cell? ⟨h + 1, 0, none⟩ = some (.int .i64 0) := hb2w.cell 0
        have q1 : W3.cell? ⟨h + 1, 1, none⟩ = some (.int .i64 0) := hb2w.cell 1
        have q2 : W3.cell? ⟨h + 1, 2, none⟩ = some (.int .i64 0) := hb2w.cell 2
        have z0 := hb2w.frozen 0
        have z1 := hb2w.frozen 1
        have z2 := hb2w.frozen 2
        have kS : ∀ w', Only [h + 1] W3 w' → (w'.cell? ⟨hq, 0, none⟩ = some (.int .i64 (x : Int)) ∧ w'.cell? ⟨hq, 1, none⟩ = some (.int .i64 (y : Int)) ∧ w'.cell? ⟨hq, 2, none⟩ = some (.int .i64 (z : Int))) := fun w' hw => by
          have k := hb3.only hw (by simp; omega)
          exact ⟨k.cell 0, k.cell 1, k.cell 2⟩
        have KS := Lib.hid kS
        have Hx0 := Lib.hid hx0
        clear hT2 hbn hx0 kS hb3 hW3 hhq
        go_upto_region 7 with (fail)
        rw [← Hhq.out, ← HW3.out]
        go_region_held3 (fun w' => w'.cell? ⟨hq, 0, none⟩ = some (.int .i64 (x : Int)) ∧ w'.cell? ⟨hq, 1, none⟩ = some (.int .i64 (y : Int)) ∧ w'.cell? ⟨hq, 2, none⟩ = some (.int .i64 (z : Int)))
          (first | exact KS.out _ ((Only.refl _ _).drew) | exact KS.out _ (((((Only.refl [h + 1] W3).drew).setCell (.inl (by simp)) _).setCell (.inl (by simp)) _).setCell (.inl (by simp)) _))
          (fail)
        all_goals
          go_wp2_with (fail)
          (try simp only [Exit.inBlock, Exit.then])
          refine bodyPost_ret (v := .tuple #[.pointer none, .agg #[.int .i64 (T.1 : Int), .int .i64 (T.2.1 : Int), .int .i64 (T.2.2 : Int)]]) ?_ rfl ⟨.pointer none, rfl, hOn, .inr ⟨by rw [HT2.out]; exact Hx0.out, rfl⟩⟩
          rw [results_tmp_cell rfl]
          exact loadF Hbn.out
    · have h2' : ((n0 : Int) != (n1 : Int)) = true := by simp; omega
      have hmin := fun W => run_min_nat (P := Try.prog) #[3, 3] 3 n0 n1 (min n0 n1) rfl W
      have hT2 : T = (4, 4, min n0 n1) := by rw [HT.out, ← N1.out, ← N0.out, if_neg h1, if_pos h2]
      obtain ⟨hOn, hbn⟩ := Hout.out W1.drew 4 4 (min n0 n1) ((Only.refl _ _).drew) hT2 (by omega)
      obtain ⟨mn, hmn⟩ : ∃ mn, mn = min n0 n1 := ⟨_, rfl⟩
      rw [← hmn] at hmin hbn hT2 hOn
      have HT2 := Lib.hid hT2
      have Hbn := Lib.hid hbn
      have kS : ∀ w', Only [h + 1] W1 w' → (w'.cell? ⟨h, 0, none⟩ = some (.slice A0 n0 c0) ∧ w'.cell? ⟨h, 1, none⟩ = some (.slice A1 n1 c1)) := fun w' hw => by
        have k := Hb.out.only hw (by simp)
        rw [← N0.out, ← N1.out] at k
        exact ⟨k.cell 0, k.cell 1⟩
      have KS := Lib.hid kS
      clear hT2 hbn h1 h2 hmn kS
      go_wp2_with (fail)
      go_region_held3 (fun w' => w'.cell? ⟨h, 0, none⟩ = some (.slice A0 n0 c0) ∧ w'.cell? ⟨h, 1, none⟩ = some (.slice A1 n1 c1))
        (first | exact KS.out _ ((Only.refl _ _).drew) | exact KS.out _ (((((Only.refl [h + 1] W1).drew).setCell (.inl (by simp)) _).setCell (.inl (by simp)) _).setCell (.inl (by simp)) _))
        (fail)
      all_goals
        go_wp2_with (fail)
        (try simp only [Exit.inBlock, Exit.then])
        refine bodyPost_ret (v := .tuple #[.pointer none, .agg #[.int .i64 (T.1 : Int), .int .i64 (T.2.1 : Int), .int .i64 (T.2.2 : Int)]]) ?_ rfl ⟨.pointer none, rfl, hOn, .inr ⟨by rw [HT2.out]; simp, rfl⟩⟩
        rw [results_tmp_cell rfl]
        exact loadF Hbn.out
end Go.Proofs.Ytfnhdkabfkjodaa
