/- tesserakeep: Large, Of. -/
import Derived.Test.YtfnhdkabfkjodaaMd11
set_option linter.unusedVariables false
set_option linter.unusedSimpArgs false
namespace Go.Proofs.Ytfnhdkabfkjodaa
open Go.RowKit

theorem bool_and (a b : Bool) : (Value.bool (a && b)) = Value.bool (a && b) := rfl
section
variable (w : World) (v0 v1 v2 v3 v4 : Value) (ws : List ByteArray) (ms : List Mg) (a b d : List Sp) (hR : Rd5 w v0 v1 v2 v3 v4 ws ms a b d)
include hR
set_option maxRecDepth 100000 in
set_option maxHeartbeats 4000000 in
theorem large_any (s1 : ms.length ≤ 17592186043904) :
    Calls Try.prog 19 #[.agg #[v0, v1, v2, v3, v4]] w fun e w' => e = .returned (.bool (decide (300 < ms.length ∧ ms.length ≤ 4096))) ∧ Only [] w w' := by
  obtain ⟨h, hh⟩ : ∃ h, h = w.heap.size := ⟨_, rfl⟩
  obtain ⟨W1, hW1⟩ : ∃ W1, W1 = w.alloc (.cells #[v0, v1, v2, v3, v4] 26) := ⟨_, rfl⟩
  have hb : Blk W1 h 26 [v0, v1, v2, v3, v4] := by rw [hW1]; exact Blk.new' _ _ _ hh.symm rfl
  have hO : Only [] w W1 := by rw [hW1]; exact (Only.refl _ _).alloc _
  obtain ⟨-, ⟨A, c, rfl, -, -⟩, -⟩ := hR
  obtain ⟨n, hn⟩ : ∃ n, n = ms.length := ⟨_, rfl⟩
  have c1 : W1.cell? ⟨h, 1, none⟩ = some (.slice A n c) := by rw [hn]; exact hb.cell 1
  obtain ⟨T, hT⟩ : ∃ T, T = decide (300 < ms.length ∧ ms.length ≤ 4096) := ⟨_, rfl⟩
  rw [← hT]
  rw [← hn] at hT s1
  have HT := Lib.hid hT
  have Hn := Lib.hid hn
  have Hh := Lib.hid hh
  have HW := Lib.hid hW1
  clear hb hT hh hW1 hn
  go_enter Try.func19, Try.ntmps19
  go_upto_region 1 with (fail)
  rw [← Hh.out, ← HW.out]
  by_cases h1 : 300 < n
  · have h1' : (300 : Int) < (n : Int) := by omega
    by_cases h2 : n ≤ 4096
    · have h2' : (n : Int) ≤ (4096 : Int) := by omega
      have e1 : T = true := by rw [HT.out]; exact decide_eq_true ⟨h1, h2⟩
      subst e1
      clear h1 h2
      go_wp2_with (fail)
      go_ret
      exact ⟨rfl, hO⟩
    · have h2' : ¬ (n : Int) ≤ (4096 : Int) := by omega
      have e1 : T = false := by rw [HT.out]; exact decide_eq_false (by omega)
      subst e1
      clear h1 h2
      go_wp2_with (fail)
      go_ret
      exact ⟨rfl, hO⟩
  · have h1' : ¬ (300 : Int) < (n : Int) := by omega
    have e1 : T = false := by rw [HT.out]; exact decide_eq_false (by omega)
    subst e1
    clear h1
    go_wp2_with (fail)
    go_ret
    exact ⟨rfl, hO⟩

def OfPost (w : World) (ws : List ByteArray) (ms : List Mg) (a b d : List Sp) (e : Ending) (w' : World) : Prop :=
  ∃ v up, e = .returned (.tuple #[v, .bool up, .bool true]) ∧ Only [] w w' ∧
    ((up = false ∧ v = .pointer none ∧ ((300 < ms.length ∧ ms.length ≤ 4096) ∨ (faultW ws ms a b d).1 ≠ 0)) ∨
     (up = true ∧ ¬ (300 < ms.length ∧ ms.length ≤ 4096) ∧ (faultW ws ms a b d).1 = 0 ∧ ∃ g base, w.heap.size ≤ base ∧ v = .pointer (some ⟨g, 0, none⟩) ∧ MdAt w' base g ws ms a b d ms.length (lookM 0 ms) (lgF ws)))
omit hR in
theorem faultW_zero {ws : List ByteArray} {ms : List Mg} {a b d : List Sp} (h : (faultW ws ms a b d).1 = 0) : faultW ws ms a b d = (0, 0, 0) := by
  unfold faultW at h ⊢
  split
  · rename_i h1; rw [if_pos h1] at h; cases h
  · rename_i h1; rw [if_neg h1] at h
    split
    · rename_i h2; rw [if_pos h2] at h; cases h
    · rename_i h2; rw [if_neg h2] at h
      split
      · rename_i h3; rw [if_pos h3] at h; exact absurd h h3
      · rename_i h3; rw [if_neg h3] at h
        split
        · rename_i h4; rw [if_pos h4] at h; exact absurd h h4
        · rename_i h4; rw [if_neg h4] at h
          split
          · rename_i h5; rw [if_pos h5] at h; exact absurd h h5
          · rfl
set_option maxRecDepth 100000 in
set_option maxHeartbeats 8000000 in
theorem ofM_any (s0 : ws.length ≤ 17592186043904) (s1 : ms.length ≤ 17592186043904) (s2 : a.length ≤ 17592186043904) (s3 : b.length ≤ 17592186043904) (s4 : d.length ≤ 17592186043904) (hws : ∀ s ∈ ws, s.size ≤ maxLen) (hms : ∀ m ∈ ms, m.ok) :
    Calls Try.prog 10 #[.agg #[v0, v1, v2, v3, v4]] w (OfPost w ws ms a b d) := by
  obtain ⟨F, hF⟩ : ∃ F, F = faultW ws ms a b d := ⟨_, rfl⟩
  obtain ⟨h, hh⟩ : ∃ h, h = w.heap.size := ⟨_, rfl⟩
  obtain ⟨W1, hW1⟩ : ∃ W1, W1 = w.alloc (.cells #[v0, v1, v2, v3, v4] 26) := ⟨_, rfl⟩
  have hb : Blk W1 h 26 [v0, v1, v2, v3, v4] := by rw [hW1]; exact Blk.new' _ _ _ hh.symm rfl
  have hO : Only [] w W1 := by rw [hW1]; exact (Only.refl _ _).alloc _
  have hR1 := hR.only hO
  have HR5 := Lib.hid hR1
  obtain ⟨⟨A0, c0, e0, -⟩, ⟨A1, c1, e1, -⟩, ⟨A2, c2, e2, -⟩, ⟨A3, c3, e3, -⟩, ⟨A4, c4, e4, -⟩⟩ := hR1
  obtain ⟨n0, hn0⟩ : ∃ n, n = ws.length := ⟨_, rfl⟩
  obtain ⟨n1, hn1⟩ : ∃ n, n = ms.length := ⟨_, rfl⟩
  obtain ⟨n2, hn2⟩ : ∃ n, n = a.length := ⟨_, rfl⟩
  obtain ⟨n3, hn3⟩ : ∃ n, n = b.length := ⟨_, rfl⟩
  obtain ⟨n4, hn4⟩ : ∃ n, n = d.length := ⟨_, rfl⟩
  rw [← hn0] at e0
  rw [← hn1] at e1
  rw [← hn2] at e2
  rw [← hn3] at e3
  rw [← hn4] at e4
  subst e0 e1 e2 e3 e4
  have kS : ∀ W, Only [] W1 W → (W.cell? ⟨h, 0, none⟩ = some (.slice A0 n0 c0) ∧ W.cell? ⟨h, 1, none⟩ = some (.slice A1 n1 c1) ∧ W.cell? ⟨h, 2, none⟩ = some (.slice A2 n2 c2) ∧ W.cell? ⟨h, 3, none⟩ = some (.slice A3 n3 c3) ∧ W.cell? ⟨h, 4, none⟩ = some (.slice A4 n4 c4)) := by
    intro W hw
    have k := hb.only hw (by simp)
    exact ⟨k.cell 0, k.cell 1, k.cell 2, k.cell 3, k.cell 4⟩
  have KS := Lib.hid kS
  have hlg := large_any W1 _ _ _ _ _ ws ms a b d HR5.out s1
  obtain ⟨L, hL⟩ : ∃ L, L = decide (300 < ms.length ∧ ms.length ≤ 4096) := ⟨_, rfl⟩
  rw [← hL] at hlg
  have HL := Lib.hid hL
  have Hlg := Lib.hid hlg
  have HF := Lib.hid hF
  have Hh := Lib.hid hh
  have HW := Lib.hid hW1
  have Hws := Lib.hid hws
  have Hms := Lib.hid hms
  have Hs1 := Lib.hid s1
  have Hs0 := Lib.hid s0
  have Hs2 := Lib.hid s2
  have Hs3 := Lib.hid s3
  have Hs4 := Lib.hid s4
  have hwh : w.heap.size ≤ h := by omega
  have hz1 : h + 1 ≤ W1.heap.size := by rw [hW1]; simp; omega
  obtain ⟨c0', c1', c2', c3', c4'⟩ := kS W1 (.refl _ _)
  clear hF hL hlg hh hW1 hb hR kS hws hms hn0 hn1 hn2 hn3 hn4 s0 s1 s2 s3 s4
  go_enter Try.func10, Try.ntmps10
  go_upto_region 1 with (fail)
  rw [← Hh.out, ← HW.out]
  go_wp2_with (fail)
  refine Hlg.out.mono ?_
  rintro e W2 ⟨rfl, hO2⟩
  clear c0' c1' c2' c3' c4'
  obtain ⟨c0', c1', c2', c3', c4'⟩ := KS.out W2 hO2
  cases L with
  | true =>
    go_wp2_with (fail)
    go_ret3
    exact ⟨_, _, rfl, hO.trans hO2, .inl ⟨rfl, rfl, .inl (of_decide_eq_true HL.out.symm)⟩⟩
  | false =>
    have hnl : ¬ (300 < ms.length ∧ ms.length ≤ 4096) := of_decide_eq_false HL.out.symm
    have Hnl := Lib.hid hnl
    have hnew := newM_any W2 _ _ _ _ _ ws ms a b d (HR5.out.only hO2) Hs0.out Hs1.out Hs2.out Hs3.out Hs4.out Hws.out Hms.out
    unfold NewPost at hnew
    rw [← HF.out] at hnew
    have Hnew := Lib.hid hnew
    clear hnl hnew
    go_wp2_with (fail)
    refine Hnew.out.mono ?_
    rintro e W3 ⟨v, rfl, hO3, hcase⟩
    obtain ⟨f1, f2, f3⟩ := F
    simp only at hcase
    simp only
    have Hcase := Lib.hid hcase
    have hO13 := hO2.trans hO3
    clear c0' c1' c2' c3' c4' hcase
    obtain ⟨x, hx⟩ : ∃ x, x = W3.heap.size := ⟨_, rfl⟩
    obtain ⟨W4, hW4⟩ : ∃ W4, W4 = W3.alloc (.cells #[.int .i64 (f1 : Int), .int .i64 (f2 : Int), .int .i64 (f3 : Int)] 41) := ⟨_, rfl⟩
    have bx : Blk W4 x 41 [.int .i64 (f1 : Int), .int .i64 (f2 : Int), .int .i64 (f3 : Int)] := by rw [hW4]; exact Blk.new' _ _ _ hx.symm rfl
    have hO34 : Only [] W3 W4 := by rw [hW4]; exact (Only.refl _ _).alloc _
    have hO14 := hO13.trans hO34
    have HW4 := Lib.hid hW4
    have Hx := Lib.hid hx
    have Bx := Lib.hid bx
    clear bx hW4 hx
    obtain ⟨u, hu⟩ : ∃ u, u = v := ⟨_, rfl⟩
    have Hu := Lib.hid hu
    rw [← hu]
    clear hu
    go_upto_region 4 with (fail)
    rw [← Hx.out, ← HW4.out]
    obtain ⟨c0', c1', c2', c3', c4'⟩ := KS.out W4 hO14
    have hck := check5_any W4 _ _ _ _ _ ws ms a b d (HR5.out.only hO14) Hs0.out Hs1.out Hs2.out Hs3.out Hs4.out Hws.out Hms.out
    rw [← HF.out] at hck
    unfold faultV at hck
    simp only at hck
    have Hck := Lib.hid hck
    clear hck
    go_wp2_with (fail)
    refine Hck.out.mono ?_
    rintro e W5 ⟨rfl, hO5⟩
    have hO15 := hO14.trans hO5
    clear c0' c1' c2' c3' c4'
    obtain ⟨y, hy⟩ : ∃ y, y = W5.heap.size := ⟨_, rfl⟩
    obtain ⟨W6, hW6⟩ : ∃ W6, W6 = W5.alloc (.cells #[.int .i64 (f1 : Int), .int .i64 (f2 : Int), .int .i64 (f3 : Int)] 89) := ⟨_, rfl⟩
    have by' : Blk W6 y 89 [.int .i64 (f1 : Int), .int .i64 (f2 : Int), .int .i64 (f3 : Int)] := by rw [hW6]; exact Blk.new' _ _ _ hy.symm rfl
    have hO46 : Only [] W4 W6 := by rw [hW6]; exact hO5.alloc _
    have hO16 := hO14.trans hO46
    have hO36 := hO34.trans hO46
    have bx := Bx.out.only hO46 (by simp)
    have x0 : W6.cell? ⟨x, 0, none⟩ = some (.int .i64 (f1 : Int)) := bx.cell 0
    have x1 : W6.cell? ⟨x, 1, none⟩ = some (.int .i64 (f2 : Int)) := bx.cell 1
    have x2 : W6.cell? ⟨x, 2, none⟩ = some (.int .i64 (f3 : Int)) := bx.cell 2
    have y0 : W6.cell? ⟨y, 0, none⟩ = some (.int .i64 (f1 : Int)) := by'.cell 0
    have y1 : W6.cell? ⟨y, 1, none⟩ = some (.int .i64 (f2 : Int)) := by'.cell 1
    have y2 : W6.cell? ⟨y, 2, none⟩ = some (.int .i64 (f3 : Int)) := by'.cell 2
    have HW6 := Lib.hid hW6
    have Hy := Lib.hid hy
    clear bx by' hW6 hy
    go_upto_region 5 with (fail)
    rw [← Hy.out, ← HW6.out]
    rcases Hcase.out with ⟨h0, g, base, hbase, hv, hM⟩ | ⟨h0, hv⟩
    · subst h0
      have h2 : f2 = 0 ∧ f3 = 0 := by
        have := faultW_zero (ws := ws) (ms := ms) (a := a) (b := b) (d := d) (by rw [← HF.out])
        rw [← HF.out] at this
        simpa using this
      obtain ⟨rfl, rfl⟩ := h2
      have hu := Hu.out
      rw [hv] at hu
      subst hu
      have HM := Lib.hid hM
      have Hbase := Lib.hid hbase
      clear hM hv hbase
      go_wp2_with (fail)
      go_ret3
      exact ⟨_, _, rfl, hO.trans hO16, .inr ⟨rfl, Hnl.out, by rw [← HF.out], g, base, by have := Hbase.out; have := hO2.size; omega, rfl, HM.out.only0 hO36⟩⟩
    · have hu := Hu.out
      rw [hv] at hu
      subst hu
      have hf1 : ((f1 : Int) != 0) = true := by simp; omega
      have H0 := Lib.hid h0
      clear hv h0
      go_wp2_with (fail)
      go_quiet (fail)
      go_wp2_with (fail)
      go_ret3
      exact ⟨_, _, rfl, (hO.trans hO16).drewN _, .inl ⟨rfl, rfl, .inr (by rw [← HF.out]; exact H0.out)⟩⟩
end
end Go.Proofs.Ytfnhdkabfkjodaa
