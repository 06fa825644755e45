/- model.Bare; the law's fault. -/
import Derived.Test.YtfnhdkabfkjodaaKn5
set_option linter.unusedVariables false
set_option linter.unusedSimpArgs false
namespace Go.Proofs.Ytfnhdkabfkjodaa
open Go.RowKit

set_option maxRecDepth 100000 in
set_option maxHeartbeats 4000000 in
theorem bare_any (w : World) (A2 A3 A4 : Option Addr) (c2 c3 c4 : Nat) (a b d : List Sp) (h2 : a.length ≤ c2) (h3 : b.length ≤ c3) (h4 : d.length ≤ c4) (r2 : Rd w w.heap.size 2 A2 a.length (ses a)) (r3 : Rd w w.heap.size 2 A3 b.length (ses b)) (r4 : Rd w w.heap.size 2 A4 d.length (ses d))
    (s2 : a.length ≤ 17592186043904) (s3 : b.length ≤ 17592186043904) (s4 : d.length ≤ 17592186043904) :
    Calls Try.prog 36 #[.slice A2 a.length c2, .slice A3 b.length c3, .slice A4 d.length c4] w (NewPost w [] [] a b d) := by
  obtain ⟨h, hh⟩ : ∃ h, h = w.heap.size := ⟨_, rfl⟩
  obtain ⟨W1, hW1⟩ : ∃ W1, W1 = w.alloc (.cells #[.int .i64 0, .int .i64 0, .int .i64 0] 41) := ⟨_, rfl⟩
  have hb : Blk W1 h 41 [.int .i64 0, .int .i64 0, .int .i64 0] := by rw [hW1]; exact Blk.new' _ _ _ hh.symm rfl
  have hO : Only [] w W1 := by rw [hW1]; exact (Only.refl _ _).alloc _
  have hR : Rd5 W1 (.slice none 0 0) (.slice none 0 0) (.slice A2 a.length c2) (.slice A3 b.length c3) (.slice A4 d.length c4) [] [] a b d :=
    Rd5.only ⟨⟨_, _, rfl, Nat.le_refl _, Rd.zero _ _ _ _⟩, ⟨_, _, rfl, Nat.le_refl _, Rd.zero _ _ _ _⟩, ⟨_, _, rfl, h2, r2⟩, ⟨_, _, rfl, h3, r3⟩, ⟨_, _, rfl, h4, r4⟩⟩ hO
  have hnew := newM_any W1 _ _ _ _ _ [] [] a b d hR (by simp) (by simp) s2 s3 s4 (by simp) (by simp)
  unfold NewPost at hnew
  obtain ⟨F, hF⟩ : ∃ F, F = faultW [] [] a b d := ⟨_, rfl⟩
  rw [← hF] at hnew
  have Hnew := Lib.hid hnew
  have HF := Lib.hid hF
  have Hh := Lib.hid hh
  have HW := Lib.hid hW1
  have Hb := Lib.hid hb
  have HO := Lib.hid hO
  obtain ⟨n2, hn2⟩ : ∃ n, n = a.length := ⟨_, rfl⟩
  obtain ⟨n3, hn3⟩ : ∃ n, n = b.length := ⟨_, rfl⟩
  obtain ⟨n4, hn4⟩ : ∃ n, n = d.length := ⟨_, rfl⟩
  rw [← hn2, ← hn3, ← hn4] at Hnew ⊢
  have hwh : w.heap.size ≤ h := by omega
  have hz1 : W1.heap.size = h + 1 := by rw [hW1]; simp; omega
  clear hnew hF hh hW1 hb hO hR h2 h3 h4 r2 r3 r4 s2 s3 s4 hn2 hn3 hn4
  go_enter Try.func36, Try.ntmps36
  go_upto_region 1 with (fail)
  rw [← Hh.out, ← HW.out]
  go_wp2_with (fail)
  refine Hnew.out.mono ?_
  rintro e W2 ⟨v, rfl, hO2, hcase⟩
  obtain ⟨f1, f2, f3⟩ := F
  simp only at hcase
  simp only
  have Hcase := Lib.hid hcase
  have hb2 := Hb.out.only hO2 (by simp)
  have q0 : W2.cell? ⟨h, 0, none⟩ = some (.int .i64 0) := hb2.cell 0
  have q1 : W2.cell? ⟨h, 1, none⟩ = some (.int .i64 0) := hb2.cell 1
  have q2 : W2.cell? ⟨h, 2, none⟩ = some (.int .i64 0) := hb2.cell 2
  have z0 := hb2.frozen 0
  have z1 := hb2.frozen 1
  have z2 := hb2.frozen 2
  have Hb2 := Lib.hid hb2
  clear hcase hb2
  go_wp2_with (fail)
  (try simp only [Exit.inBlock, Exit.then])
  have hbn := ((Hb2.out.set 0 (.int .i64 (f1 : Int))).set 1 (.int .i64 (f2 : Int))).set 2 (.int .i64 (f3 : Int))
  have hOs : Only [h] W2 (((W2.setCell ⟨h, 0, none⟩ (.int .i64 (f1 : Int))).setCell ⟨h, 1, none⟩ (.int .i64 (f2 : Int))).setCell ⟨h, 2, none⟩ (.int .i64 (f3 : Int))) := (((Only.refl [h] _).setCell (.inl (by simp)) _).setCell (.inl (by simp)) _).setCell (.inl (by simp)) _
  refine bodyPost_ret (v := .tuple #[v, .agg #[.int .i64 (f1 : Int), .int .i64 (f2 : Int), .int .i64 (f3 : Int)]]) ?_ rfl ⟨v, by rw [← HF.out], (HO.out.trans hO2).trans' hOs (by simp; omega), ?_⟩
  · rw [results_tmp_cell rfl]
    exact loadF hbn
  · rw [← HF.out]
    rcases Hcase.out with ⟨h0, g, base, hbs, rfl, hM⟩ | ⟨h0, rfl⟩
    · exact .inl ⟨h0, g, base, by omega, rfl, hM.only hOs (by simp; omega)⟩
    · exact .inr ⟨h0, rfl⟩

theorem loadF1 {w : World} {h0 : Nat} {v0 v1 v2 : Value} (hb : Blk w h0 41 [v0, v1, v2]) :
    (((asAddr (.pointer (some ⟨h0, 0, none⟩))).run Try.prog w).andThen fun a w₁ => (loadVar 41 a).run Try.prog w₁) = Result.ok (Value.agg #[v0, v1, v2]) w := by
  have c0 : w.cell? ⟨h0, 0, none⟩ = some v0 := hb.cell 0
  have c1 : w.cell? ⟨h0, 1, none⟩ = some v1 := hb.cell 1
  have c2 : w.cell? ⟨h0, 2, none⟩ = some v2 := hb.cell 2
  go_simp
def blank1 : List Sp := [(32, 32)]
set_option maxRecDepth 100000 in
set_option maxHeartbeats 4000000 in
theorem fault_any (w : World) (A0 A1 : Option Addr) (c0 c1 : Nat) (ws : List ByteArray) (ms : List Mg) (h0 : ws.length ≤ c0) (h1 : ms.length ≤ c1) (r0 : Rd w w.heap.size 1 A0 ws.length (wds ws)) (r1 : Rd w w.heap.size 3 A1 ms.length (mgs ms))
    (s0 : ws.length ≤ 17592186043904) (s1 : ms.length ≤ 17592186043904) (hws : ∀ s ∈ ws, s.size ≤ maxLen) (hms : ∀ m ∈ ms, m.ok) (T : Wr) (hT : faultW ws ms [] [] blank1 = T) (n0 n1 : Nat) (hn0 : n0 = ws.length) (hn1 : n1 = ms.length) :
    Calls Try.prog 37 #[.slice A0 n0 c0, .slice A1 n1 c1] w fun e w' => e = .returned (faultV T) ∧ Only [] w w' := by
  obtain ⟨h, hh⟩ : ∃ h, h = w.heap.size := ⟨_, rfl⟩
  obtain ⟨W1, hW1⟩ : ∃ W1, W1 = (w.alloc (.cells #[.int .i64 0, .int .i64 0, .int .i64 0] 41)).alloc (.cells #[.int .i32 32, .int .i32 32] 67) := ⟨_, rfl⟩
  have hb : Blk W1 h 41 [.int .i64 0, .int .i64 0, .int .i64 0] := by rw [hW1]; exact (Blk.new' _ _ _ hh.symm rfl).alloc _
  have hs : Blk W1 (h + 1) 67 (ses blank1) := by rw [hW1]; exact Blk.new' _ _ _ (by simp; omega) rfl
  have hO : Only [] w W1 := by rw [hW1]; exact ((Only.refl _ _).alloc _).alloc _
  have hz1 : W1.heap.size = h + 2 := by rw [hW1]; simp; omega
  have hR : Rd5 W1 (.slice A0 ws.length c0) (.slice A1 ms.length c1) (.slice none 0 0) (.slice none 0 0) (.slice (some ⟨h + 1, 0, none⟩) 1 1) ws ms [] [] blank1 :=
    ⟨⟨_, _, rfl, h0, (r0.only hO (by simp)).more hO.size⟩, ⟨_, _, rfl, h1, (r1.only hO (by simp)).more hO.size⟩, ⟨_, _, rfl, Nat.le_refl _, Rd.zero _ _ _ _⟩, ⟨_, _, rfl, Nat.le_refl _, Rd.zero _ _ _ _⟩, ⟨_, _, rfl, Nat.le_refl _, (Rd.whole (t := 67) hs rfl).more hs.lt⟩⟩
  have hnew := newM_any W1 _ _ _ _ _ ws ms [] [] blank1 hR s0 s1 (by simp) (by simp) (by decide) hws hms
  unfold NewPost at hnew
  rw [hT, ← hn0, ← hn1] at hnew
  have Hnew := Lib.hid hnew
  have Hh := Lib.hid hh
  have HW := Lib.hid hW1
  have Hb := Lib.hid hb
  have HO := Lib.hid hO
  have hwh : w.heap.size ≤ h := by omega
  clear hnew hh hW1 hb hs hO hR h0 h1 r0 r1 s0 s1 hws hms hT hn0 hn1
  obtain ⟨f1, f2, f3⟩ := T
  go_enter Try.func37, Try.ntmps37
  go_wp2_with (fail)
  rw [← Hh.out, ← HW.out]
  refine Hnew.out.mono ?_
  rintro e W2 ⟨v, rfl, hO2, -⟩
  simp only
  obtain ⟨x, hx⟩ : ∃ x, x = W2.heap.size := ⟨_, rfl⟩
  obtain ⟨W4, hW4⟩ : ∃ W4, W4 = W2.alloc (.cells #[.int .i64 (f1 : Int), .int .i64 (f2 : Int), .int .i64 (f3 : Int)] 41) := ⟨_, rfl⟩
  have bx : Blk W4 x 41 [.int .i64 (f1 : Int), .int .i64 (f2 : Int), .int .i64 (f3 : Int)] := by rw [hW4]; exact Blk.new' _ _ _ hx.symm rfl
  have hO4 : Only [] W1 W4 := by rw [hW4]; exact hO2.alloc _
  have x0 : W4.cell? ⟨x, 0, none⟩ = some (.int .i64 (f1 : Int)) := bx.cell 0
  have x1 : W4.cell? ⟨x, 1, none⟩ = some (.int .i64 (f2 : Int)) := bx.cell 1
  have x2 : W4.cell? ⟨x, 2, none⟩ = some (.int .i64 (f3 : Int)) := bx.cell 2
  have HW4 := Lib.hid hW4
  have Hx := Lib.hid hx
  have hb2 := Hb.out.only hO4 (by simp)
  have q0 : W4.cell? ⟨h, 0, none⟩ = some (.int .i64 0) := hb2.cell 0
  have q1 : W4.cell? ⟨h, 1, none⟩ = some (.int .i64 0) := hb2.cell 1
  have q2 : W4.cell? ⟨h, 2, none⟩ = some (.int .i64 0) := hb2.cell 2
  have z0 := hb2.frozen 0
  have z1 := hb2.frozen 1
  have z2 := hb2.frozen 2
  have Hb2 := Lib.hid hb2
  clear hb2 bx hW4 hx
  go_upto_region 2 with (fail)
  rw [← Hx.out, ← HW4.out]
  go_wp2_with (fail)
  (try simp only [Exit.inBlock, Exit.then])
  have hbn := ((Hb2.out.set 0 (.int .i64 (f1 : Int))).set 1 (.int .i64 (f2 : Int))).set 2 (.int .i64 (f3 : Int))
  refine bodyPost_ret (v := faultV (f1, f2, f3)) ?_ rfl ⟨rfl, (((HO.out.trans hO4).setCell (.inr hwh) _).setCell (.inr hwh) _).setCell (.inr hwh) _⟩
  rw [results_cellD rfl]
  exact loadF1 hbn
/-- with literal lists -/
theorem fault_lit (W : World) (ws : List ByteArray) (ms : List Mg) (hws : ∀ s ∈ ws, s.size ≤ maxLen) (hms : ∀ m ∈ ms, m.ok) (s0 : ws.length ≤ 5000) (s1 : ms.length ≤ 5000) (T : Wr) (hT : faultW ws ms [] [] blank1 = T) :
    Calls Try.prog 37 #[.slice (some ⟨W.heap.size, 0, none⟩) ws.length ws.length, .slice (some ⟨W.heap.size + 1, 0, none⟩) ms.length ms.length] ((W.alloc (.cells (wds ws).toArray 9)).alloc (.cells (mgs ms).toArray 38)) fun e w' => e = .returned (faultV T) ∧ Only [] W w' := by
  have b0 : Blk ((W.alloc (.cells (wds ws).toArray 9)).alloc (.cells (mgs ms).toArray 38)) W.heap.size 9 (wds ws) := (Blk.new' _ _ _ rfl rfl).alloc _
  have b1 : Blk ((W.alloc (.cells (wds ws).toArray 9)).alloc (.cells (mgs ms).toArray 38)) (W.heap.size + 1) 38 (mgs ms) := Blk.new' _ _ _ (by simp) rfl
  refine (fault_any _ _ _ ws.length ms.length ws ms (Nat.le_refl _) (Nat.le_refl _) ((Rd.whole (t := 9) b0 (by rw [wds_length, Nat.mul_one])).more b0.lt) ((Rd.whole (t := 38) b1 (mgs_length ms)).more b1.lt) (by omega) (by omega) hws hms T hT _ _ rfl rfl).mono ?_
  rintro e w' ⟨rfl, hO⟩
  exact ⟨rfl, (((Only.refl [] W).alloc _).alloc _).trans hO⟩
end Go.Proofs.Ytfnhdkabfkjodaa
