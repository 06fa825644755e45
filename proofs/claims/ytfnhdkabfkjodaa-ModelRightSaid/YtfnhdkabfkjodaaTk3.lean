/- tesserakeep: Handed. -/
import Derived.Test.YtfnhdkabfkjodaaTk2
set_option linter.unusedVariables false
set_option linter.unusedSimpArgs false
namespace Go.Proofs.Ytfnhdkabfkjodaa
open Go.RowKit

theorem results_cell_tmp {fn : Func} {p q : Tmp} {ty : TypeId} (h : fn.results = #[.cell p ty, .tmp q]) (tmps : Array Value) (P : Program) (w : World) :
    (results fn tmps).run P w = ((asAddr (tmps.getD p undef)).run P w).andThen fun a w₁ => ((loadVar ty a).run P w₁).andThen fun v w₂ => Result.ok (.tuple #[v, tmps.getD q undef]) w₂ := by
  simp only [results, h]
  simp [Sem.run_bind, Result.andThen]
theorem load5t {w : World} {h0 : Nat} {v0 v1 v2 v3 v4 u : Value} (hb : Blk w h0 26 [v0, v1, v2, v3, v4]) :
    (((asAddr (.pointer (some ⟨h0, 0, none⟩))).run Try.prog w).andThen fun a w₁ => ((loadVar 26 a).run Try.prog w₁).andThen fun v w₂ => Result.ok (Value.tuple #[v, u]) w₂) = Result.ok (Value.tuple #[Value.agg #[v0, v1, v2, v3, v4], u]) w := by
  have c0 : w.cell? ⟨h0, 0, none⟩ = some v0 := hb.cell 0
  have c1 : w.cell? ⟨h0, 1, none⟩ = some v1 := hb.cell 1
  have c2 : w.cell? ⟨h0, 2, none⟩ = some v2 := hb.cell 2
  have c3 : w.cell? ⟨h0, 3, none⟩ = some v3 := hb.cell 3
  have c4 : w.cell? ⟨h0, 4, none⟩ = some v4 := hb.cell 4
  go_simp

set_option maxRecDepth 100000 in
set_option maxHeartbeats 8000000 in
theorem handed_any (w : World) (v0 v1 v2 v3 v4 : Value) (ws : List ByteArray) (ms : List Mg) (a b d : List Sp) (hR : Rd5 w v0 v1 v2 v3 v4 ws ms a b d)
    (s0 : ws.length ≤ 8796093021952) (s1 : ms.length ≤ 5864062014634) (s2 : a.length ≤ 17592186043904) (s3 : b.length ≤ 17592186043904) (s4 : d.length ≤ 17592186043904) :
    Calls Try.prog 9 #[.agg #[v0, v1, v2, v3, v4]] w fun e w' => ∃ f G0 G1 G2 G3 G4, e = .returned (.tuple #[.agg #[.slice (some ⟨G0, 0, none⟩) ws.length (ws.length + 80), .slice (some ⟨G1, 0, none⟩) ms.length (ms.length + 80), .slice (some ⟨G2, 0, none⟩) a.length (a.length + 80), .slice (some ⟨G3, 0, none⟩) b.length (b.length + 80), .slice (some ⟨G4, 0, none⟩) d.length (d.length + 80)], .pointer (some ⟨f, 0, none⟩)]) ∧ HandX w' f v0 v1 v2 v3 v4 G0 G1 G2 G3 G4 ws ms a b d ∧ Only [] w w' := by
  obtain ⟨h, hh⟩ : ∃ h, h = w.heap.size := ⟨_, rfl⟩
  obtain ⟨W1, hW1⟩ : ∃ W1, W1 = ((w.alloc (.cells #[v0, v1, v2, v3, v4] 26)).alloc (.cells #[.slice none 0 0, .slice none 0 0, .slice none 0 0, .slice none 0 0, .slice none 0 0] 26)).alloc (.cells #[v0, v1, v2, v3, v4, .slice none 0 0, .slice none 0 0, .slice none 0 0, .slice none 0 0, .slice none 0 0] 84) := ⟨_, rfl⟩
  have hb : Blk W1 h 26 [v0, v1, v2, v3, v4] := by rw [hW1]; exact ((Blk.new' _ _ _ hh.symm rfl).alloc _).alloc _
  have hc : Blk W1 (h + 1) 26 [.slice none 0 0, .slice none 0 0, .slice none 0 0, .slice none 0 0, .slice none 0 0] := by rw [hW1]; exact (Blk.new' _ _ _ (by simp; omega) rfl).alloc _
  have hf : Blk W1 (h + 2) 84 [v0, v1, v2, v3, v4, .slice none 0 0, .slice none 0 0, .slice none 0 0, .slice none 0 0, .slice none 0 0] := by rw [hW1]; exact Blk.new' _ _ _ (by simp; omega) rfl
  have hO : Only [] w W1 := by rw [hW1]; exact (((Only.refl _ _).alloc _).alloc _).alloc _
  have hz1 : W1.heap.size = h + 3 := by rw [hW1]; simp; omega
  have hwh : w.heap.size ≤ h := by omega
  obtain ⟨⟨A0, c0, rfl, -, r0⟩, ⟨A1, c1, rfl, -, r1⟩, ⟨A2, c2, rfl, -, r2⟩, ⟨A3, c3, rfl, -, r3⟩, ⟨A4, c4, rfl, -, r4⟩⟩ := hR
  obtain ⟨n0, hn0⟩ : ∃ n, n = ws.length := ⟨_, rfl⟩
  obtain ⟨n1, hn1⟩ : ∃ n, n = ms.length := ⟨_, rfl⟩
  obtain ⟨n2, hn2⟩ : ∃ n, n = a.length := ⟨_, rfl⟩
  obtain ⟨n3, hn3⟩ : ∃ n, n = b.length := ⟨_, rfl⟩
  obtain ⟨n4, hn4⟩ : ∃ n, n = d.length := ⟨_, rfl⟩
  rw [← hn0] at r0 s0 hb hf hW1 ⊢
  rw [← hn1] at r1 s1 hb hf hW1 ⊢
  rw [← hn2] at r2 s2 hb hf hW1 ⊢
  rw [← hn3] at r3 s3 hb hf hW1 ⊢
  rw [← hn4] at r4 s4 hb hf hW1 ⊢
  have kS : ∀ W, Only [h + 2] W1 W → (W.cell? ⟨h, 0, none⟩ = some (.slice A0 n0 c0) ∧ W.cell? ⟨h, 1, none⟩ = some (.slice A1 n1 c1) ∧ W.cell? ⟨h, 2, none⟩ = some (.slice A2 n2 c2) ∧ W.cell? ⟨h, 3, none⟩ = some (.slice A3 n3 c3) ∧ W.cell? ⟨h, 4, none⟩ = some (.slice A4 n4 c4)) := by
    intro W hw
    have k := hb.only hw (by simp)
    exact ⟨k.cell 0, k.cell 1, k.cell 2, k.cell 3, k.cell 4⟩
  have KS := Lib.hid kS
  have g0 : ∀ W, Only [h + 2] W1 W → _ := fun W hw => roomyW_any A0 n0 c0 _ ws behind W ((r0.only hO (by simp)).only hw (by simp; omega)) hn0.symm (by omega)
  have g1 : ∀ W, Only [h + 2] W1 W → _ := fun W hw => roomyM_any A1 n1 c1 _ ms mrk W ((r1.only hO (by simp)).only hw (by simp; omega)) hn1.symm (by omega)
  have g2 : ∀ W, Only [h + 2] W1 W → _ := fun W hw => roomyS_any A2 n2 c2 _ a smk W ((r2.only hO (by simp)).only hw (by simp; omega)) hn2.symm (by omega)
  have g3 : ∀ W, Only [h + 2] W1 W → _ := fun W hw => roomyS_any A3 n3 c3 _ b smk W ((r3.only hO (by simp)).only hw (by simp; omega)) hn3.symm (by omega)
  have g4 : ∀ W, Only [h + 2] W1 W → _ := fun W hw => roomyS_any A4 n4 c4 _ d smk W ((r4.only hO (by simp)).only hw (by simp; omega)) hn4.symm (by omega)
  have G_0 := Lib.hid g0
  have G_1 := Lib.hid g1
  have G_2 := Lib.hid g2
  have G_3 := Lib.hid g3
  have G_4 := Lib.hid g4
  have N0 := Lib.hid hn0
  have N1 := Lib.hid hn1
  have N2 := Lib.hid hn2
  have N3 := Lib.hid hn3
  have N4 := Lib.hid hn4
  have Hh := Lib.hid hh
  have HW := Lib.hid hW1
  have Hc := Lib.hid hc
  have HO := Lib.hid hO
  have HF1 := Lib.hid hf
  obtain ⟨k0, k1, k2, k3, k4⟩ := kS W1 (.refl _ _)
  clear hh hW1 hb hc hf hO kS g0 g1 g2 g3 g4 r0 r1 r2 r3 r4 hn0 hn1 hn2 hn3 hn4
  go_enter Try.func9, Try.ntmps9
  go_upto_region 2 with (fail)
  rw [← Hh.out, ← HW.out]
  have hO1 : Only [h + 2] W1 W1 := .refl _ _
  go_wp2_with (fail)
  refine (G_0.out W1 hO1).mono ?_
  rintro e W2 ⟨G0, rfl, hG0, hB0, hW0⟩
  have HB0 := Lib.hid hB0
  have hgl0 : h + 3 ≤ G0 := by have := hO1.size; omega
  have hff := HF1.out.only hW0 (by simp)
  have q5 : W2.cell? ⟨h + 2, 5, none⟩ = some (.slice none 0 0) := hff.cell 5
  have z5 : W2.frozen? ⟨h + 2, 5, none⟩ = false := hff.frozen 5
  have hgz0 := hB0.lt
  have hO2 : Only [h + 2] W1 W2 := hO1.trans (hW0.mono (by simp))
  have hff2 := Lib.hid hff
  clear hff hB0 k0 k1 k2 k3 k4
  obtain ⟨k0, k1, k2, k3, k4⟩ := KS.out W2 hO2
  obtain ⟨V2, hV⟩ : ∃ V, V = W2.setCell ⟨h + 2, 5, none⟩ (.slice (some ⟨G0, 0, none⟩) (n0 + 80) (n0 + 80)) := ⟨_, rfl⟩
  have hO3 : Only [h + 2] W2 V2 := by rw [hV]; exact (Only.refl _ _).setCell (.inl (by simp)) _
  have hF2 : Blk V2 (h + 2) 84 [.slice A0 n0 c0, .slice A1 n1 c1, .slice A2 n2 c2, .slice A3 n3 c3, .slice A4 n4 c4, .slice (some ⟨G0, 0, none⟩) (n0 + 80) (n0 + 80), .slice none 0 0, .slice none 0 0, .slice none 0 0, .slice none 0 0] := by rw [hV]; exact hff2.out.set 5 _
  have HV := Lib.hid hV
  clear HF1 hff2 hV
  have HF1 := Lib.hid hF2
  clear hF2
  go_upto_region 3 with (fail)
  rw [← HV.out]
  clear HV q5 z5 hO1
  have hO1 : Only [h + 2] W1 V2 := hO2.trans hO3
  have hX0 : Only [h + 2] W2 V2 := hO3
  clear hO2 hO3 k0 k1 k2 k3 k4
  obtain ⟨k0, k1, k2, k3, k4⟩ := KS.out V2 hO1
  go_wp2_with (fail)
  refine (G_1.out V2 hO1).mono ?_
  rintro e W3 ⟨G1, rfl, hG1, hB1, hW1⟩
  have HB1 := Lib.hid hB1
  have hgl1 : h + 3 ≤ G1 := by have := hO1.size; omega
  have hff := HF1.out.only hW1 (by simp)
  have q5 : W3.cell? ⟨h + 2, 6, none⟩ = some (.slice none 0 0) := hff.cell 6
  have z5 : W3.frozen? ⟨h + 2, 6, none⟩ = false := hff.frozen 6
  have hgz1 := hB1.lt
  have hO2 : Only [h + 2] W1 W3 := hO1.trans (hW1.mono (by simp))
  have hff2 := Lib.hid hff
  clear hff hB1 k0 k1 k2 k3 k4
  obtain ⟨k0, k1, k2, k3, k4⟩ := KS.out W3 hO2
  obtain ⟨V3, hV⟩ : ∃ V, V = W3.setCell ⟨h + 2, 6, none⟩ (.slice (some ⟨G1, 0, none⟩) (n1 + 80) (n1 + 80)) := ⟨_, rfl⟩
  have hO3 : Only [h + 2] W3 V3 := by rw [hV]; exact (Only.refl _ _).setCell (.inl (by simp)) _
  have hF2 : Blk V3 (h + 2) 84 [.slice A0 n0 c0, .slice A1 n1 c1, .slice A2 n2 c2, .slice A3 n3 c3, .slice A4 n4 c4, .slice (some ⟨G0, 0, none⟩) (n0 + 80) (n0 + 80), .slice (some ⟨G1, 0, none⟩) (n1 + 80) (n1 + 80), .slice none 0 0, .slice none 0 0, .slice none 0 0] := by rw [hV]; exact hff2.out.set 6 _
  have HV := Lib.hid hV
  clear HF1 hff2 hV
  have HF1 := Lib.hid hF2
  clear hF2
  go_upto_region 4 with (fail)
  rw [← HV.out]
  clear HV q5 z5 hO1
  have hO1 : Only [h + 2] W1 V3 := hO2.trans hO3
  have hX1 : Only [h + 2] W3 V3 := hO3
  clear hO2 hO3 k0 k1 k2 k3 k4
  obtain ⟨k0, k1, k2, k3, k4⟩ := KS.out V3 hO1
  go_wp2_with (fail)
  refine (G_2.out V3 hO1).mono ?_
  rintro e W4 ⟨G2, rfl, hG2, hB2, hW2⟩
  have HB2 := Lib.hid hB2
  have hgl2 : h + 3 ≤ G2 := by have := hO1.size; omega
  have hff := HF1.out.only hW2 (by simp)
  have q5 : W4.cell? ⟨h + 2, 7, none⟩ = some (.slice none 0 0) := hff.cell 7
  have z5 : W4.frozen? ⟨h + 2, 7, none⟩ = false := hff.frozen 7
  have hgz2 := hB2.lt
  have hO2 : Only [h + 2] W1 W4 := hO1.trans (hW2.mono (by simp))
  have hff2 := Lib.hid hff
  clear hff hB2 k0 k1 k2 k3 k4
  obtain ⟨k0, k1, k2, k3, k4⟩ := KS.out W4 hO2
  obtain ⟨V4, hV⟩ : ∃ V, V = W4.setCell ⟨h + 2, 7, none⟩ (.slice (some ⟨G2, 0, none⟩) (n2 + 80) (n2 + 80)) := ⟨_, rfl⟩
  have hO3 : Only [h + 2] W4 V4 := by rw [hV]; exact (Only.refl _ _).setCell (.inl (by simp)) _
  have hF2 : Blk V4 (h + 2) 84 [.slice A0 n0 c0, .slice A1 n1 c1, .slice A2 n2 c2, .slice A3 n3 c3, .slice A4 n4 c4, .slice (some ⟨G0, 0, none⟩) (n0 + 80) (n0 + 80), .slice (some ⟨G1, 0, none⟩) (n1 + 80) (n1 + 80), .slice (some ⟨G2, 0, none⟩) (n2 + 80) (n2 + 80), .slice none 0 0, .slice none 0 0] := by rw [hV]; exact hff2.out.set 7 _
  have HV := Lib.hid hV
  clear HF1 hff2 hV
  have HF1 := Lib.hid hF2
  clear hF2
  go_upto_region 5 with (fail)
  rw [← HV.out]
  clear HV q5 z5 hO1
  have hO1 : Only [h + 2] W1 V4 := hO2.trans hO3
  have hX2 : Only [h + 2] W4 V4 := hO3
  clear hO2 hO3 k0 k1 k2 k3 k4
  obtain ⟨k0, k1, k2, k3, k4⟩ := KS.out V4 hO1
  go_wp2_with (fail)
  refine (G_3.out V4 hO1).mono ?_
  rintro e W5 ⟨G3, rfl, hG3, hB3, hW3⟩
  have HB3 := Lib.hid hB3
  have hgl3 : h + 3 ≤ G3 := by have := hO1.size; omega
  have hff := HF1.out.only hW3 (by simp)
  have q5 : W5.cell? ⟨h + 2, 8, none⟩ = some (.slice none 0 0) := hff.cell 8
  have z5 : W5.frozen? ⟨h + 2, 8, none⟩ = false := hff.frozen 8
  have hgz3 := hB3.lt
  have hO2 : Only [h + 2] W1 W5 := hO1.trans (hW3.mono (by simp))
  have hff2 := Lib.hid hff
  clear hff hB3 k0 k1 k2 k3 k4
  obtain ⟨k0, k1, k2, k3, k4⟩ := KS.out W5 hO2
  obtain ⟨V5, hV⟩ : ∃ V, V = W5.setCell ⟨h + 2, 8, none⟩ (.slice (some ⟨G3, 0, none⟩) (n3 + 80) (n3 + 80)) := ⟨_, rfl⟩
  have hO3 : Only [h + 2] W5 V5 := by rw [hV]; exact (Only.refl _ _).setCell (.inl (by simp)) _
  have hF2 : Blk V5 (h + 2) 84 [.slice A0 n0 c0, .slice A1 n1 c1, .slice A2 n2 c2, .slice A3 n3 c3, .slice A4 n4 c4, .slice (some ⟨G0, 0, none⟩) (n0 + 80) (n0 + 80), .slice (some ⟨G1, 0, none⟩) (n1 + 80) (n1 + 80), .slice (some ⟨G2, 0, none⟩) (n2 + 80) (n2 + 80), .slice (some ⟨G3, 0, none⟩) (n3 + 80) (n3 + 80), .slice none 0 0] := by rw [hV]; exact hff2.out.set 8 _
  have HV := Lib.hid hV
  clear HF1 hff2 hV
  have HF1 := Lib.hid hF2
  clear hF2
  go_upto_region 6 with (fail)
  rw [← HV.out]
  clear HV q5 z5 hO1
  have hO1 : Only [h + 2] W1 V5 := hO2.trans hO3
  have hX3 : Only [h + 2] W5 V5 := hO3
  clear hO2 hO3 k0 k1 k2 k3 k4
  obtain ⟨k0, k1, k2, k3, k4⟩ := KS.out V5 hO1
  go_wp2_with (fail)
  refine (G_4.out V5 hO1).mono ?_
  rintro e W6 ⟨G4, rfl, hG4, hB4, hW4⟩
  have HB4 := Lib.hid hB4
  have hgl4 : h + 3 ≤ G4 := by have := hO1.size; omega
  have hff := HF1.out.only hW4 (by simp)
  have q5 : W6.cell? ⟨h + 2, 9, none⟩ = some (.slice none 0 0) := hff.cell 9
  have z5 : W6.frozen? ⟨h + 2, 9, none⟩ = false := hff.frozen 9
  have hgz4 := hB4.lt
  have hO2 : Only [h + 2] W1 W6 := hO1.trans (hW4.mono (by simp))
  have hff2 := Lib.hid hff
  clear hff hB4 k0 k1 k2 k3 k4
  obtain ⟨k0, k1, k2, k3, k4⟩ := KS.out W6 hO2
  obtain ⟨V6, hV⟩ : ∃ V, V = W6.setCell ⟨h + 2, 9, none⟩ (.slice (some ⟨G4, 0, none⟩) (n4 + 80) (n4 + 80)) := ⟨_, rfl⟩
  have hO3 : Only [h + 2] W6 V6 := by rw [hV]; exact (Only.refl _ _).setCell (.inl (by simp)) _
  have hF2 : Blk V6 (h + 2) 84 [.slice A0 n0 c0, .slice A1 n1 c1, .slice A2 n2 c2, .slice A3 n3 c3, .slice A4 n4 c4, .slice (some ⟨G0, 0, none⟩) (n0 + 80) (n0 + 80), .slice (some ⟨G1, 0, none⟩) (n1 + 80) (n1 + 80), .slice (some ⟨G2, 0, none⟩) (n2 + 80) (n2 + 80), .slice (some ⟨G3, 0, none⟩) (n3 + 80) (n3 + 80), .slice (some ⟨G4, 0, none⟩) (n4 + 80) (n4 + 80)] := by rw [hV]; exact hff2.out.set 9 _
  have HV := Lib.hid hV
  clear HF1 hff2 hV
  have HF1 := Lib.hid hF2
  clear hF2
  go_upto_region 7 with (fail)
  rw [← HV.out]
  clear HV q5 z5 hO1
  have hO1 : Only [h + 2] W1 V6 := hO2.trans hO3
  have hX4 : Only [h + 2] W6 V6 := hO3
  clear hO2 hO3 k0 k1 k2 k3 k4
  obtain ⟨k0, k1, k2, k3, k4⟩ := KS.out V6 hO1
  have hc := Hc.out.only hO1 (by simp)
  have q0 : V6.cell? ⟨h + 1, 0, none⟩ = some (.slice none 0 0) := hc.cell 0
  have q1 : V6.cell? ⟨h + 1, 1, none⟩ = some (.slice none 0 0) := hc.cell 1
  have q2 : V6.cell? ⟨h + 1, 2, none⟩ = some (.slice none 0 0) := hc.cell 2
  have q3 : V6.cell? ⟨h + 1, 3, none⟩ = some (.slice none 0 0) := hc.cell 3
  have q4 : V6.cell? ⟨h + 1, 4, none⟩ = some (.slice none 0 0) := hc.cell 4
  have z0 := hc.frozen 0
  have z1 := hc.frozen 1
  have z2 := hc.frozen 2
  have z3 := hc.frozen 3
  have z4 := hc.frozen 4
  have kT : ∀ W, Only [h + 1] V6 W → (W.cell? ⟨h + 2, 5, none⟩ = some (.slice (some ⟨G0, 0, none⟩) (n0 + 80) (n0 + 80)) ∧ W.cell? ⟨h + 2, 6, none⟩ = some (.slice (some ⟨G1, 0, none⟩) (n1 + 80) (n1 + 80)) ∧ W.cell? ⟨h + 2, 7, none⟩ = some (.slice (some ⟨G2, 0, none⟩) (n2 + 80) (n2 + 80)) ∧ W.cell? ⟨h + 2, 8, none⟩ = some (.slice (some ⟨G3, 0, none⟩) (n3 + 80) (n3 + 80)) ∧ W.cell? ⟨h + 2, 9, none⟩ = some (.slice (some ⟨G4, 0, none⟩) (n4 + 80) (n4 + 80))) ∧ (W.cell? ⟨h, 0, none⟩ = some (.slice A0 n0 c0) ∧ W.cell? ⟨h, 1, none⟩ = some (.slice A1 n1 c1) ∧ W.cell? ⟨h, 2, none⟩ = some (.slice A2 n2 c2) ∧ W.cell? ⟨h, 3, none⟩ = some (.slice A3 n3 c3) ∧ W.cell? ⟨h, 4, none⟩ = some (.slice A4 n4 c4)) := by
    intro W hw
    have k := HF1.out.only hw (by simp)
    refine ⟨⟨k.cell 5, k.cell 6, k.cell 7, k.cell 8, k.cell 9⟩, ?_⟩
    exact ⟨hw.cellv k0 (by simp), hw.cellv k1 (by simp), hw.cellv k2 (by simp), hw.cellv k3 (by simp), hw.cellv k4 (by simp)⟩
  have KT := Lib.hid kT
  have hc2 := Lib.hid (hc.only (Only.refl [] _).drew (by simp))
  have HO1 := Lib.hid hO1
  have P1 := Lib.hid (And.intro hG0 (And.intro hG1 (And.intro hG2 (And.intro hG3 hG4))))
  have P2 := Lib.hid (And.intro hW0 (And.intro hW1 (And.intro hW2 (And.intro hW3 hW4))))
  have P3 := Lib.hid (And.intro hX0 (And.intro hX1 (And.intro hX2 (And.intro hX3 hX4))))
  have P4 := Lib.hid (And.intro hgl0 (And.intro hgl1 (And.intro hgl2 (And.intro hgl3 hgl4))))
  have P5 := Lib.hid (And.intro hgz0 (And.intro hgz1 (And.intro hgz2 (And.intro hgz3 hgz4))))
  have P6 := Lib.hid (And.intro hz1 hwh)
  obtain ⟨⟨f5, f6, f7, f8, f9⟩, -⟩ := KT.out V6 (.refl _ _)
  have sh0 := run_slice_h (P := Try.prog) (A := some ⟨G0, 0, none⟩) (n := n0 + 80) (c := n0 + 80) (m := n0) (hi := (n0 : Int)) Try.underlying22 (size := 1) (by kernel_rfl) rfl (by omega)
  have sh1 := run_slice_h (P := Try.prog) (A := some ⟨G1, 0, none⟩) (n := n1 + 80) (c := n1 + 80) (m := n1) (hi := (n1 : Int)) Try.underlying23 (size := 3) (by kernel_rfl) rfl (by omega)
  have sh2 := run_slice_h (P := Try.prog) (A := some ⟨G2, 0, none⟩) (n := n2 + 80) (c := n2 + 80) (m := n2) (hi := (n2 : Int)) Try.underlying24 (size := 2) (by kernel_rfl) rfl (by omega)
  have sh3 := run_slice_h (P := Try.prog) (A := some ⟨G3, 0, none⟩) (n := n3 + 80) (c := n3 + 80) (m := n3) (hi := (n3 : Int)) Try.underlying24 (size := 2) (by kernel_rfl) rfl (by omega)
  have sh4 := run_slice_h (P := Try.prog) (A := some ⟨G4, 0, none⟩) (n := n4 + 80) (c := n4 + 80) (m := n4) (hi := (n4 : Int)) Try.underlying24 (size := 2) (by kernel_rfl) rfl (by omega)
  clear hc kT hG0 hG1 hG2 hG3 hG4 hW0 hW1 hW2 hW3 hW4 hX0 hX1 hX2 hX3 hX4 hgl0 hgl1 hgl2 hgl3 hgl4 hgz0 hgz1 hgz2 hgz3 hgz4 hz1 hwh hO1 s0 s1 s2 s3 s4
  go_region_held3 (fun W => (W.cell? ⟨h + 2, 5, none⟩ = some (.slice (some ⟨G0, 0, none⟩) (n0 + 80) (n0 + 80)) ∧ W.cell? ⟨h + 2, 6, none⟩ = some (.slice (some ⟨G1, 0, none⟩) (n1 + 80) (n1 + 80)) ∧ W.cell? ⟨h + 2, 7, none⟩ = some (.slice (some ⟨G2, 0, none⟩) (n2 + 80) (n2 + 80)) ∧ W.cell? ⟨h + 2, 8, none⟩ = some (.slice (some ⟨G3, 0, none⟩) (n3 + 80) (n3 + 80)) ∧ W.cell? ⟨h + 2, 9, none⟩ = some (.slice (some ⟨G4, 0, none⟩) (n4 + 80) (n4 + 80))) ∧ (W.cell? ⟨h, 0, none⟩ = some (.slice A0 n0 c0) ∧ W.cell? ⟨h, 1, none⟩ = some (.slice A1 n1 c1) ∧ W.cell? ⟨h, 2, none⟩ = some (.slice A2 n2 c2) ∧ W.cell? ⟨h, 3, none⟩ = some (.slice A3 n3 c3) ∧ W.cell? ⟨h, 4, none⟩ = some (.slice A4 n4 c4)))
    (first | exact KT.out _ ((Only.refl _ _).drew) | exact KT.out _ (((((((Only.refl [h + 1] V6).drew).setCell (.inl (by simp)) _).setCell (.inl (by simp)) _).setCell (.inl (by simp)) _).setCell (.inl (by simp)) _).setCell (.inl (by simp)) _))
    (fail)
  all_goals go_wp2_with (fail)
  all_goals (try simp only [Exit.inBlock, Exit.then])
  obtain ⟨hG0, hG1, hG2, hG3, hG4⟩ := P1.out
  obtain ⟨hW0, hW1, hW2, hW3, hW4⟩ := P2.out
  obtain ⟨hX0, hX1, hX2, hX3, hX4⟩ := P3.out
  obtain ⟨hgl0, hgl1, hgl2, hgl3, hgl4⟩ := P4.out
  obtain ⟨hgz0, hgz1, hgz2, hgz3, hgz4⟩ := P5.out
  obtain ⟨hz1, hwh⟩ := P6.out
  have hO1 := HO1.out
  have hb9 := ((((hc2.out.set 0 (.slice (some ⟨G0, 0, none⟩) n0 (n0 + 80))).set 1 (.slice (some ⟨G1, 0, none⟩) n1 (n1 + 80))).set 2 (.slice (some ⟨G2, 0, none⟩) n2 (n2 + 80))).set 3 (.slice (some ⟨G3, 0, none⟩) n3 (n3 + 80))).set 4 (.slice (some ⟨G4, 0, none⟩) n4 (n4 + 80))
  have hV6 : ∀ W, Only [] V6 W → Only [h + 1] V6 W := fun W h => h.mono (by simp)
  have hlast : Only [h + 1] V6 (((((V6.drew.setCell ⟨h + 1, 0, none⟩ (.slice (some ⟨G0, 0, none⟩) n0 (n0 + 80))).setCell ⟨h + 1, 1, none⟩ (.slice (some ⟨G1, 0, none⟩) n1 (n1 + 80))).setCell ⟨h + 1, 2, none⟩ (.slice (some ⟨G2, 0, none⟩) n2 (n2 + 80))).setCell ⟨h + 1, 3, none⟩ (.slice (some ⟨G3, 0, none⟩) n3 (n3 + 80))).setCell ⟨h + 1, 4, none⟩ (.slice (some ⟨G4, 0, none⟩) n4 (n4 + 80))) := by
    exact (((((((Only.refl [h + 1] V6).drew).setCell (.inl (by simp)) _).setCell (.inl (by simp)) _).setCell (.inl (by simp)) _).setCell (.inl (by simp)) _).setCell (.inl (by simp)) _)
  have l3 := hX3.size
  have l2 := hX2.size
  have l1 := hX1.size
  have l0 := hX0.size
  have l4 := hX4.size
  have w1 := hW1.size
  have w2 := hW2.size
  have w3 := hW3.size
  have w4 := hW4.size
  have oA : Only [h + 2] W6 V6 := hX4
  have oB : Only [h + 2] W5 V6 := (hX3.trans (hW4.mono (by simp))).trans oA
  have oC : Only [h + 2] W4 V6 := (hX2.trans (hW3.mono (by simp))).trans oB
  have oD : Only [h + 2] W3 V6 := (hX1.trans (hW2.mono (by simp))).trans oC
  have oE : Only [h + 2] W2 V6 := (hX0.trans (hW1.mono (by simp))).trans oD
  refine bodyPost_ret (v := .tuple #[.agg #[.slice (some ⟨G0, 0, none⟩) n0 (n0 + 80), .slice (some ⟨G1, 0, none⟩) n1 (n1 + 80), .slice (some ⟨G2, 0, none⟩) n2 (n2 + 80), .slice (some ⟨G3, 0, none⟩) n3 (n3 + 80), .slice (some ⟨G4, 0, none⟩) n4 (n4 + 80)], .pointer (some ⟨h + 2, 0, none⟩)]) ?_ rfl ⟨h + 2, G0, G1, G2, G3, G4, rfl, ⟨?_, ?_, ?_, ?_, ?_, ?_⟩, ?_⟩
  · rw [results_cell_tmp rfl]
    exact load5t hb9
  · have h1 := HF1.out.only hlast (by simp)
    rw [N0.out, N1.out, N2.out, N3.out, N4.out] at h1 ⊢
    exact h1
  · exact (HB0.out.only oE (by simp; omega)).only hlast (by simp; omega)
  · exact (HB1.out.only oD (by simp; omega)).only hlast (by simp; omega)
  · exact (HB2.out.only oC (by simp; omega)).only hlast (by simp; omega)
  · exact (HB3.out.only oB (by simp; omega)).only hlast (by simp; omega)
  · exact (HB4.out.only oA (by simp; omega)).only hlast (by simp; omega)
  · exact (HO.out.trans' hO1 (by simp; omega)).trans' hlast (by simp; omega)
end Go.Proofs.Ytfnhdkabfkjodaa
