/- model.copied. -/
import Derived.Test.YtfnhdkabfkjodaaMd1
import Derived.Deep.RegionHeld3
set_option linter.unusedVariables false
set_option linter.unusedSimpArgs false
namespace Go.Proofs.Ytfnhdkabfkjodaa
open Go.RowKit

theorem results_cellD {fn : Func} {p : Tmp} {ty : TypeId} (h : fn.results = #[.cell p ty]) (tmps : Array Value) (P : Program) (w : World) :
    (results fn tmps).run P w = ((asAddr (tmps.getD p undef)).run P w).andThen fun a w₁ => (loadVar ty a).run P w₁ := by
  unfold results
  rw [h]
  simp [Sem.run_bind, Result.andThen, Sem.run_pure]
theorem load5 {w : World} {h0 : Nat} {v0 v1 v2 v3 v4 : Value} (hb : Blk w h0 26 [v0, v1, v2, v3, v4]) :
    (((asAddr (.pointer (some ⟨h0, 0, none⟩))).run Try.prog w).andThen fun a w₁ => (loadVar 26 a).run Try.prog w₁) = Result.ok (Value.agg #[v0, v1, v2, v3, v4]) w := by
  have c0 : w.cell? ⟨h0, 0, none⟩ = some v0 := hb.cell 0
  have c1 : w.cell? ⟨h0, 1, none⟩ = some v1 := hb.cell 1
  have c2 : w.cell? ⟨h0, 2, none⟩ = some v2 := hb.cell 2
  have c3 : w.cell? ⟨h0, 3, none⟩ = some v3 := hb.cell 3
  have c4 : w.cell? ⟨h0, 4, none⟩ = some v4 := hb.cell 4
  go_simp

set_option maxRecDepth 100000 in
set_option maxHeartbeats 8000000 in
theorem copied_any (w : World) (v0 v1 v2 v3 v4 : Value) (ws : List ByteArray) (ms : List Mg) (a b d : List Sp) (hR : Rd5 w v0 v1 v2 v3 v4 ws ms a b d) (s0 : ws.length ≤ 4096) (s1 : ms.length ≤ 4096) (s2 : a.length ≤ 512) (s3 : b.length ≤ 512) (s4 : d.length ≤ 512) :
    Calls Try.prog 47 #[.agg #[v0, v1, v2, v3, v4]] w fun e w' => ∃ u0 u1 u2 u3 u4, e = .returned (.agg #[u0, u1, u2, u3, u4]) ∧ Own5 w' w.heap.size u0 u1 u2 u3 u4 ws ms a b d ∧ Only [] w w' := by
  obtain ⟨h, hh⟩ : ∃ h, h = w.heap.size := ⟨_, rfl⟩
  obtain ⟨W1, hW1⟩ : ∃ W1, W1 = (w.alloc (.cells #[v0, v1, v2, v3, v4] 26)).alloc (.cells #[.slice none 0 0, .slice none 0 0, .slice none 0 0, .slice none 0 0, .slice none 0 0] 26) := ⟨_, rfl⟩
  have hb : Blk W1 h 26 [v0, v1, v2, v3, v4] := by rw [hW1]; exact (Blk.new' _ _ _ hh.symm rfl).alloc _
  have hb2 : Blk W1 (h + 1) 26 [.slice none 0 0, .slice none 0 0, .slice none 0 0, .slice none 0 0, .slice none 0 0] := by rw [hW1]; exact Blk.new' _ _ _ (by simp; omega) rfl
  have hO : Only [] w W1 := by rw [hW1]; exact ((Only.refl _ _).alloc _).alloc _
  have hwh : w.heap.size ≤ h := by omega
  have hz : W1.heap.size = h + 2 := by rw [hW1]; simp; omega
  obtain ⟨⟨A0, c0, rfl, -, r0⟩, ⟨A1, c1, rfl, -, r1⟩, ⟨A2, c2, rfl, -, r2⟩, ⟨A3, c3, rfl, -, r3⟩, ⟨A4, c4, rfl, -, r4⟩⟩ := hR
  have r0 := r0.only hO (by simp)
  have r1 := r1.only hO (by simp)
  have r2 := r2.only hO (by simp)
  have r3 := r3.only hO (by simp)
  have r4 := r4.only hO (by simp)
  have Hw := Lib.hid hW1
  have Hh := Lib.hid hh
  obtain ⟨n0, hn0⟩ : ∃ n, n = ws.length := ⟨_, rfl⟩
  obtain ⟨n1, hn1⟩ : ∃ n, n = ms.length := ⟨_, rfl⟩
  obtain ⟨n2, hn2⟩ : ∃ n, n = a.length := ⟨_, rfl⟩
  obtain ⟨n3, hn3⟩ : ∃ n, n = b.length := ⟨_, rfl⟩
  obtain ⟨n4, hn4⟩ : ∃ n, n = d.length := ⟨_, rfl⟩
  rw [← hn0] at s0 r0 hb Hw ⊢
  rw [← hn1] at s1 r1 hb Hw ⊢
  rw [← hn2] at s2 r2 hb Hw ⊢
  rw [← hn3] at s3 r3 hb Hw ⊢
  rw [← hn4] at s4 r4 hb Hw ⊢
  have N0 := Lib.hid hn0
  have N1 := Lib.hid hn1
  have N2 := Lib.hid hn2
  have N3 := Lib.hid hn3
  have N4 := Lib.hid hn4
  have Hb2 := Lib.hid hb2
  have Hb := Lib.hid hb
  have kS : ∀ w', Only [h + 1] W1 w' → (w'.cell? ⟨h, 0, none⟩ = some (.slice A0 n0 c0) ∧ w'.cell? ⟨h, 1, none⟩ = some (.slice A1 n1 c1) ∧ w'.cell? ⟨h, 2, none⟩ = some (.slice A2 n2 c2) ∧ w'.cell? ⟨h, 3, none⟩ = some (.slice A3 n3 c3) ∧ w'.cell? ⟨h, 4, none⟩ = some (.slice A4 n4 c4) ∧ Only [h + 1] W1 w') := fun w' hO' => by
    have e1 := Hb.out.only hO' (by simp)
    exact ⟨e1.cell 0, e1.cell 1, e1.cell 2, e1.cell 3, e1.cell 4, hO'⟩
  have KS := Lib.hid kS
  clear hW1 hh hn0 hn1 hn2 hn3 hn4 hb hb2 kS
  go_enter Try.func47, Try.ntmps47
  go_wp2_with (fail)
  rw [← Hw.out, ← Hh.out]
  go_region_held3 (fun w' => w'.cell? ⟨h, 0, none⟩ = some (.slice A0 n0 c0) ∧ w'.cell? ⟨h, 1, none⟩ = some (.slice A1 n1 c1) ∧ w'.cell? ⟨h, 2, none⟩ = some (.slice A2 n2 c2) ∧ w'.cell? ⟨h, 3, none⟩ = some (.slice A3 n3 c3) ∧ w'.cell? ⟨h, 4, none⟩ = some (.slice A4 n4 c4) ∧ Only [h + 1] W1 w')
    (first | exact KS.out _ (Only.drew (Only.refl _ _)) | exact KS.out _ (by assumption))
    (first
      | (go_at_call 63
         obtain ⟨-, -, -, -, -, hcur⟩ := (by assumption : _ ∧ _ ∧ _ ∧ _ ∧ _ ∧ Only [h + 1] W1 _)
         refine (cloneW_any n0 c0 A0 ws _ _ (r0.only hcur (by simp; omega)) (by omega)).mono ?_
         rintro e w5 ⟨u0, rfl, o0, hO5⟩
         obtain ⟨B0, x0, rfl, -⟩ := own_slice o0
         have g5 := hcur.size
         have hP5 := hcur.trans0 hO5
         have bb := Hb2.out.drew.only hO5 (by simp)
         clear hcur)
      | (go_at_call 64
         obtain ⟨-, -, -, -, -, hcur⟩ := (by assumption : _ ∧ _ ∧ _ ∧ _ ∧ _ ∧ Only [h + 1] W1 _)
         refine (cloneM_any n1 c1 A1 ms _ _ (r1.only hcur (by simp; omega)) (by omega)).mono ?_
         rintro e w6 ⟨u1, rfl, o1, hO6⟩
         obtain ⟨B1, x1, rfl, -⟩ := own_slice o1
         have g6 := hcur.size
         have o0 := own_only o0 hO6 (by simp)
         have hP6 := hcur.trans0 hO6
         have bb := bb.only hO6 (by simp)
         clear hcur)
      | (go_at_call 59
         obtain ⟨-, -, -, -, -, hcur⟩ := (by assumption : _ ∧ _ ∧ _ ∧ _ ∧ _ ∧ Only [h + 1] W1 _)
         ((with_reducible refine (cloneS_any n2 c2 A2 a _ _ (r2.only hcur (by simp; omega)) (by omega)).mono ?_))
         rintro e w7 ⟨u2, rfl, o2, hO7⟩
         obtain ⟨B2, x2, rfl, -⟩ := own_slice o2
         have g7 := hcur.size
         have o0 := own_only o0 hO7 (by simp)
         have o1 := own_only o1 hO7 (by simp)
         have hP7 := hcur.trans0 hO7
         have bb := bb.only hO7 (by simp)
         clear hcur)
      | (go_at_call 59
         obtain ⟨-, -, -, -, -, hcur⟩ := (by assumption : _ ∧ _ ∧ _ ∧ _ ∧ _ ∧ Only [h + 1] W1 _)
         ((with_reducible refine (cloneS_any n3 c3 A3 b _ _ (r3.only hcur (by simp; omega)) (by omega)).mono ?_))
         rintro e w8 ⟨u3, rfl, o3, hO8⟩
         obtain ⟨B3, x3, rfl, -⟩ := own_slice o3
         have g8 := hcur.size
         have q23 : ∀ k, (Value.slice B2 n2 x2).ownBlock = some k → (Value.slice B3 n3 x3).ownBlock ≠ some k := fun k hk hk2 => by have := (own_lt o2 hk).2; have := (own_lt o3 hk2).1; omega
         have o0 := own_only o0 hO8 (by simp)
         have o1 := own_only o1 hO8 (by simp)
         have o2 := own_only o2 hO8 (by simp)
         have Q23 := Lib.hid q23
         have hP8 := hcur.trans0 hO8
         have bb := bb.only hO8 (by simp)
         clear hcur q23)
      | (go_at_call 59
         obtain ⟨-, -, -, -, -, hcur⟩ := (by assumption : _ ∧ _ ∧ _ ∧ _ ∧ _ ∧ Only [h + 1] W1 _)
         ((with_reducible refine (cloneS_any n4 c4 A4 d _ _ (r4.only hcur (by simp; omega)) (by omega)).mono ?_))
         rintro e w9 ⟨u4, rfl, o4, hO9⟩
         obtain ⟨B4, x4, rfl, -⟩ := own_slice o4
         have g9 := hcur.size
         have q24 : ∀ k, (Value.slice B2 n2 x2).ownBlock = some k → (Value.slice B4 n4 x4).ownBlock ≠ some k := fun k hk hk2 => by have := (own_lt o2 hk).2; have := (own_lt o4 hk2).1; omega
         have q34 : ∀ k, (Value.slice B3 n3 x3).ownBlock = some k → (Value.slice B4 n4 x4).ownBlock ≠ some k := fun k hk hk2 => by have := (own_lt o3 hk).2; have := (own_lt o4 hk2).1; omega
         have o0 := own_only o0 hO9 (by simp)
         have o1 := own_only o1 hO9 (by simp)
         have o2 := own_only o2 hO9 (by simp)
         have o3 := own_only o3 hO9 (by simp)
         have Q24 := Lib.hid q24
         have Q34 := Lib.hid q34
         have hP9 := hcur.trans0 hO9
         have bb := bb.only hO9 (by simp)
         have e0 : w9.cell? ⟨h + 1, 0, none⟩ = some _ := bb.cell 0
         have e1 : w9.cell? ⟨h + 1, 1, none⟩ = some _ := bb.cell 1
         have e2 : w9.cell? ⟨h + 1, 2, none⟩ = some _ := bb.cell 2
         have e3 : w9.cell? ⟨h + 1, 3, none⟩ = some _ := bb.cell 3
         have e4 : w9.cell? ⟨h + 1, 4, none⟩ = some _ := bb.cell 4
         have z0 := bb.frozen 0
         have z1 := bb.frozen 1
         have z2 := bb.frozen 2
         have z3 := bb.frozen 3
         have z4 := bb.frozen 4
         have hPs := ((((hP9.setCell (p := ⟨h + 1, 0, none⟩) (.inl (by simp)) (.slice B0 n0 x0)).setCell (p := ⟨h + 1, 1, none⟩) (.inl (by simp)) (.slice B1 n1 x1)).setCell (p := ⟨h + 1, 2, none⟩) (.inl (by simp)) (.slice B2 n2 x2)).setCell (p := ⟨h + 1, 3, none⟩) (.inl (by simp)) (.slice B3 n3 x3)).setCell (p := ⟨h + 1, 4, none⟩) (.inl (by simp)) (.slice B4 n4 x4)
         clear hcur q24 q34))
  all_goals
    go_wp2_with (fail)
    (try simp only [Exit.inBlock, Exit.then])
    have hb9 := ((((bb.set 0 (.slice B0 n0 x0)).set 1 (.slice B1 n1 x1)).set 2 (.slice B2 n2 x2)).set 3 (.slice B3 n3 x3)).set 4 (.slice B4 n4 x4)
    have hOs : Only [h + 1] w9 (((((w9.setCell ⟨h + 1, 0, none⟩ (.slice B0 n0 x0)).setCell ⟨h + 1, 1, none⟩ (.slice B1 n1 x1)).setCell ⟨h + 1, 2, none⟩ (.slice B2 n2 x2)).setCell ⟨h + 1, 3, none⟩ (.slice B3 n3 x3)).setCell ⟨h + 1, 4, none⟩ (.slice B4 n4 x4)) := (((((Only.refl [h + 1] _).setCell (.inl (by simp)) _).setCell (.inl (by simp)) _).setCell (.inl (by simp)) _).setCell (.inl (by simp)) _).setCell (.inl (by simp)) _
    have hfr : ∀ {e : TypeId} {size : Nat} {v : Value} {n : Nat} {xs : List Value} {base : Nat}, h + 2 ≤ base → w9.ownsRow base e size v n xs → ∀ k, v.ownBlock = some k → k ∉ [h + 1] := fun hb ho k hk hm => by
      have := (own_lt ho hk).1
      simp at hm; omega
    have k5 : h + 2 ≤ W1.heap.size := by omega
    refine bodyPost_ret (v := .agg #[.slice B0 n0 x0, .slice B1 n1 x1, .slice B2 n2 x2, .slice B3 n3 x3, .slice B4 n4 x4]) ?_ rfl ⟨_, _, _, _, _, rfl, ?_, hO.trans' hPs (by simp; omega)⟩
    · rw [results_cellD rfl]
      exact load5 hb9
    · have hws : w.heap.size ≤ W1.heap.size := by omega
      have p0 := own_base (base' := w.heap.size) (own_only o0 hOs (hfr (by omega) o0)) (by omega)
      have p1 := own_base (base' := w.heap.size) (own_only o1 hOs (hfr (by omega) o1)) (by omega)
      have p2 := own_base (base' := w.heap.size) (own_only o2 hOs (hfr (by omega) o2)) (by omega)
      have p3 := own_base (base' := w.heap.size) (own_only o3 hOs (hfr (by omega) o3)) (by omega)
      have p4 := own_base (base' := w.heap.size) (own_only o4 hOs (hfr (by omega) o4)) (by omega)
      have m0 := N0.out
      have m1 := N1.out
      have m2 := N2.out
      have m3 := N3.out
      have m4 := N4.out
      clear Hw Hb Hb2 KS hb9 hOs hPs hfr
      subst m0 m1 m2 m3 m4
      refine ⟨p0, p1, p2, p3, p4, ?_, ?_, ?_⟩
      · exact Q23.out
      · exact Q24.out
      · exact Q34.out
end Go.Proofs.Ytfnhdkabfkjodaa
