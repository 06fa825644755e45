/- ModelKept. -/
import Derived.Test.YtfnhdkabfkjodaaKn5
import Derived.Test.YtfnhdkabfkjodaaTk2
import Derived.Test.YtfnhdkabfkjodaaSpoil
import Derived.Test.YtfnhdkabfkjodaaMdK0
import Derived.Test.YtfnhdkabfkjodaaBk3W
import Derived.Test.YtfnhdkabfkjodaaBk3M
import Derived.Test.YtfnhdkabfkjodaaBk3Sp
set_option linter.unusedVariables false
set_option linter.unusedSimpArgs false
namespace Go.Proofs.Ytfnhdkabfkjodaa
open Go.RowKit

set_option maxRecDepth 100000 in
set_option maxHeartbeats 8000000 in
theorem modelKept_walk (w0 : World) (v0 v1 v2 v3 v4 : Value) (ws : List ByteArray) (ms : List Mg) (a b d : List Sp) (hR : Rd5 w0 v0 v1 v2 v3 v4 ws ms a b d)
    (s0 : ws.length ≤ 8796093021952) (s1 : ms.length ≤ 5864062014634) (s2 : a.length ≤ 17592186043904) (s3 : b.length ≤ 17592186043904) (s4 : d.length ≤ 17592186043904) (hws : ∀ s ∈ ws, s.size ≤ maxLen) (hms : ∀ m ∈ ms, m.ok) :
    Calls Try.prog 6 #[.agg #[v0, v1, v2, v3, v4]] w0 fun e w' => e = .returned (.bool true) ∧ Only [] w0 w' := by
  obtain ⟨h, hh⟩ : ∃ h, h = w0.heap.size := ⟨_, rfl⟩
  obtain ⟨W1, hW1⟩ : ∃ W1, W1 = w0.alloc (.cells #[v0, v1, v2, v3, v4] 26) := ⟨_, rfl⟩
  have hb : Blk W1 h 26 [v0, v1, v2, v3, v4] := by rw [hW1]; exact Blk.new' _ _ _ hh.symm rfl
  have hO : Only [] w0 W1 := by rw [hW1]; exact (Only.refl _ _).alloc _
  have hR1 := hR.only hO
  have hlg := large_any W1 v0 v1 v2 v3 v4 ws ms a b d hR1 (by omega)
  have HR5 := Lib.hid hR1
  obtain ⟨⟨A0, c0, e0, -, r0⟩, ⟨A1, c1, e1, -, r1⟩, ⟨A2, c2, e2, -, r2⟩, ⟨A3, c3, e3, -, r3⟩, ⟨A4, c4, e4, -, r4⟩⟩ := hR1
  obtain ⟨n0, hn0⟩ : ∃ n, n = ws.length := ⟨_, rfl⟩
  obtain ⟨n1, hn1⟩ : ∃ n, n = ms.length := ⟨_, rfl⟩
  obtain ⟨n2, hn2⟩ : ∃ n, n = a.length := ⟨_, rfl⟩
  obtain ⟨n3, hn3⟩ : ∃ n, n = b.length := ⟨_, rfl⟩
  obtain ⟨n4, hn4⟩ : ∃ n, n = d.length := ⟨_, rfl⟩
  rw [← hn0] at e0 r0 s0
  rw [← hn1] at e1 r1 s1
  rw [← hn2] at e2 r2 s2
  rw [← hn3] at e3 r3 s3
  rw [← hn4] at e4 r4 s4
  subst e0 e1 e2 e3 e4
  have k0 : W1.cell? ⟨h, 0, none⟩ = some (.slice A0 n0 c0) := hb.cell 0
  have k1 : W1.cell? ⟨h, 1, none⟩ = some (.slice A1 n1 c1) := hb.cell 1
  have k2 : W1.cell? ⟨h, 2, none⟩ = some (.slice A2 n2 c2) := hb.cell 2
  have k3 : W1.cell? ⟨h, 3, none⟩ = some (.slice A3 n3 c3) := hb.cell 3
  have k4 : W1.cell? ⟨h, 4, none⟩ = some (.slice A4 n4 c4) := hb.cell 4
  have Hlg := Lib.hid hlg
  have N0 := Lib.hid hn0
  have N1 := Lib.hid hn1
  have N2 := Lib.hid hn2
  have N3 := Lib.hid hn3
  have N4 := Lib.hid hn4
  have Hws := Lib.hid hws
  have Hms := Lib.hid hms
  have Hh := Lib.hid hh
  have HW := Lib.hid hW1
  have HO := Lib.hid hO
  have HB := Lib.hid hb
  clear hh hW1 hb hR hlg hws hms hn0 hn1 hn2 hn3 hn4 hO
  go_enter Try.func6, Try.ntmps6
  go_upto_region 1 with (fail)
  rw [← Hh.out, ← HW.out]
  go_wp2_with (fail)
  refine Hlg.out.mono ?_
  rintro e W2 ⟨rfl, hO2⟩
  clear k0 k1 k2 k3 k4
  by_cases hlarge : 300 < ms.length ∧ ms.length ≤ 4096
  · rw [decide_eq_true hlarge]
    clear hlarge
    go_wp2_with (fail)
    refine (known5_any W2).mono ?_
    rintro e W3 ⟨rfl, hO3⟩
    go_wp2_with (fail)
    go_ret
    exact ⟨rfl, HO.out.trans (hO2.trans hO3)⟩
  rw [decide_eq_false hlarge]
  clear hlarge Hlg
  have hb2 := HB.out.only hO2 (by simp)
  replace r0 := r0.only hO2 (by simp)
  replace r1 := r1.only hO2 (by simp)
  replace r2 := r2.only hO2 (by simp)
  replace r3 := r3.only hO2 (by simp)
  replace r4 := r4.only hO2 (by simp)
  have kS : ∀ W, Only [] W2 W → (W.cell? ⟨h, 0, none⟩ = some (.slice A0 n0 c0) ∧ W.cell? ⟨h, 1, none⟩ = some (.slice A1 n1 c1) ∧ W.cell? ⟨h, 2, none⟩ = some (.slice A2 n2 c2) ∧ W.cell? ⟨h, 3, none⟩ = some (.slice A3 n3 c3) ∧ W.cell? ⟨h, 4, none⟩ = some (.slice A4 n4 c4)) := by
    intro W hW
    have k := hb2.only hW (by simp)
    exact ⟨k.cell 0, k.cell 1, k.cell 2, k.cell 3, k.cell 4⟩
  have KS := Lib.hid kS
  have k0 : ∀ o, (W2.alloc o).cell? ⟨h, 0, none⟩ = some (.slice A0 n0 c0) := fun o => (hb2.alloc o).cell 0
  clear kS
  obtain ⟨B, hB0⟩ : ∃ B, B = W2.heap.size := ⟨_, rfl⟩
  have hB : B ≤ W2.heap.size := by omega
  go_upto_region 3 with (fail)
  refine wp_region_inv (by kernel_rfl) (by kernel_rfl) (KI (.agg #[.slice A0 n0 c0, .slice A1 n1 c1, .slice A2 n2 c2, .slice A3 n3 c3, .slice A4 n4 c4]) (.pointer (some ⟨h, 0, none⟩)) W2 B h A0 A1 A2 A3 A4 n0 n1 n2 n3 n4 c0 c1 c2 c3 c4 ws ms a b d) ⟨fun _ => undef, by rfl, (Only.refl _ _).drew, .inl ⟨fun h => h.elim, fun _ h => h.elim⟩⟩ ?_ ?_
  · intro L x w i o hI ho hL hd K hK
    have hi : i < 23 := (List.getElem?_eq_some_iff.1 ho).1
    obtain ⟨T, rfl, hO, ⟨h21, hD⟩ | ⟨hall, -⟩⟩ := hI
    rotate_left
    · exact absurd (hall i hi) hL
    rcases lt23 hi with rfl | rfl | rfl | rfl | rfl | rfl | rfl | rfl | rfl | rfl | rfl | rfl | rfl | rfl | rfl | rfl | rfl | rfl | rfl | rfl | rfl | rfl | rfl
    all_goals
      simp only [List.getElem?_cons_succ, List.getElem?_cons_zero, Option.some.injEq] at ho
      subst ho
      clear hi
    · go_simp
      refine hK _ _ ?_
      refine KI.next (T := T) 0 (.slice (some ⟨w.heap.size, 0, none⟩) 0 0) (by omega) hL h21 hO hD ((Only.refl _ _).alloc _) (by simp only [actK, upd, slK] <;> rfl) ?_
      exact ⟨w.heap.size, rfl, Nat.le_trans hB (hO.size), Blk.new' _ _ _ rfl rfl⟩
    · go_simp
      refine hK _ _ ?_
      refine KI.next (T := T) 1 (.pointer (some ⟨h, 0, none⟩)) (by omega) hL h21 hO hD (Only.refl _ _) (by simp only [actK, upd, slK] <;> rfl) ?_
      exact rfl
    · have e1 := hD 1 (hd ⟨1, .data⟩ (by simp) (by rfl))
      replace e1 : T 16 = .pointer (some ⟨h, 0, none⟩) := e1
      have k0 : w.cell? ⟨h, 0, none⟩ = some (.slice A0 n0 c0) := (hb2.only hO (by simp)).cell 0
      unfold actK
      go_simp
      refine hK _ _ ?_
      refine KI.next (T := T) 2 (.slice A0 n0 c0) (by omega) hL h21 hO hD (Only.refl _ _) (by simp only [actK, upd, slK, e1] <;> rfl) ?_
      exact rfl
    · have e1 := hD 0 (hd ⟨0, .data⟩ (by simp) (by rfl))
      have e2 := hD 2 (hd ⟨2, .data⟩ (by simp) (by rfl))
      obtain ⟨g, e1, hg, hbg⟩ := e1
      replace e1 : T 15 = .slice (some ⟨g, 0, none⟩) 0 0 := e1
      replace e2 : T 17 = .slice A0 n0 c0 := e2
      obtain ⟨v', w', hrun, hown, hO'⟩ := run_append_empty (P := Try.prog) (w := w) B 22 22 9 (.string .empty) 1 16 Try.underlying22 (by kernel_rfl) rfl (by omega) hbg hg c0 (r0.only hO (by simp)) (wds_one _) (by simp only [maxLen]; omega) (by omega) (Nat.le_trans hB hO.size)
      rw [if_pos (by simp [Region.wanted])]
      refine wp_append_run (.tmp 15) (.tmp 17) 22 22 (by rfl) (by exact e1) (by exact e2) hrun ?_
      refine hK _ _ ?_
      refine KI.next (T := T) 3 (v') (by omega) hL h21 hO hD hO' (by simp only [actK, upd, slK] <;> rfl) ?_
      exact hown
    · go_simp
      refine hK _ _ ?_
      refine KI.next (T := T) 4 (.slice (some ⟨w.heap.size, 0, none⟩) 0 0) (by omega) hL h21 hO hD ((Only.refl _ _).alloc _) (by simp only [actK, upd, slK] <;> rfl) ?_
      exact ⟨w.heap.size, rfl, Nat.le_trans hB (hO.size), Blk.new' _ _ _ rfl rfl⟩
    · go_simp
      refine hK _ _ ?_
      refine KI.next (T := T) 5 (.pointer (some ⟨h, 1, none⟩)) (by omega) hL h21 hO hD (Only.refl _ _) (by simp only [actK, upd, slK] <;> rfl) ?_
      exact rfl
    · have e1 := hD 5 (hd ⟨5, .data⟩ (by simp) (by rfl))
      replace e1 : T 20 = .pointer (some ⟨h, 1, none⟩) := e1
      have k0 : w.cell? ⟨h, 1, none⟩ = some (.slice A1 n1 c1) := (hb2.only hO (by simp)).cell 1
      unfold actK
      go_simp
      refine hK _ _ ?_
      refine KI.next (T := T) 6 (.slice A1 n1 c1) (by omega) hL h21 hO hD (Only.refl _ _) (by simp only [actK, upd, slK, e1] <;> rfl) ?_
      exact rfl
    · have e1 := hD 4 (hd ⟨4, .data⟩ (by simp) (by rfl))
      have e2 := hD 6 (hd ⟨6, .data⟩ (by simp) (by rfl))
      obtain ⟨g, e1, hg, hbg⟩ := e1
      replace e1 : T 19 = .slice (some ⟨g, 0, none⟩) 0 0 := e1
      replace e2 : T 21 = .slice A1 n1 c1 := e2
      obtain ⟨v', w', hrun, hown, hO'⟩ := run_append_empty (P := Try.prog) (w := w) B 23 23 38 (.agg #[.int .i64 0, .int .i64 0, .int .i64 0]) 3 24 Try.underlying23 (by kernel_rfl) rfl (by omega) hbg hg c1 (r1.only hO (by simp)) (mgs_one _) (by simp only [maxLen]; omega) (by omega) (Nat.le_trans hB hO.size)
      rw [if_pos (by simp [Region.wanted])]
      refine wp_append_run (.tmp 19) (.tmp 21) 23 23 (by rfl) (by exact e1) (by exact e2) hrun ?_
      refine hK _ _ ?_
      refine KI.next (T := T) 7 (v') (by omega) hL h21 hO hD hO' (by simp only [actK, upd, slK] <;> rfl) ?_
      exact hown
    · go_simp
      refine hK _ _ ?_
      refine KI.next (T := T) 8 (.slice (some ⟨w.heap.size, 0, none⟩) 0 0) (by omega) hL h21 hO hD ((Only.refl _ _).alloc _) (by simp only [actK, upd, slK] <;> rfl) ?_
      exact ⟨w.heap.size, rfl, Nat.le_trans hB (hO.size), Blk.new' _ _ _ rfl rfl⟩
    · go_simp
      refine hK _ _ ?_
      refine KI.next (T := T) 9 (.pointer (some ⟨h, 2, none⟩)) (by omega) hL h21 hO hD (Only.refl _ _) (by simp only [actK, upd, slK] <;> rfl) ?_
      exact rfl
    · have e1 := hD 9 (hd ⟨9, .data⟩ (by simp) (by rfl))
      replace e1 : T 24 = .pointer (some ⟨h, 2, none⟩) := e1
      have k0 : w.cell? ⟨h, 2, none⟩ = some (.slice A2 n2 c2) := (hb2.only hO (by simp)).cell 2
      unfold actK
      go_simp
      refine hK _ _ ?_
      refine KI.next (T := T) 10 (.slice A2 n2 c2) (by omega) hL h21 hO hD (Only.refl _ _) (by simp only [actK, upd, slK, e1] <;> rfl) ?_
      exact rfl
    · have e1 := hD 8 (hd ⟨8, .data⟩ (by simp) (by rfl))
      have e2 := hD 10 (hd ⟨10, .data⟩ (by simp) (by rfl))
      obtain ⟨g, e1, hg, hbg⟩ := e1
      replace e1 : T 23 = .slice (some ⟨g, 0, none⟩) 0 0 := e1
      replace e2 : T 25 = .slice A2 n2 c2 := e2
      obtain ⟨v', w', hrun, hown, hO'⟩ := run_append_empty (P := Try.prog) (w := w) B 24 24 67 (.agg #[.int .i32 0, .int .i32 0]) 2 8 Try.underlying24 (by kernel_rfl) rfl (by omega) hbg hg c2 (r2.only hO (by simp)) (ses_one _) (by simp only [maxLen]; omega) (by omega) (Nat.le_trans hB hO.size)
      rw [if_pos (by simp [Region.wanted])]
      refine wp_append_run (.tmp 23) (.tmp 25) 24 24 (by rfl) (by exact e1) (by exact e2) hrun ?_
      refine hK _ _ ?_
      refine KI.next (T := T) 11 (v') (by omega) hL h21 hO hD hO' (by simp only [actK, upd, slK] <;> rfl) ?_
      exact hown
    · go_simp
      refine hK _ _ ?_
      refine KI.next (T := T) 12 (.slice (some ⟨w.heap.size, 0, none⟩) 0 0) (by omega) hL h21 hO hD ((Only.refl _ _).alloc _) (by simp only [actK, upd, slK] <;> rfl) ?_
      exact ⟨w.heap.size, rfl, Nat.le_trans hB (hO.size), Blk.new' _ _ _ rfl rfl⟩
    · go_simp
      refine hK _ _ ?_
      refine KI.next (T := T) 13 (.pointer (some ⟨h, 3, none⟩)) (by omega) hL h21 hO hD (Only.refl _ _) (by simp only [actK, upd, slK] <;> rfl) ?_
      exact rfl
    · have e1 := hD 13 (hd ⟨13, .data⟩ (by simp) (by rfl))
      replace e1 : T 28 = .pointer (some ⟨h, 3, none⟩) := e1
      have k0 : w.cell? ⟨h, 3, none⟩ = some (.slice A3 n3 c3) := (hb2.only hO (by simp)).cell 3
      unfold actK
      go_simp
      refine hK _ _ ?_
      refine KI.next (T := T) 14 (.slice A3 n3 c3) (by omega) hL h21 hO hD (Only.refl _ _) (by simp only [actK, upd, slK, e1] <;> rfl) ?_
      exact rfl
    · have e1 := hD 12 (hd ⟨12, .data⟩ (by simp) (by rfl))
      have e2 := hD 14 (hd ⟨14, .data⟩ (by simp) (by rfl))
      obtain ⟨g, e1, hg, hbg⟩ := e1
      replace e1 : T 27 = .slice (some ⟨g, 0, none⟩) 0 0 := e1
      replace e2 : T 29 = .slice A3 n3 c3 := e2
      obtain ⟨v', w', hrun, hown, hO'⟩ := run_append_empty (P := Try.prog) (w := w) B 24 24 67 (.agg #[.int .i32 0, .int .i32 0]) 2 8 Try.underlying24 (by kernel_rfl) rfl (by omega) hbg hg c3 (r3.only hO (by simp)) (ses_one _) (by simp only [maxLen]; omega) (by omega) (Nat.le_trans hB hO.size)
      rw [if_pos (by simp [Region.wanted])]
      refine wp_append_run (.tmp 27) (.tmp 29) 24 24 (by rfl) (by exact e1) (by exact e2) hrun ?_
      refine hK _ _ ?_
      refine KI.next (T := T) 15 (v') (by omega) hL h21 hO hD hO' (by simp only [actK, upd, slK] <;> rfl) ?_
      exact hown
    · go_simp
      refine hK _ _ ?_
      refine KI.next (T := T) 16 (.slice (some ⟨w.heap.size, 0, none⟩) 0 0) (by omega) hL h21 hO hD ((Only.refl _ _).alloc _) (by simp only [actK, upd, slK] <;> rfl) ?_
      exact ⟨w.heap.size, rfl, Nat.le_trans hB (hO.size), Blk.new' _ _ _ rfl rfl⟩
    · go_simp
      refine hK _ _ ?_
      refine KI.next (T := T) 17 (.pointer (some ⟨h, 4, none⟩)) (by omega) hL h21 hO hD (Only.refl _ _) (by simp only [actK, upd, slK] <;> rfl) ?_
      exact rfl
    · have e1 := hD 17 (hd ⟨17, .data⟩ (by simp) (by rfl))
      replace e1 : T 32 = .pointer (some ⟨h, 4, none⟩) := e1
      have k0 : w.cell? ⟨h, 4, none⟩ = some (.slice A4 n4 c4) := (hb2.only hO (by simp)).cell 4
      unfold actK
      go_simp
      refine hK _ _ ?_
      refine KI.next (T := T) 18 (.slice A4 n4 c4) (by omega) hL h21 hO hD (Only.refl _ _) (by simp only [actK, upd, slK, e1] <;> rfl) ?_
      exact rfl
    · have e1 := hD 16 (hd ⟨16, .data⟩ (by simp) (by rfl))
      have e2 := hD 18 (hd ⟨18, .data⟩ (by simp) (by rfl))
      obtain ⟨g, e1, hg, hbg⟩ := e1
      replace e1 : T 31 = .slice (some ⟨g, 0, none⟩) 0 0 := e1
      replace e2 : T 33 = .slice A4 n4 c4 := e2
      obtain ⟨v', w', hrun, hown, hO'⟩ := run_append_empty (P := Try.prog) (w := w) B 24 24 67 (.agg #[.int .i32 0, .int .i32 0]) 2 8 Try.underlying24 (by kernel_rfl) rfl (by omega) hbg hg c4 (r4.only hO (by simp)) (ses_one _) (by simp only [maxLen]; omega) (by omega) (Nat.le_trans hB hO.size)
      rw [if_pos (by simp [Region.wanted])]
      refine wp_append_run (.tmp 31) (.tmp 33) 24 24 (by rfl) (by exact e1) (by exact e2) hrun ?_
      refine hK _ _ ?_
      refine KI.next (T := T) 19 (v') (by omega) hL h21 hO hD hO' (by simp only [actK, upd, slK] <;> rfl) ?_
      exact hown
    · have e0 := hD 3 (hd ⟨3, .data⟩ (by simp) (by rfl))
      have e1 := hD 7 (hd ⟨7, .data⟩ (by simp) (by rfl))
      have e2 := hD 11 (hd ⟨11, .data⟩ (by simp) (by rfl))
      have e3 := hD 15 (hd ⟨15, .data⟩ (by simp) (by rfl))
      have e4 := hD 19 (hd ⟨19, .data⟩ (by simp) (by rfl))
      replace e0 : w.ownsRow B 9 1 (T 18) n0 (wds ws) := e0
      obtain ⟨B0, y0, t0, -⟩ := own_slice e0
      rw [t0] at e0
      replace e1 : w.ownsRow B 38 3 (T 22) n1 (mgs ms) := e1
      obtain ⟨B1, y1, t1, -⟩ := own_slice e1
      rw [t1] at e1
      replace e2 : w.ownsRow B 67 2 (T 26) n2 (ses a) := e2
      obtain ⟨B2, y2, t2, -⟩ := own_slice e2
      rw [t2] at e2
      replace e3 : w.ownsRow B 67 2 (T 30) n3 (ses b) := e3
      obtain ⟨B3, y3, t3, -⟩ := own_slice e3
      rw [t3] at e3
      replace e4 : w.ownsRow B 67 2 (T 34) n4 (ses d) := e4
      obtain ⟨B4, y4, t4, -⟩ := own_slice e4
      rw [t4] at e4
      unfold actK
      go_simp
      refine hK _ _ ?_
      refine KI.next (T := T) 20 (.agg #[.slice B0 n0 y0, .slice B1 n1 y1, .slice B2 n2 y2, .slice B3 n3 y3, .slice B4 n4 y4]) (by omega) hL h21 hO hD (Only.refl _ _) (by simp only [actK, upd, slK, t0, t1, t2, t3, t4] <;> rfl) ?_
      exact ⟨_, _, _, _, _, rfl, e0, e1, e2, e3, e4⟩
    · go_simp
      refine hK _ _ ?_
      refine KI.next (T := T) 21 (.pointer (some ⟨w.heap.size, 0, none⟩)) (by omega) hL h21 hO hD ((Only.refl _ _).alloc _) (by simp only [actK, upd, slK] <;> rfl) ?_
      exact ⟨w.heap.size, _, _, _, _, _, rfl, Nat.le_trans hB (hO.size), Blk.new' _ _ _ rfl rfl⟩
    · have e1 := hD 20 (hd ⟨20, .data⟩ (by simp) (by rfl))
      have e2 := hD 21 (hd ⟨21, .data⟩ (by simp) (by rfl))
      obtain ⟨u0, u1, u2, u3, u4, e1, o0, o1, o2, o3, o4⟩ := e1
      obtain ⟨g, z0, z1, z2, z3, z4, e2, hg, hbg⟩ := e2
      replace e1 : T 35 = .agg #[u0, u1, u2, u3, u4] := e1
      replace e2 : T 3 = .pointer (some ⟨g, 0, none⟩) := e2
      have y0 : w.cell? ⟨g, 0, none⟩ = some z0 := hbg.cell 0
      have y1 : w.cell? ⟨g, 1, none⟩ = some z1 := hbg.cell 1
      have y2 : w.cell? ⟨g, 2, none⟩ = some z2 := hbg.cell 2
      have y3 : w.cell? ⟨g, 3, none⟩ = some z3 := hbg.cell 3
      have y4 : w.cell? ⟨g, 4, none⟩ = some z4 := hbg.cell 4
      have f0 := hbg.frozen 0
      have f1 := hbg.frozen 1
      have f2 := hbg.frozen 2
      have f3 := hbg.frozen 3
      have f4 := hbg.frozen 4
      obtain ⟨B0, y0', rfl, -⟩ := own_slice o0
      obtain ⟨B1, y1', rfl, -⟩ := own_slice o1
      obtain ⟨B2, y2', rfl, -⟩ := own_slice o2
      obtain ⟨B3, y3', rfl, -⟩ := own_slice o3
      obtain ⟨B4, y4', rfl, -⟩ := own_slice o4
      have hg' : W2.heap.size ≤ g := by omega
      unfold actK
      go_simp
      refine hK _ _ ⟨T, by simp only [actK, e1, e2], ((((hO.setCell (.inr hg') _).setCell (.inr hg') _).setCell (.inr hg') _).setCell (.inr hg') _).setCell (.inr hg') _, .inr ⟨?_, ?_⟩⟩
      · intro j hj
        by_cases hj22 : j = 22
        · exact .inr hj22
        · refine .inl ?_
          have := lt23 hj
          rcases this with rfl | rfl | rfl | rfl | rfl | rfl | rfl | rfl | rfl | rfl | rfl | rfl | rfl | rfl | rfl | rfl | rfl | rfl | rfl | rfl | rfl | rfl | rfl <;> first | exact absurd rfl hj22 | exact hd ⟨_, .phase⟩ (by simp) (by rfl)
      · have hS := fun v0 v1 v2 v3 v4 => (((((Only.refl [g] w).setCell (p := ⟨g, 0, none⟩) (.inl (by simp)) v0).setCell (p := ⟨g, 1, none⟩) (.inl (by simp)) v1).setCell (p := ⟨g, 2, none⟩) (.inl (by simp)) v2).setCell (p := ⟨g, 3, none⟩) (.inl (by simp)) v3).setCell (p := ⟨g, 4, none⟩) (.inl (by simp)) v4
        exact ⟨g, _, _, _, _, _, e2, hg, ((((hbg.set 0 _).set 1 _).set 2 _).set 3 _).set 4 _, own_only o0 (hS _ _ _ _ _) (by intro k hk; have := own_type o0 hk hbg (by decide); simpa using Ne.symm this), own_only o1 (hS _ _ _ _ _) (by intro k hk; have := own_type o1 hk hbg (by decide); simpa using Ne.symm this), own_only o2 (hS _ _ _ _ _) (by intro k hk; have := own_type o2 hk hbg (by decide); simpa using Ne.symm this), own_only o3 (hS _ _ _ _ _) (by intro k hk; have := own_type o3 hk hbg (by decide); simpa using Ne.symm this), own_only o4 (hS _ _ _ _ _) (by intro k hk; have := own_type o4 hk hbg (by decide); simpa using Ne.symm this)⟩
  intro L x w hI hall
  obtain ⟨T, rfl, hO, ⟨h21, -⟩ | ⟨-, hD⟩⟩ := hI
  · exact absurd (hall 22 (by decide)) h21
  obtain ⟨g, u0, u1, u2, u3, u4, eT, hg, hbg, o0, o1, o2, o3, o4⟩ := hD
  obtain ⟨B0, y0, rfl, -⟩ := own_slice o0
  obtain ⟨B1, y1, rfl, -⟩ := own_slice o1
  obtain ⟨B2, y2, rfl, -⟩ := own_slice o2
  obtain ⟨B3, y3, rfl, -⟩ := own_slice o3
  obtain ⟨B4, y4, rfl, -⟩ := own_slice o4
  have x0 : w.cell? ⟨g, 0, none⟩ = some (.slice B0 n0 y0) := hbg.cell 0
  have x1 : w.cell? ⟨g, 1, none⟩ = some (.slice B1 n1 y1) := hbg.cell 1
  have x2 : w.cell? ⟨g, 2, none⟩ = some (.slice B2 n2 y2) := hbg.cell 2
  have x3 : w.cell? ⟨g, 3, none⟩ = some (.slice B3 n3 y3) := hbg.cell 3
  have x4 : w.cell? ⟨g, 4, none⟩ = some (.slice B4 n4 y4) := hbg.cell 4
  have hof := ofM_any w (.slice B0 n0 y0) (.slice B1 n1 y1) (.slice B2 n2 y2) (.slice B3 n3 y3) (.slice B4 n4 y4) ws ms a b d
    ⟨by rw [← N0.out]; exact own_rd o0, by rw [← N1.out]; exact own_rd o1, by rw [← N2.out]; exact own_rd o2, by rw [← N3.out]; exact own_rd o3, by rw [← N4.out]; exact own_rd o4⟩
    (by rw [← N0.out]; omega) (by rw [← N1.out]; omega) (by rw [← N2.out]; omega) (by rw [← N3.out]; omega) (by rw [← N4.out]; omega) Hws.out Hms.out
  have Hof := Lib.hid hof
  have HO2 := Lib.hid (hO2.trans hO)
  have Hd := Lib.hid (HR5.out.only (hO2.trans hO))
  have Hbh := Lib.hid (hb2.only hO (by simp))
  have Hhg := Lib.hid hbg
  have hhB : h < B := by have := hb2.lt; omega
  have hwB : W1.heap.size ≤ B := by have := hO2.size; omega
  clear hof hall r0 r1 r2 r3 r4 KS k0 hO hb2 hbg hO2
  simp only [actK, eT]
  go_wp2_with (fail)
  refine Hof.out.mono ?_
  rintro e W5 hpost
  rcases hpost.no with ⟨rfl, hO5⟩ | ⟨gm, baseM, rfl, hO5, hbM, -, hM, hms3⟩
  · clear hpost Hof x0 x1 x2 x3 x4
    go_wp2_with (fail)
    refine (known5_any W5).mono ?_
    rintro e W6 ⟨rfl, hO6⟩
    go_wp2_with (fail)
    go_ret
    exact ⟨rfl, HO.out.trans (HO2.out.trans (hO5.trans hO6))⟩
  clear hpost Hof
  have Ho0 := Lib.hid (own_only o0 hO5 (by simp))
  have Ho1 := Lib.hid (own_only o1 hO5 (by simp))
  have Ho2 := Lib.hid (own_only o2 hO5 (by simp))
  have Ho3 := Lib.hid (own_only o3 hO5 (by simp))
  have Ho4 := Lib.hid (own_only o4 hO5 (by simp))
  have lt0 : ∀ k, (Value.slice B0 n0 y0).ownBlock = some k → B ≤ k ∧ k < w.heap.size := fun k hk => own_lt o0 hk
  have lt1 : ∀ k, (Value.slice B1 n1 y1).ownBlock = some k → B ≤ k ∧ k < w.heap.size := fun k hk => own_lt o1 hk
  have lt2 : ∀ k, (Value.slice B2 n2 y2).ownBlock = some k → B ≤ k ∧ k < w.heap.size := fun k hk => own_lt o2 hk
  have lt3 : ∀ k, (Value.slice B3 n3 y3).ownBlock = some k → B ≤ k ∧ k < w.heap.size := fun k hk => own_lt o3 hk
  have lt4 : ∀ k, (Value.slice B4 n4 y4).ownBlock = some k → B ≤ k ∧ k < w.heap.size := fun k hk => own_lt o4 hk
  obtain ⟨Zs, hZs⟩ : ∃ Z, Z = (Value.slice B0 n0 y0).ownBlock.toList ++ ((Value.slice B1 n1 y1).ownBlock.toList ++ ((Value.slice B2 n2 y2).ownBlock.toList ++ ((Value.slice B3 n3 y3).ownBlock.toList ++ (Value.slice B4 n4 y4).ownBlock.toList))) := ⟨_, rfl⟩
  have hZb : ∀ x ∈ Zs, B ≤ x ∧ x < w.heap.size := by
    intro x hx
    rw [hZs] at hx
    simp only [List.mem_append, Option.mem_toList] at hx
    rcases hx with hx | hx | hx | hx | hx
    · exact lt0 x hx
    · exact lt1 x hx
    · exact lt2 x hx
    · exact lt3 x hx
    · exact lt4 x hx
  have hg5 := Hhg.out.only hO5 (by simp)
  replace x0 : W5.cell? ⟨g, 0, none⟩ = some (.slice B0 n0 y0) := hg5.cell 0
  replace x1 : W5.cell? ⟨g, 1, none⟩ = some (.slice B1 n1 y1) := hg5.cell 1
  replace x2 : W5.cell? ⟨g, 2, none⟩ = some (.slice B2 n2 y2) := hg5.cell 2
  replace x3 : W5.cell? ⟨g, 3, none⟩ = some (.slice B3 n3 y3) := hg5.cell 3
  replace x4 : W5.cell? ⟨g, 4, none⟩ = some (.slice B4 n4 y4) := hg5.cell 4
  have HZs := Lib.hid hZs
  clear hg5 o0 o1 o2 o3 o4 lt0 lt1 lt2 lt3 lt4 hZs
  go_wp2_with (fail)
  refine (spoil_any W5 B _ _ _ _ _ n0 n1 n2 n3 n4 _ _ _ _ _ Ho0.out Ho1.out Ho2.out Ho3.out Ho4.out).mono ?_
  rintro e W6 ⟨rfl, hO6⟩
  rw [← HZs.out] at hO6
  have hM6 := hM.only hO6 (fun x hx => by have := (hZb x hx).2; omega)
  have hO16 : Only [] W1 W6 := (HO2.out.trans hO5).trans' hO6 (fun x hx => .inr (by have := (hZb x hx).1; omega))
  clear x0 x1 x2 x3 x4 hM hO5 hbM Ho0 Ho1 Ho2 Ho3 Ho4 hZb HZs Hhg hO6 Hd Hbh HO2 hg hhB hwB
  have HM := Lib.hid hM6
  have HO16 := Lib.hid hO16
  clear hO16
  obtain ⟨g1, hg1⟩ : ∃ g, g = W6.heap.size := ⟨_, rfl⟩
  obtain ⟨W7, hW7⟩ : ∃ W, W = ((W6.alloc (.cells #[.slice none 0 0, .slice none 0 0, .int .i64 0, .bool false] 55)).alloc (.cells #[.slice none 0 0, .slice none 0 0, .int .i64 0, .bool false] 58)).alloc (.cells #[.slice none 0 0, .slice none 0 0, .int .i64 0, .bool false] 61) := ⟨_, rfl⟩
  have hb1 : Blk W7 g1 55 [.slice none 0 0, .slice none 0 0, .int .i64 0, .bool false] := by rw [hW7]; exact ((Blk.new' _ _ _ hg1.symm rfl).alloc _).alloc _
  have hb2 : Blk W7 (g1 + 1) 58 [.slice none 0 0, .slice none 0 0, .int .i64 0, .bool false] := by rw [hW7]; exact (Blk.new' _ _ _ (by simp; omega) rfl).alloc _
  have hb3 : Blk W7 (g1 + 2) 61 [.slice none 0 0, .slice none 0 0, .int .i64 0, .bool false] := by rw [hW7]; exact Blk.new' _ _ _ (by simp; omega) rfl
  have hO67 : Only [] W6 W7 := by rw [hW7]; exact (((Only.refl _ _).alloc _).alloc _).alloc _
  have k1 := KbW.new (base := g1) hb1 (by omega)
  have k2 := KbM.new (base := g1) hb2 (by omega)
  have k3 := KbS.new (base := g1) hb3 (by omega)
  have Hg1 := Lib.hid hg1
  have HW7 := Lib.hid hW7
  have hg1s : W6.heap.size ≤ g1 := by omega
  clear hg1 hW7 hb1 hb2 hb3 hM6
  go_wp2_with (fail)
  rw [← Hg1.out, ← HW7.out]
  go_loopw [10] (fun i wr => ∃ (k : Nat) (Z1 Z2 Z3 : List Nat), i = .int .i64 (k : Int) ∧ k ≤ 2 ∧ KbW wr g1 g1 Z1 k ∧ KbM wr g1 (g1 + 1) Z2 k ∧ KbS wr g1 (g1 + 2) Z3 (3 * k) ∧ (∀ x ∈ Z1, x ∉ Z2) ∧ (∀ x ∈ Z1, x ∉ Z3) ∧ (∀ x ∈ Z2, x ∉ Z3) ∧ Only [] W6 wr) (fun i _ => 2 - (intOf i).toNat)
  case atStart => exact ⟨0, _, _, _, rfl, by omega, k1, k2, k3, by simp, by simp, by simp, hO67⟩
  case round =>
    clear k1 k2 k3 hO67
    obtain ⟨k, Z1, Z2, Z3, rfl, hk, k1, k2, k3, d12, d13, d23, hOr⟩ := hrel
    by_cases hlt : k < 2
    · have hz1 : ∀ x ∈ Z1, x < wr.heap.size := fun x hx => (k1.2 x hx).2
      have hz2 : ∀ x ∈ Z2, x < wr.heap.size := fun x hx => (k2.2 x hx).2
      have hz3 : ∀ x ∈ Z3, x < wr.heap.size := fun x hx => (k3.2 x hx).2
      have hgr : g1 ≤ wr.heap.size := by obtain ⟨⟨bl, L, lv, wv, held, ws, hB, _⟩, _⟩ := k1; have := hB.blk.lt; omega
      obtain ⟨s0', s1', s2', s3', s4'⟩ := HM.out.small
      have K1 := Lib.hid k1
      have K2 := Lib.hid k2
      have K3 := Lib.hid k3
      have Hor := Lib.hid hOr
      clear k1 k2 k3 hOr
      go_wp2_with (fail)
      refine (data_any wr baseM gm ws ms a b d _ _ _ (HM.out.only0 Hor.out)).mono ?_
      rintro e W8 ⟨u0, u1, u2, u3, u4, rfl, hown, hO8⟩
      obtain ⟨U0, p0, rfl, -⟩ := own_slice hown.o0
      obtain ⟨U1, p1, rfl, -⟩ := own_slice hown.o1
      obtain ⟨U2, p2, rfl, -⟩ := own_slice hown.o2
      obtain ⟨U3, p3, rfl, -⟩ := own_slice hown.o3
      obtain ⟨U4, p4, rfl, -⟩ := own_slice hown.o4
      rw [← N0.out] at s0'
      rw [← N1.out] at s1'
      rw [← N2.out] at s2'
      rw [← N3.out] at s3'
      rw [← N4.out] at s4'
      rw [← N0.out, ← N1.out, ← N2.out, ← N3.out, ← N4.out]
      have r0 : W8.ownsRow wr.heap.size 9 1 (.slice U0 n0 p0) n0 (wds ws) := by rw [N0.out]; exact hown.o0
      have l0 : ∀ k, (Value.slice U0 n0 p0).ownBlock = some k → wr.heap.size ≤ k ∧ k < W8.heap.size := fun k hk => own_lt r0 hk
      have r1 : W8.ownsRow wr.heap.size 38 3 (.slice U1 n1 p1) n1 (mgs ms) := by rw [N1.out]; exact hown.o1
      have l1 : ∀ k, (Value.slice U1 n1 p1).ownBlock = some k → wr.heap.size ≤ k ∧ k < W8.heap.size := fun k hk => own_lt r1 hk
      have r2 : W8.ownsRow wr.heap.size 67 2 (.slice U2 n2 p2) n2 (ses a) := by rw [N2.out]; exact hown.o2
      have l2 : ∀ k, (Value.slice U2 n2 p2).ownBlock = some k → wr.heap.size ≤ k ∧ k < W8.heap.size := fun k hk => own_lt r2 hk
      have r3 : W8.ownsRow wr.heap.size 67 2 (.slice U3 n3 p3) n3 (ses b) := by rw [N3.out]; exact hown.o3
      have l3 : ∀ k, (Value.slice U3 n3 p3).ownBlock = some k → wr.heap.size ≤ k ∧ k < W8.heap.size := fun k hk => own_lt r3 hk
      have r4 : W8.ownsRow wr.heap.size 67 2 (.slice U4 n4 p4) n4 (ses d) := by rw [N4.out]; exact hown.o4
      have l4 : ∀ k, (Value.slice U4 n4 p4).ownBlock = some k → wr.heap.size ≤ k ∧ k < W8.heap.size := fun k hk => own_lt r4 hk
      have q01 : ∀ k, (Value.slice U0 n0 p0).ownBlock = some k → (Value.slice U1 n1 p1).ownBlock ≠ some k := fun k h1 h2 => by obtain ⟨cs, hb⟩ := own_blk r0 h1; exact own_type r1 h2 hb (by decide) rfl
      have q02 : ∀ k, (Value.slice U0 n0 p0).ownBlock = some k → (Value.slice U2 n2 p2).ownBlock ≠ some k := fun k h1 h2 => by obtain ⟨cs, hb⟩ := own_blk r0 h1; exact own_type r2 h2 hb (by decide) rfl
      have q03 : ∀ k, (Value.slice U0 n0 p0).ownBlock = some k → (Value.slice U3 n3 p3).ownBlock ≠ some k := fun k h1 h2 => by obtain ⟨cs, hb⟩ := own_blk r0 h1; exact own_type r3 h2 hb (by decide) rfl
      have q04 : ∀ k, (Value.slice U0 n0 p0).ownBlock = some k → (Value.slice U4 n4 p4).ownBlock ≠ some k := fun k h1 h2 => by obtain ⟨cs, hb⟩ := own_blk r0 h1; exact own_type r4 h2 hb (by decide) rfl
      have q12 : ∀ k, (Value.slice U1 n1 p1).ownBlock = some k → (Value.slice U2 n2 p2).ownBlock ≠ some k := fun k h1 h2 => by obtain ⟨cs, hb⟩ := own_blk r1 h1; exact own_type r2 h2 hb (by decide) rfl
      have q13 : ∀ k, (Value.slice U1 n1 p1).ownBlock = some k → (Value.slice U3 n3 p3).ownBlock ≠ some k := fun k h1 h2 => by obtain ⟨cs, hb⟩ := own_blk r1 h1; exact own_type r3 h2 hb (by decide) rfl
      have q14 : ∀ k, (Value.slice U1 n1 p1).ownBlock = some k → (Value.slice U4 n4 p4).ownBlock ≠ some k := fun k h1 h2 => by obtain ⟨cs, hb⟩ := own_blk r1 h1; exact own_type r4 h2 hb (by decide) rfl
      have q23 : ∀ k, (Value.slice U2 n2 p2).ownBlock = some k → (Value.slice U3 n3 p3).ownBlock ≠ some k := fun k h1 h2 => by have := hown.n23 k (by rw [← N2.out]; exact h1); rw [← N3.out] at this; exact this h2
      have q24 : ∀ k, (Value.slice U2 n2 p2).ownBlock = some k → (Value.slice U4 n4 p4).ownBlock ≠ some k := fun k h1 h2 => by have := hown.n24 k (by rw [← N2.out]; exact h1); rw [← N4.out] at this; exact this h2
      have q34 : ∀ k, (Value.slice U3 n3 p3).ownBlock = some k → (Value.slice U4 n4 p4).ownBlock ≠ some k := fun k h1 h2 => by have := hown.n34 k (by rw [← N3.out]; exact h1); rw [← N4.out] at this; exact this h2
      obtain ⟨bx, hbx⟩ : ∃ h, h = W8.heap.size := ⟨_, rfl⟩
      obtain ⟨W9, hW9⟩ : ∃ W, W = W8.alloc (.cells #[.slice U0 n0 p0, .slice U1 n1 p1, .slice U2 n2 p2, .slice U3 n3 p3, .slice U4 n4 p4] 26) := ⟨_, rfl⟩
      have hb9 : Blk W9 bx 26 [.slice U0 n0 p0, .slice U1 n1 p1, .slice U2 n2 p2, .slice U3 n3 p3, .slice U4 n4 p4] := by rw [hW9]; exact Blk.new' _ _ _ hbx.symm rfl
      have hO89 : Only [] W8 W9 := by rw [hW9]; exact (Only.refl _ _).alloc _
      have hsr : wr.heap.size ≤ W8.heap.size := hO8.size
      have hs9 : W8.heap.size < W9.heap.size := by have := hb9.lt; omega
      have hO9 := hO8.trans hO89
      have hsm := same5_any W9 _ _ _ _ _ _ _ _ _ _ ws ms a b d (hown.only0 hO89).rd (HR5.out.only ((HO16.out.trans Hor.out).trans hO9)) (by rw [← N0.out]; omega) (by rw [← N1.out]; omega) (by rw [← N2.out]; omega) (by rw [← N3.out]; omega) (by rw [← N4.out]; omega)
      rw [← N0.out, ← N1.out, ← N2.out, ← N3.out, ← N4.out] at hsm
      have Hsm := Lib.hid hsm
      have x0 : W9.cell? ⟨bx, 0, none⟩ = some (.slice U0 n0 p0) := hb9.cell 0
      have x1 : W9.cell? ⟨bx, 1, none⟩ = some (.slice U1 n1 p1) := hb9.cell 1
      have x2 : W9.cell? ⟨bx, 2, none⟩ = some (.slice U2 n2 p2) := hb9.cell 2
      have x3 : W9.cell? ⟨bx, 3, none⟩ = some (.slice U3 n3 p3) := hb9.cell 3
      have x4 : W9.cell? ⟨bx, 4, none⟩ = some (.slice U4 n4 p4) := hb9.cell 4
      have hbh9 := HB.out.only ((HO16.out.trans Hor.out).trans hO9) (by simp)
      have k0 : W9.cell? ⟨h, 0, none⟩ = some (.slice A0 n0 c0) := hbh9.cell 0
      have k1 : W9.cell? ⟨h, 1, none⟩ = some (.slice A1 n1 c1) := hbh9.cell 1
      have k2 : W9.cell? ⟨h, 2, none⟩ = some (.slice A2 n2 c2) := hbh9.cell 2
      have k3 : W9.cell? ⟨h, 3, none⟩ = some (.slice A3 n3 c3) := hbh9.cell 3
      have k4 : W9.cell? ⟨h, 4, none⟩ = some (.slice A4 n4 c4) := hbh9.cell 4
      have Hbx := Lib.hid hbx
      have HW9 := Lib.hid hW9
      have Hown := Lib.hid hown
      clear hW9 hbx hsm hown hbh9
      go_upto_region 15 with (fail)
      rw [← Hbx.out, ← HW9.out]
      go_wp2_with (fail)
      refine Hsm.out.mono ?_
      rintro e W10 ⟨rfl, hO10⟩
      clear x0 x1 x2 x3 x4 k0 k1 k2 k3 k4
      have hb10 := hb9.only hO10 (by simp)
      have x0 : W10.cell? ⟨bx, 0, none⟩ = some (.slice U0 n0 p0) := hb10.cell 0
      go_wp2_with (fail)
      have hOr10 : Only [] W6 W10 := (Hor.out.trans hO9).trans hO10
      have hs10 : W9.heap.size ≤ W10.heap.size := hO10.size
      have c1 := K1.out.only0 (hO9.trans hO10)
      have c2 := K2.out.only0 (hO9.trans hO10)
      have c3 := K3.out.only0 (hO9.trans hO10)
      have hw10 : Only [] W8 W10 := hO89.trans hO10
      replace r0 := own_only r0 hw10 (by simp)
      replace r1 := own_only r1 hw10 (by simp)
      replace r2 := own_only r2 hw10 (by simp)
      replace r3 := own_only r3 hw10 (by simp)
      replace r4 := own_only r4 hw10 (by simp)
      have lx : W8.heap.size ≤ bx ∧ bx < W9.heap.size := ⟨by rw [Hbx.out]; exact Nat.le_refl _, hb9.lt⟩
      have Hor10 := Lib.hid hOr10
      have hz1' : ∀ x ∈ Z1, g1 ≤ x := fun x hx => (K1.out.2 x hx).1
      have hz2' : ∀ x ∈ Z2, g1 ≤ x := fun x hx => (K2.out.2 x hx).1
      have hz3' : ∀ x ∈ Z3, g1 ≤ x := fun x hx => (K3.out.2 x hx).1
      clear hOr10 hO9 hO10 hO89 hb9 hw10 hO8
      refine (kbKeepW c1 (by omega) U0 n0 p0 ws (own_base r0 hgr) (by intro k hk hx; grind) (by omega)).mono ?_
      rintro e W11 ⟨rfl, ZW0, d0, hO11, e0⟩
      replace c2 := c2.only hO11 (by intro x hx hx2; grind)
      replace c3 := c3.only hO11 (by intro x hx hx2; grind)
      replace c1 := d0
      replace r1 := own_only r1 hO11 (by intro k hk hx; grind)
      replace r2 := own_only r2 hO11 (by intro k hk hx; grind)
      replace r3 := own_only r3 hO11 (by intro k hk hx; grind)
      replace r4 := own_only r4 hO11 (by intro k hk hx; grind)
      have hb11 := hb10.only hO11 (by intro hx; grind)
      have hs11 : W10.heap.size ≤ W11.heap.size := hO11.size
      have h0b : ∀ x ∈ ZW0, x < W11.heap.size := fun x hx => (c1.2 x hx).2
      have h0c : ∀ x ∈ ZW0, g1 ≤ x := fun x hx => (c1.2 x hx).1
      have hor11 : Only [] W6 W11 := Hor10.out.trans' hO11 (by intro x hx; grind)
      have Hor11 := Lib.hid hor11
      clear hor11 hO11
      clear x0
      have x1 : W11.cell? ⟨bx, 1, none⟩ = some (.slice U1 n1 p1) := hb11.cell 1
      go_wp2_with (fail)
      refine (kbKeepM c2 (by omega) U1 n1 p1 ms (own_base r1 hgr) (by intro k hk hx; grind) (by omega)).mono ?_
      rintro e W12 ⟨rfl, ZM1, d1, hO12, e1⟩
      replace c1 := c1.only hO12 (by intro x hx hx2; grind)
      replace c3 := c3.only hO12 (by intro x hx hx2; grind)
      replace c2 := d1
      replace r2 := own_only r2 hO12 (by intro k hk hx; grind)
      replace r3 := own_only r3 hO12 (by intro k hk hx; grind)
      replace r4 := own_only r4 hO12 (by intro k hk hx; grind)
      have hb12 := hb11.only hO12 (by intro hx; grind)
      have hs12 : W11.heap.size ≤ W12.heap.size := hO12.size
      have h1b : ∀ x ∈ ZM1, x < W12.heap.size := fun x hx => (c2.2 x hx).2
      have h1c : ∀ x ∈ ZM1, g1 ≤ x := fun x hx => (c2.2 x hx).1
      have hor12 : Only [] W6 W12 := Hor11.out.trans' hO12 (by intro x hx; grind)
      have Hor12 := Lib.hid hor12
      clear hor12 hO12
      clear x1
      have x2 : W12.cell? ⟨bx, 2, none⟩ = some (.slice U2 n2 p2) := hb12.cell 2
      go_wp2_with (fail)
      refine (kbKeepS c3 (by omega) U2 n2 p2 a (own_base r2 hgr) (by intro k hk hx; grind) (by omega)).mono ?_
      rintro e W13 ⟨rfl, ZS2, d2, hO13, e2⟩
      replace c1 := c1.only hO13 (by intro x hx hx2; grind)
      replace c2 := c2.only hO13 (by intro x hx hx2; grind)
      replace c3 := d2
      replace r3 := own_only r3 hO13 (by intro k hk hx; grind)
      replace r4 := own_only r4 hO13 (by intro k hk hx; grind)
      have hb13 := hb12.only hO13 (by intro hx; grind)
      have hs13 : W12.heap.size ≤ W13.heap.size := hO13.size
      have h2b : ∀ x ∈ ZS2, x < W13.heap.size := fun x hx => (c3.2 x hx).2
      have h2c : ∀ x ∈ ZS2, g1 ≤ x := fun x hx => (c3.2 x hx).1
      have hor13 : Only [] W6 W13 := Hor12.out.trans' hO13 (by intro x hx; grind)
      have Hor13 := Lib.hid hor13
      clear hor13 hO13
      clear x2
      have x3 : W13.cell? ⟨bx, 3, none⟩ = some (.slice U3 n3 p3) := hb13.cell 3
      go_wp2_with (fail)
      refine (kbKeepS c3 (by omega) U3 n3 p3 b (own_base r3 hgr) (by intro k hk hx; grind) (by omega)).mono ?_
      rintro e W14 ⟨rfl, ZS3, d3, hO14, e3⟩
      replace c1 := c1.only hO14 (by intro x hx hx2; grind)
      replace c2 := c2.only hO14 (by intro x hx hx2; grind)
      replace c3 := d3
      replace r4 := own_only r4 hO14 (by intro k hk hx; grind)
      have hb14 := hb13.only hO14 (by intro hx; grind)
      have hs14 : W13.heap.size ≤ W14.heap.size := hO14.size
      have h3b : ∀ x ∈ ZS3, x < W14.heap.size := fun x hx => (c3.2 x hx).2
      have h3c : ∀ x ∈ ZS3, g1 ≤ x := fun x hx => (c3.2 x hx).1
      have hor14 : Only [] W6 W14 := Hor13.out.trans' hO14 (by intro x hx; grind)
      have Hor14 := Lib.hid hor14
      clear hor14 hO14
      clear x3
      have x4 : W14.cell? ⟨bx, 4, none⟩ = some (.slice U4 n4 p4) := hb14.cell 4
      go_wp2_with (fail)
      refine (kbKeepS c3 (by omega) U4 n4 p4 d (own_base r4 hgr) (by intro k hk hx; grind) (by omega)).mono ?_
      rintro e W15 ⟨rfl, ZS4, d4, hO15, e4⟩
      replace e3 : ∀ x ∈ ZS3, x ∈ Z3 ∨ (Value.slice U2 n2 p2).ownBlock = some x ∨ (Value.slice U3 n3 p3).ownBlock = some x ∨ W12.heap.size ≤ x := by
        intro x hx
        rcases e3 x hx with h1 | h1 | h1
        · rcases e2 x h1 with h2 | h2 | h2
          · exact .inl h2
          · exact .inr (.inl h2)
          · exact .inr (.inr (.inr h2))
        · exact .inr (.inr (.inl h1))
        · exact .inr (.inr (.inr (by omega)))
      clear e2
      replace c1 := c1.only hO15 (by intro x hx hx2; grind)
      replace c2 := c2.only hO15 (by intro x hx hx2; grind)
      replace c3 := d4
      have hb15 := hb14.only hO15 (by intro hx; grind)
      have hs15 : W14.heap.size ≤ W15.heap.size := hO15.size
      have h4b : ∀ x ∈ ZS4, x < W15.heap.size := fun x hx => (c3.2 x hx).2
      have h4c : ∀ x ∈ ZS4, g1 ≤ x := fun x hx => (c3.2 x hx).1
      have hor15 : Only [] W6 W15 := Hor14.out.trans' hO15 (by intro x hx; grind)
      have Hor15 := Lib.hid hor15
      clear hor15 hO15
      replace e4 : ∀ x ∈ ZS4, x ∈ Z3 ∨ (Value.slice U2 n2 p2).ownBlock = some x ∨ (Value.slice U3 n3 p3).ownBlock = some x ∨ (Value.slice U4 n4 p4).ownBlock = some x ∨ W12.heap.size ≤ x := by
        intro x hx
        rcases e4 x hx with h1 | h1 | h1
        · rcases e3 x h1 with h2 | h2 | h2 | h2
          · exact .inl h2
          · exact .inr (.inl h2)
          · exact .inr (.inr (.inl h2))
          · exact .inr (.inr (.inr (.inr h2)))
        · exact .inr (.inr (.inr (.inl h1)))
        · exact .inr (.inr (.inr (.inr (by omega))))
      clear e3
      have y12 : ∀ x ∈ ZW0, x ∉ ZM1 := by intro x h1 h2; grind
      have y13 : ∀ x ∈ ZW0, x ∉ ZS4 := by intro x h1 h2; grind
      have y23 : ∀ x ∈ ZM1, x ∉ ZS4 := by intro x h1 h2; grind
      clear q01 q02 q03 q04 q12 q13 q14 q23 q24 q34
      clear hz1 hz2 hz3 hz1' hz2' hz3' d12 d13 d23 e0 e1 e4
      go_wp2_with (fail)
      go_roundw
      case rel => exact ⟨k + 1, _, _, _, by go_num, by omega, c1, c2, c3, y12, y13, y23, Hor15.out⟩
      case measure => simp [intOf]; omega
    · obtain ⟨ZZ, hZZ⟩ : ∃ Z, Z = Z1 ++ (Z2 ++ Z3) := ⟨_, rfl⟩
      have hzz : ∀ x ∈ ZZ, g1 ≤ x := by
        intro x hx
        rw [hZZ] at hx
        simp only [List.mem_append] at hx
        rcases hx with hx | hx | hx
        · exact (k1.2 x hx).1
        · exact (k2.2 x hx).1
        · exact (k3.2 x hx).1
      have m1 : ∀ x ∈ Z1, x ∈ ZZ := by intro x hx; rw [hZZ]; simp [hx]
      have m2 : ∀ x ∈ Z2, x ∈ ZZ := by intro x hx; rw [hZZ]; simp [hx]
      have m3 : ∀ x ∈ Z3, x ∈ ZZ := by intro x hx; rw [hZZ]; simp [hx]
      have hbhr := HB.out.only (HO16.out.trans hOr) (by simp)
      have hhlt : h < g1 := by have h1 := HB.out.lt; have h2 := HO16.out.size; have h3 := Hg1.out; omega
      have kS : ∀ W, Only ZZ wr W → (W.cell? ⟨h, 0, none⟩ = some (.slice A0 n0 c0) ∧ W.cell? ⟨h, 1, none⟩ = some (.slice A1 n1 c1) ∧ W.cell? ⟨h, 2, none⟩ = some (.slice A2 n2 c2) ∧ W.cell? ⟨h, 3, none⟩ = some (.slice A3 n3 c3) ∧ W.cell? ⟨h, 4, none⟩ = some (.slice A4 n4 c4)) := by
        intro W hW
        have k := hbhr.only hW (fun hx => by have := hzz h hx; omega)
        exact ⟨k.cell 0, k.cell 1, k.cell 2, k.cell 3, k.cell 4⟩
      have KS := Lib.hid kS
      have s0' := HM.out.small
      have hfin : ∀ W, Only ZZ wr W → Only [] W6 W := fun W hW => hOr.trans' hW (fun x hx => .inr (by have := hzz x hx; omega))
      have Hfin := Lib.hid hfin
      have a1 : ∀ W, Only [] wr W → Calls Try.prog 25 #[.pointer (some ⟨g1, 0, none⟩), .func (.func 26) #[] #[]] W fun e w' => e = .returned (.bool true) ∧ Only ZZ wr w' ∧ KbM w' g1 (g1 + 1) Z2 k ∧ KbS w' g1 (g1 + 2) Z3 (3 * k) := by
        intro W hW
        refine (kbApartW (k1.only0 hW) (by omega)).mono ?_
        rintro e w1 ⟨rfl, hO⟩
        exact ⟨rfl, (hW.mono (by simp)).trans (hO.mono fun x hx => .inl (m1 x hx)), (k2.only0 hW).only hO d12, (k3.only0 hW).only hO d13⟩
      have A_1 := Lib.hid a1
      have M2 := Lib.hid m2
      have M3 := Lib.hid m3
      have D23 := Lib.hid d23
      have Hor := Lib.hid hOr
      clear k1 k2 k3 kS m1 m2 m3 hZZ hfin a1 hbhr d12 d13 d23 hzz hOr
      obtain ⟨j0, j1, j2, j3, j4⟩ := KS.out _ (.refl _ _)
      go_upto_region 22 with (fail)
      go_region_held3 (fun W => (W.cell? ⟨h, 0, none⟩ = some (.slice A0 n0 c0) ∧ W.cell? ⟨h, 1, none⟩ = some (.slice A1 n1 c1) ∧ W.cell? ⟨h, 2, none⟩ = some (.slice A2 n2 c2) ∧ W.cell? ⟨h, 3, none⟩ = some (.slice A3 n3 c3) ∧ W.cell? ⟨h, 4, none⟩ = some (.slice A4 n4 c4)) ∧ Only ZZ wr W)
        (first | exact ⟨KS.out _ ((Only.refl _ _).drew), (Only.refl _ _).drew⟩ | exact ⟨KS.out _ (by assumption), (by assumption)⟩)
        (first
          | (go_at_call 25
             refine (A_1.out _ (by first | exact (Only.refl _ _).drew | exact .refl _ _)).mono ?_
             rintro e V1 ⟨rfl, hF1, q2, q3⟩
             clear A_1)
          | (go_at_call 27
             refine (kbApartM q2 (by omega)).mono ?_
             rintro e V2 ⟨rfl, hF2⟩
             replace q3 := q3.only hF2 D23.out
             replace hF2 := hF1.trans (hF2.mono fun x hx => .inl (M2.out x hx))
             clear hF1 q2)
          | (go_at_call 29
             refine (kbApartS q3 (by omega)).mono ?_
             rintro e V3 ⟨rfl, hF3⟩
             replace hF3 := hF2.trans (hF3.mono fun x hx => .inl (M3.out x hx))
             clear hF2 q3)
          | (go_at_call 16
             obtain ⟨-, hF⟩ := (by assumption : _ ∧ Only ZZ wr _)
             refine (data_any _ baseM gm ws ms a b d _ _ _ (HM.out.only0 (Hfin.out _ hF))).mono ?_
             rintro e V4 ⟨u0, u1, u2, u3, u4, rfl, hown, hF4⟩
             have H5 := Lib.hid hown.rd
             replace hF4 := hF.trans0 hF4
             clear hown hF)
          | (go_at_call 21
             obtain ⟨-, hF⟩ := (by assumption : _ ∧ Only ZZ wr _)
             refine (same5_any _ _ _ _ _ _ _ _ _ _ _ ws ms a b d H5.out (HR5.out.only (HO16.out.trans (Hfin.out _ hF))) (by omega) (by omega) (by omega) (by omega) (by omega)).mono ?_
             rintro e V5 ⟨rfl, hF5⟩
             replace hF5 := hF.trans0 hF5
             clear hF)
          | (go_at_call 12
             obtain ⟨-, hF⟩ := (by assumption : _ ∧ Only ZZ wr _)
             refine (known5_any _).mono ?_
             rintro e V6 ⟨rfl, hF6⟩
             replace hF6 := hF.trans0 hF6
             clear hF))
      all_goals
        go_wp2_with (fail)
        go_ret
        exact ⟨rfl, HO.out.trans (HO16.out.trans (Hfin.out _ (by assumption)))⟩
end Go.Proofs.Ytfnhdkabfkjodaa
