/- Several texts in one: model.Bare; the law's fault.; tesserakeep: Same, Handed, Intact. -/
import Derived.Test.YtgohinklnglgeaaDoorPk11
import Derived.Test.YtgohinklnglgeaaDoorPk8
import Derived.StillTailTactics
set_option linter.unusedVariables false
set_option linter.unusedSimpArgs false
namespace Go.Proofs.YtgohinklnglgeaaDoor
open Go.RowKit

set_option maxRecDepth 100000 in
set_option maxHeartbeats 4000000 in
theorem bare_any (w : World) (A2 A3 A4 : Option Addr) (c2 c3 c4 : Nat) (a b d : List Sp) (h2 : a.length ≤ c2) (h3 : b.length ≤ c3) (h4 : d.length ≤ c4) (r2 : Rd w w.heap.size 2 A2 a.length (ses a)) (r3 : Rd w w.heap.size 2 A3 b.length (ses b)) (r4 : Rd w w.heap.size 2 A4 d.length (ses d))
    (s2 : a.length ≤ 17592186043904) (s3 : b.length ≤ 17592186043904) (s4 : d.length ≤ 17592186043904) :
    Calls Tryd.prog 28 #[.slice A2 a.length c2, .slice A3 b.length c3, .slice A4 d.length c4] w (NewPost w [] [] a b d) := by
  obtain ⟨h, hh⟩ : ∃ h, h = w.heap.size := ⟨_, rfl⟩
  obtain ⟨W1, hW1⟩ : ∃ W1, W1 = w.alloc (.cells #[.int .i64 0, .int .i64 0, .int .i64 0] 66) := ⟨_, rfl⟩
  have hb : Blk W1 h 66 [.int .i64 0, .int .i64 0, .int .i64 0] := by rw [hW1]; exact Blk.new' _ _ _ hh.symm rfl
  have hO : Only [] w W1 := by rw [hW1]; exact (Only.refl _ _).alloc _
  have hR : Rd5 W1 (.slice none 0 0) (.slice none 0 0) (.slice A2 a.length c2) (.slice A3 b.length c3) (.slice A4 d.length c4) [] [] a b d :=
    Rd5.only ⟨⟨_, _, rfl, Nat.le_refl _, Rd.zero _ _ _ _⟩, ⟨_, _, rfl, Nat.le_refl _, Rd.zero _ _ _ _⟩, ⟨_, _, rfl, h2, r2⟩, ⟨_, _, rfl, h3, r3⟩, ⟨_, _, rfl, h4, r4⟩⟩ hO
  have hnew := newM_any W1 _ _ _ _ _ [] [] a b d hR (by simp) (by simp) s2 s3 s4 (by simp) (by simp)
  unfold NewPost at hnew
  obtain ⟨F, hF⟩ : ∃ F, F = faultW [] [] a b d := ⟨_, rfl⟩
  rw [← hF] at hnew
  have Hnew := Lib.hid hnew
  have HF := Lib.hid hF
  have Hh := Lib.hid hh
  have HW := Lib.hid hW1
  have Hb := Lib.hid hb
  have HO := Lib.hid hO
  obtain ⟨n2, hn2⟩ : ∃ n, n = a.length := ⟨_, rfl⟩
  obtain ⟨n3, hn3⟩ : ∃ n, n = b.length := ⟨_, rfl⟩
  obtain ⟨n4, hn4⟩ : ∃ n, n = d.length := ⟨_, rfl⟩
  rw [← hn2, ← hn3, ← hn4] at Hnew ⊢
  have hwh : w.heap.size ≤ h := by omega
  have hz1 : W1.heap.size = h + 1 := by rw [hW1]; simp; omega
  clear hnew hF hh hW1 hb hO hR h2 h3 h4 r2 r3 r4 s2 s3 s4 hn2 hn3 hn4
  go_enter Tryd.func28, Tryd.ntmps28
  go_upto_region 1 with (fail)
  rw [← Hh.out, ← HW.out]
  go_wp2_with (fail)
  refine Hnew.out.mono ?_
  rintro e W2 ⟨v, rfl, hO2, hcase⟩
  obtain ⟨f1, f2, f3⟩ := F
  simp only at hcase
  simp only
  have Hcase := Lib.hid hcase
  have hb2 := Hb.out.only hO2 (by simp)
  have q0 : W2.cell? ⟨h, 0, none⟩ = some (.int .i64 0) := hb2.cell 0
  have q1 : W2.cell? ⟨h, 1, none⟩ = some (.int .i64 0) := hb2.cell 1
  have q2 : W2.cell? ⟨h, 2, none⟩ = some (.int .i64 0) := hb2.cell 2
  have z0 := hb2.frozen 0
  have z1 := hb2.frozen 1
  have z2 := hb2.frozen 2
  have Hb2 := Lib.hid hb2
  clear hcase hb2
  go_wp2_with (fail)
  (try simp only [Exit.inBlock, Exit.then])
  have hbn := ((Hb2.out.set 0 (.int .i64 (f1 : Int))).set 1 (.int .i64 (f2 : Int))).set 2 (.int .i64 (f3 : Int))
  have hOs : Only [h] W2 (((W2.setCell ⟨h, 0, none⟩ (.int .i64 (f1 : Int))).setCell ⟨h, 1, none⟩ (.int .i64 (f2 : Int))).setCell ⟨h, 2, none⟩ (.int .i64 (f3 : Int))) := (((Only.refl [h] _).setCell (.inl (by simp)) _).setCell (.inl (by simp)) _).setCell (.inl (by simp)) _
  refine bodyPost_ret (v := .tuple #[v, .agg #[.int .i64 (f1 : Int), .int .i64 (f2 : Int), .int .i64 (f3 : Int)]]) ?_ rfl ⟨v, by rw [← HF.out], (HO.out.trans hO2).trans' hOs (by simp; omega), ?_⟩
  · rw [results_tmp_cell rfl]
    exact loadF hbn
  · rw [← HF.out]
    rcases Hcase.out with ⟨h0, g, base, hbs, rfl, hM⟩ | ⟨h0, rfl⟩
    · exact .inl ⟨h0, g, base, by omega, rfl, hM.only hOs (by simp; omega)⟩
    · exact .inr ⟨h0, rfl⟩

theorem loadF1 {w : World} {h0 : Nat} {v0 v1 v2 : Value} (hb : Blk w h0 66 [v0, v1, v2]) :
    (((asAddr (.pointer (some ⟨h0, 0, none⟩))).run Tryd.prog w).andThen fun a w₁ => (loadVar 66 a).run Tryd.prog w₁) = Result.ok (Value.agg #[v0, v1, v2]) w := by
  have c0 : w.cell? ⟨h0, 0, none⟩ = some v0 := hb.cell 0
  have c1 : w.cell? ⟨h0, 1, none⟩ = some v1 := hb.cell 1
  have c2 : w.cell? ⟨h0, 2, none⟩ = some v2 := hb.cell 2
  go_simp
def blank1 : List Sp := [(32, 32)]
end Go.Proofs.YtgohinklnglgeaaDoor

set_option linter.unusedVariables false
set_option linter.unusedSimpArgs false
namespace Go.Proofs.YtgohinklnglgeaaDoor
open Go.RowKit

set_option maxRecDepth 100000 in
set_option maxHeartbeats 4000000 in
theorem same5_any (w : World) (v0 v1 v2 v3 v4 u0 u1 u2 u3 u4 : Value) (ws : List ByteArray) (ms : List Mg) (a b d : List Sp) (hR : Rd5 w v0 v1 v2 v3 v4 ws ms a b d) (hQ : Rd5 w u0 u1 u2 u3 u4 ws ms a b d)
    (s0 : ws.length ≤ 8796093021952) (s1 : ms.length ≤ 5864062014634) (s2 : a.length ≤ 17592186043904) (s3 : b.length ≤ 17592186043904) (s4 : d.length ≤ 17592186043904) :
    Calls Tryd.prog 20 #[.agg #[v0, v1, v2, v3, v4], .agg #[u0, u1, u2, u3, u4]] w fun e w' => e = .returned (.bool true) ∧ Only [] w w' := by
  obtain ⟨h, hh⟩ : ∃ h, h = w.heap.size := ⟨_, rfl⟩
  obtain ⟨W1, hW1⟩ : ∃ W1, W1 = (w.alloc (.cells #[v0, v1, v2, v3, v4] 38)).alloc (.cells #[u0, u1, u2, u3, u4] 38) := ⟨_, rfl⟩
  have hb : Blk W1 h 38 [v0, v1, v2, v3, v4] := by rw [hW1]; exact (Blk.new' _ _ _ hh.symm rfl).alloc _
  have hc : Blk W1 (h + 1) 38 [u0, u1, u2, u3, u4] := by rw [hW1]; exact Blk.new' _ _ _ (by simp; omega) rfl
  have hO : Only [] w W1 := by rw [hW1]; exact ((Only.refl _ _).alloc _).alloc _
  have hR1 := hR.only hO
  have hQ1 := hQ.only hO
  obtain ⟨⟨A0, c0, rfl, -, r0⟩, ⟨A1, c1, rfl, -, r1⟩, ⟨A2, c2, rfl, -, r2⟩, ⟨A3, c3, rfl, -, r3⟩, ⟨A4, c4, rfl, -, r4⟩⟩ := hR1
  obtain ⟨⟨B0, d0, rfl, -, q0⟩, ⟨B1, d1, rfl, -, q1⟩, ⟨B2, d2, rfl, -, q2⟩, ⟨B3, d3, rfl, -, q3⟩, ⟨B4, d4, rfl, -, q4⟩⟩ := hQ1
  have kS : ∀ W, Only [] W1 W → (W.cell? ⟨h, 0, none⟩ = some (.slice A0 ws.length c0) ∧ W.cell? ⟨h, 1, none⟩ = some (.slice A1 ms.length c1) ∧ W.cell? ⟨h, 2, none⟩ = some (.slice A2 a.length c2) ∧ W.cell? ⟨h, 3, none⟩ = some (.slice A3 b.length c3) ∧ W.cell? ⟨h, 4, none⟩ = some (.slice A4 d.length c4)) ∧ (W.cell? ⟨h + 1, 0, none⟩ = some (.slice B0 ws.length d0) ∧ W.cell? ⟨h + 1, 1, none⟩ = some (.slice B1 ms.length d1) ∧ W.cell? ⟨h + 1, 2, none⟩ = some (.slice B2 a.length d2) ∧ W.cell? ⟨h + 1, 3, none⟩ = some (.slice B3 b.length d3) ∧ W.cell? ⟨h + 1, 4, none⟩ = some (.slice B4 d.length d4)) := by
    intro W hw
    have k := hb.only hw (by simp)
    have k2 := hc.only hw (by simp)
    exact ⟨⟨k.cell 0, k.cell 1, k.cell 2, k.cell 3, k.cell 4⟩, ⟨k2.cell 0, k2.cell 1, k2.cell 2, k2.cell 3, k2.cell 4⟩⟩
  have KS := Lib.hid kS
  have g0 : ∀ W, Only [] W1 W → _ := fun W hw => sameW_any A0 B0 ws.length c0 0 d0 _ _ ws W (r0.only hw (by simp)) (q0.only hw (by simp)) rfl (by omega)
  have g1 : ∀ W, Only [] W1 W → _ := fun W hw => sameM_any A1 B1 ms.length c1 0 d1 _ _ ms W (r1.only hw (by simp)) (q1.only hw (by simp)) rfl (by omega)
  have g2 : ∀ W, Only [] W1 W → _ := fun W hw => sameS_any A2 B2 a.length c2 0 d2 _ _ a W (r2.only hw (by simp)) (q2.only hw (by simp)) rfl (by omega)
  have g3 : ∀ W, Only [] W1 W → _ := fun W hw => sameS_any A3 B3 b.length c3 0 d3 _ _ b W (r3.only hw (by simp)) (q3.only hw (by simp)) rfl (by omega)
  have g4 : ∀ W, Only [] W1 W → _ := fun W hw => sameS_any A4 B4 d.length c4 0 d4 _ _ d W (r4.only hw (by simp)) (q4.only hw (by simp)) rfl (by omega)
  have G0 := Lib.hid g0
  have G1 := Lib.hid g1
  have G2 := Lib.hid g2
  have G3 := Lib.hid g3
  have G4 := Lib.hid g4
  have Hh := Lib.hid hh
  have HW := Lib.hid hW1
  obtain ⟨⟨k0, k1, k2, k3, k4⟩, ⟨l0, l1, l2, l3, l4⟩⟩ := kS W1 (.refl _ _)
  clear hh hW1 hb hc hR hQ kS r0 r1 r2 r3 r4 q0 q1 q2 q3 q4 g0 g1 g2 g3 g4 s0 s1 s2 s3 s4
  go_enter Tryd.func20, Tryd.ntmps20
  go_upto_region 1 with (fail)
  rw [← Hh.out, ← HW.out]
  go_wp2_with (fail)
  refine (G0.out W1 (.refl _ _)).mono ?_
  rintro e W2 ⟨rfl, hk⟩
  have hO2 : Only [] W1 W2 := by obtain ⟨k, rfl⟩ := hk; exact (Only.refl _ _).drewN _
  clear hk k0 k1 k2 k3 k4 l0 l1 l2 l3 l4
  obtain ⟨⟨k0, k1, k2, k3, k4⟩, ⟨l0, l1, l2, l3, l4⟩⟩ := KS.out W2 hO2
  go_wp2_with (fail)
  refine (G1.out W2 hO2).mono ?_
  rintro e W3 ⟨rfl, hk⟩
  have hO3 : Only [] W1 W3 := by obtain ⟨k, rfl⟩ := hk; exact hO2.drewN _
  clear hk k0 k1 k2 k3 k4 l0 l1 l2 l3 l4
  obtain ⟨⟨k0, k1, k2, k3, k4⟩, ⟨l0, l1, l2, l3, l4⟩⟩ := KS.out W3 hO3
  go_wp2_with (fail)
  refine (G2.out W3 hO3).mono ?_
  rintro e W4 ⟨rfl, hk⟩
  have hO4 : Only [] W1 W4 := by obtain ⟨k, rfl⟩ := hk; exact hO3.drewN _
  clear hk k0 k1 k2 k3 k4 l0 l1 l2 l3 l4
  obtain ⟨⟨k0, k1, k2, k3, k4⟩, ⟨l0, l1, l2, l3, l4⟩⟩ := KS.out W4 hO4
  go_wp2_with (fail)
  refine (G3.out W4 hO4).mono ?_
  rintro e W5 ⟨rfl, hk⟩
  have hO5 : Only [] W1 W5 := by obtain ⟨k, rfl⟩ := hk; exact hO4.drewN _
  clear hk k0 k1 k2 k3 k4 l0 l1 l2 l3 l4
  obtain ⟨⟨k0, k1, k2, k3, k4⟩, ⟨l0, l1, l2, l3, l4⟩⟩ := KS.out W5 hO5
  go_wp2_with (fail)
  refine (G4.out W5 hO5).mono ?_
  rintro e W6 ⟨rfl, hk⟩
  have hO6 : Only [] W1 W6 := by obtain ⟨k, rfl⟩ := hk; exact hO5.drewN _
  clear hk k0 k1 k2 k3 k4 l0 l1 l2 l3 l4
  go_wp2_with (fail)
  go_ret
  exact ⟨rfl, hO.trans hO6⟩

end Go.Proofs.YtgohinklnglgeaaDoor
