/- tesserakeep: Same, Handed, Intact. -/
import Derived.Test.YtfnhdkabfkjodaaTk
import Derived.Test.YtfnhdkabfkjodaaMgBk
import Derived.Test.YtfnhdkabfkjodaaWdBk
import Derived.StillTailTactics
set_option linter.unusedVariables false
set_option linter.unusedSimpArgs false
namespace Go.Proofs.Ytfnhdkabfkjodaa
open Go.RowKit

set_option maxRecDepth 100000 in
set_option maxHeartbeats 4000000 in
theorem same5_any (w : World) (v0 v1 v2 v3 v4 u0 u1 u2 u3 u4 : Value) (ws : List ByteArray) (ms : List Mg) (a b d : List Sp) (hR : Rd5 w v0 v1 v2 v3 v4 ws ms a b d) (hQ : Rd5 w u0 u1 u2 u3 u4 ws ms a b d)
    (s0 : ws.length ≤ 8796093021952) (s1 : ms.length ≤ 5864062014634) (s2 : a.length ≤ 17592186043904) (s3 : b.length ≤ 17592186043904) (s4 : d.length ≤ 17592186043904) :
    Calls Try.prog 21 #[.agg #[v0, v1, v2, v3, v4], .agg #[u0, u1, u2, u3, u4]] w fun e w' => e = .returned (.bool true) ∧ Only [] w w' := by
  obtain ⟨h, hh⟩ : ∃ h, h = w.heap.size := ⟨_, rfl⟩
  obtain ⟨W1, hW1⟩ : ∃ W1, W1 = (w.alloc (.cells #[v0, v1, v2, v3, v4] 26)).alloc (.cells #[u0, u1, u2, u3, u4] 26) := ⟨_, rfl⟩
  have hb : Blk W1 h 26 [v0, v1, v2, v3, v4] := by rw [hW1]; exact (Blk.new' _ _ _ hh.symm rfl).alloc _
  have hc : Blk W1 (h + 1) 26 [u0, u1, u2, u3, u4] := by rw [hW1]; exact Blk.new' _ _ _ (by simp; omega) rfl
  have hO : Only [] w W1 := by rw [hW1]; exact ((Only.refl _ _).alloc _).alloc _
  have hR1 := hR.only hO
  have hQ1 := hQ.only hO
  obtain ⟨⟨A0, c0, rfl, -, r0⟩, ⟨A1, c1, rfl, -, r1⟩, ⟨A2, c2, rfl, -, r2⟩, ⟨A3, c3, rfl, -, r3⟩, ⟨A4, c4, rfl, -, r4⟩⟩ := hR1
  obtain ⟨⟨B0, d0, rfl, -, q0⟩, ⟨B1, d1, rfl, -, q1⟩, ⟨B2, d2, rfl, -, q2⟩, ⟨B3, d3, rfl, -, q3⟩, ⟨B4, d4, rfl, -, q4⟩⟩ := hQ1
  have kS : ∀ W, Only [] W1 W → (W.cell? ⟨h, 0, none⟩ = some (.slice A0 ws.length c0) ∧ W.cell? ⟨h, 1, none⟩ = some (.slice A1 ms.length c1) ∧ W.cell? ⟨h, 2, none⟩ = some (.slice A2 a.length c2) ∧ W.cell? ⟨h, 3, none⟩ = some (.slice A3 b.length c3) ∧ W.cell? ⟨h, 4, none⟩ = some (.slice A4 d.length c4)) ∧ (W.cell? ⟨h + 1, 0, none⟩ = some (.slice B0 ws.length d0) ∧ W.cell? ⟨h + 1, 1, none⟩ = some (.slice B1 ms.length d1) ∧ W.cell? ⟨h + 1, 2, none⟩ = some (.slice B2 a.length d2) ∧ W.cell? ⟨h + 1, 3, none⟩ = some (.slice B3 b.length d3) ∧ W.cell? ⟨h + 1, 4, none⟩ = some (.slice B4 d.length d4)) := by
    intro W hw
    have k := hb.only hw (by simp)
    have k2 := hc.only hw (by simp)
    exact ⟨⟨k.cell 0, k.cell 1, k.cell 2, k.cell 3, k.cell 4⟩, ⟨k2.cell 0, k2.cell 1, k2.cell 2, k2.cell 3, k2.cell 4⟩⟩
  have KS := Lib.hid kS
  have g0 : ∀ W, Only [] W1 W → _ := fun W hw => sameW_any A0 B0 ws.length c0 0 d0 _ _ ws W (r0.only hw (by simp)) (q0.only hw (by simp)) rfl (by omega)
  have g1 : ∀ W, Only [] W1 W → _ := fun W hw => sameM_any A1 B1 ms.length c1 0 d1 _ _ ms W (r1.only hw (by simp)) (q1.only hw (by simp)) rfl (by omega)
  have g2 : ∀ W, Only [] W1 W → _ := fun W hw => sameS_any A2 B2 a.length c2 0 d2 _ _ a W (r2.only hw (by simp)) (q2.only hw (by simp)) rfl (by omega)
  have g3 : ∀ W, Only [] W1 W → _ := fun W hw => sameS_any A3 B3 b.length c3 0 d3 _ _ b W (r3.only hw (by simp)) (q3.only hw (by simp)) rfl (by omega)
  have g4 : ∀ W, Only [] W1 W → _ := fun W hw => sameS_any A4 B4 d.length c4 0 d4 _ _ d W (r4.only hw (by simp)) (q4.only hw (by simp)) rfl (by omega)
  have G0 := Lib.hid g0
  have G1 := Lib.hid g1
  have G2 := Lib.hid g2
  have G3 := Lib.hid g3
  have G4 := Lib.hid g4
  have Hh := Lib.hid hh
  have HW := Lib.hid hW1
  obtain ⟨⟨k0, k1, k2, k3, k4⟩, ⟨l0, l1, l2, l3, l4⟩⟩ := kS W1 (.refl _ _)
  clear hh hW1 hb hc hR hQ kS r0 r1 r2 r3 r4 q0 q1 q2 q3 q4 g0 g1 g2 g3 g4 s0 s1 s2 s3 s4
  go_enter Try.func21, Try.ntmps21
  go_upto_region 1 with (fail)
  rw [← Hh.out, ← HW.out]
  go_wp2_with (fail)
  refine (G0.out W1 (.refl _ _)).mono ?_
  rintro e W2 ⟨rfl, hk⟩
  have hO2 : Only [] W1 W2 := by obtain ⟨k, rfl⟩ := hk; exact (Only.refl _ _).drewN _
  clear hk k0 k1 k2 k3 k4 l0 l1 l2 l3 l4
  obtain ⟨⟨k0, k1, k2, k3, k4⟩, ⟨l0, l1, l2, l3, l4⟩⟩ := KS.out W2 hO2
  go_wp2_with (fail)
  refine (G1.out W2 hO2).mono ?_
  rintro e W3 ⟨rfl, hk⟩
  have hO3 : Only [] W1 W3 := by obtain ⟨k, rfl⟩ := hk; exact hO2.drewN _
  clear hk k0 k1 k2 k3 k4 l0 l1 l2 l3 l4
  obtain ⟨⟨k0, k1, k2, k3, k4⟩, ⟨l0, l1, l2, l3, l4⟩⟩ := KS.out W3 hO3
  go_wp2_with (fail)
  refine (G2.out W3 hO3).mono ?_
  rintro e W4 ⟨rfl, hk⟩
  have hO4 : Only [] W1 W4 := by obtain ⟨k, rfl⟩ := hk; exact hO3.drewN _
  clear hk k0 k1 k2 k3 k4 l0 l1 l2 l3 l4
  obtain ⟨⟨k0, k1, k2, k3, k4⟩, ⟨l0, l1, l2, l3, l4⟩⟩ := KS.out W4 hO4
  go_wp2_with (fail)
  refine (G3.out W4 hO4).mono ?_
  rintro e W5 ⟨rfl, hk⟩
  have hO5 : Only [] W1 W5 := by obtain ⟨k, rfl⟩ := hk; exact hO4.drewN _
  clear hk k0 k1 k2 k3 k4 l0 l1 l2 l3 l4
  obtain ⟨⟨k0, k1, k2, k3, k4⟩, ⟨l0, l1, l2, l3, l4⟩⟩ := KS.out W5 hO5
  go_wp2_with (fail)
  refine (G4.out W5 hO5).mono ?_
  rintro e W6 ⟨rfl, hk⟩
  have hO6 : Only [] W1 W6 := by obtain ⟨k, rfl⟩ := hk; exact hO5.drewN _
  clear hk k0 k1 k2 k3 k4 l0 l1 l2 l3 l4
  go_wp2_with (fail)
  go_ret
  exact ⟨rfl, hO.trans hO6⟩

def behind : ByteArray := ⟨#[98, 101, 104, 105, 110, 100]⟩
def mrk : Mg := ⟨-7, 0, 0⟩
def smk : Sp := (-7, 0)
structure HandX (w : World) (f : Nat) (v0 v1 v2 v3 v4 : Value) (G0 G1 G2 G3 G4 : Nat) (ws : List ByteArray) (ms : List Mg) (a b d : List Sp) : Prop where
  fr : Blk w f 84 [v0, v1, v2, v3, v4, .slice (some ⟨G0, 0, none⟩) (ws.length + 80) (ws.length + 80), .slice (some ⟨G1, 0, none⟩) (ms.length + 80) (ms.length + 80), .slice (some ⟨G2, 0, none⟩) (a.length + 80) (a.length + 80), .slice (some ⟨G3, 0, none⟩) (b.length + 80) (b.length + 80), .slice (some ⟨G4, 0, none⟩) (d.length + 80) (d.length + 80)]
  b0 : Blk w G0 9 (wds (roomyW ws behind))
  b1 : Blk w G1 38 (mgs (roomyM ms mrk))
  b2 : Blk w G2 67 (ses (roomyS a smk))
  b3 : Blk w G3 67 (ses (roomyS b smk))
  b4 : Blk w G4 67 (ses (roomyS d smk))
theorem HandX.only {w w' : World} {f : Nat} {v0 v1 v2 v3 v4 : Value} {G0 G1 G2 G3 G4 : Nat} {ws : List ByteArray} {ms : List Mg} {a b d : List Sp} (h : HandX w f v0 v1 v2 v3 v4 G0 G1 G2 G3 G4 ws ms a b d) (hO : Only [] w w') : HandX w' f v0 v1 v2 v3 v4 G0 G1 G2 G3 G4 ws ms a b d :=
  ⟨h.fr.only hO (by simp), h.b0.only hO (by simp), h.b1.only hO (by simp), h.b2.only hO (by simp), h.b3.only hO (by simp), h.b4.only hO (by simp)⟩
end Go.Proofs.Ytfnhdkabfkjodaa
