/- tesserakeep: Intact. -/
import Derived.Test.YtfnhdkabfkjodaaTk2
import Derived.Deep.RegionHeld3
set_option linter.unusedVariables false
set_option linter.unusedSimpArgs false
namespace Go.Proofs.Ytfnhdkabfkjodaa
open Go.RowKit

set_option maxRecDepth 100000 in
set_option maxHeartbeats 8000000 in
theorem intact5_any (w : World) (f : Nat) (v0 v1 v2 v3 v4 : Value) (G0 G1 G2 G3 G4 : Nat) (ws : List ByteArray) (ms : List Mg) (a b d : List Sp) (hX : HandX w f v0 v1 v2 v3 v4 G0 G1 G2 G3 G4 ws ms a b d) (hR : Rd5 w v0 v1 v2 v3 v4 ws ms a b d)
    (s0 : ws.length ≤ 8796093021952) (s1 : ms.length ≤ 5864062014634) (s2 : a.length ≤ 17592186043904) (s3 : b.length ≤ 17592186043904) (s4 : d.length ≤ 17592186043904) :
    Calls Try.prog 11 #[.pointer (some ⟨f, 0, none⟩)] w fun e w' => e = .returned (.bool true) ∧ Only [] w w' := by
  obtain ⟨⟨A0, c0, rfl, -, r0⟩, ⟨A1, c1, rfl, -, r1⟩, ⟨A2, c2, rfl, -, r2⟩, ⟨A3, c3, rfl, -, r3⟩, ⟨A4, c4, rfl, -, r4⟩⟩ := hR
  obtain ⟨hf, b0, b1, b2, b3, b4⟩ := hX
  have g0 : ∀ W, Only [] w W → _ := fun W hw => intactW_any (some ⟨G0, 0, none⟩) A0 ws.length (ws.length + 80) c0 _ _ ws behind W ((rd_roomyW (b0.only hw (by simp)) rfl).1) (r0.only hw (by simp)) rfl (by omega) (by omega)
  have g1 : ∀ W, Only [] w W → _ := fun W hw => intactM_any (some ⟨G1, 0, none⟩) A1 ms.length (ms.length + 80) c1 _ _ ms mrk W ((rd_roomyM (b1.only hw (by simp)) rfl).1) (r1.only hw (by simp)) rfl (by omega) (by omega)
  have g2 : ∀ W, Only [] w W → _ := fun W hw => intactS_any (some ⟨G2, 0, none⟩) A2 a.length (a.length + 80) c2 _ _ a smk W ((rd_roomyS (b2.only hw (by simp)) rfl).1) (r2.only hw (by simp)) rfl (by omega) (by omega)
  have g3 : ∀ W, Only [] w W → _ := fun W hw => intactS_any (some ⟨G3, 0, none⟩) A3 b.length (b.length + 80) c3 _ _ b smk W ((rd_roomyS (b3.only hw (by simp)) rfl).1) (r3.only hw (by simp)) rfl (by omega) (by omega)
  have g4 : ∀ W, Only [] w W → _ := fun W hw => intactS_any (some ⟨G4, 0, none⟩) A4 d.length (d.length + 80) c4 _ _ d smk W ((rd_roomyS (b4.only hw (by simp)) rfl).1) (r4.only hw (by simp)) rfl (by omega) (by omega)
  obtain ⟨n0, hn0⟩ : ∃ n, n = ws.length := ⟨_, rfl⟩
  obtain ⟨n1, hn1⟩ : ∃ n, n = ms.length := ⟨_, rfl⟩
  obtain ⟨n2, hn2⟩ : ∃ n, n = a.length := ⟨_, rfl⟩
  obtain ⟨n3, hn3⟩ : ∃ n, n = b.length := ⟨_, rfl⟩
  obtain ⟨n4, hn4⟩ : ∃ n, n = d.length := ⟨_, rfl⟩
  rw [← hn0] at g0 hf
  rw [← hn1] at g1 hf
  rw [← hn2] at g2 hf
  rw [← hn3] at g3 hf
  rw [← hn4] at g4 hf
  have kS : ∀ W, Only [] w W → ((W.cell? ⟨f, 0, none⟩ = some (.slice A0 n0 c0) ∧ W.cell? ⟨f, 1, none⟩ = some (.slice A1 n1 c1) ∧ W.cell? ⟨f, 2, none⟩ = some (.slice A2 n2 c2) ∧ W.cell? ⟨f, 3, none⟩ = some (.slice A3 n3 c3) ∧ W.cell? ⟨f, 4, none⟩ = some (.slice A4 n4 c4)) ∧ (W.cell? ⟨f, 5, none⟩ = some (.slice (some ⟨G0, 0, none⟩) (n0 + 80) (n0 + 80)) ∧ W.cell? ⟨f, 6, none⟩ = some (.slice (some ⟨G1, 0, none⟩) (n1 + 80) (n1 + 80)) ∧ W.cell? ⟨f, 7, none⟩ = some (.slice (some ⟨G2, 0, none⟩) (n2 + 80) (n2 + 80)) ∧ W.cell? ⟨f, 8, none⟩ = some (.slice (some ⟨G3, 0, none⟩) (n3 + 80) (n3 + 80)) ∧ W.cell? ⟨f, 9, none⟩ = some (.slice (some ⟨G4, 0, none⟩) (n4 + 80) (n4 + 80)))) := by
    intro W hw
    have k := hf.only hw (by simp)
    exact ⟨⟨k.cell 0, k.cell 1, k.cell 2, k.cell 3, k.cell 4⟩, ⟨k.cell 5, k.cell 6, k.cell 7, k.cell 8, k.cell 9⟩⟩
  have KS := Lib.hid kS
  have G_0 := Lib.hid g0
  have G_1 := Lib.hid g1
  have G_2 := Lib.hid g2
  have G_3 := Lib.hid g3
  have G_4 := Lib.hid g4
  obtain ⟨⟨k0, k1, k2, k3, k4⟩, ⟨k5, k6, k7, k8, k9⟩⟩ := kS w (.refl _ _)
  clear kS g0 g1 g2 g3 g4 hf b0 b1 b2 b3 b4 r0 r1 r2 r3 r4 hn0 hn1 hn2 hn3 hn4 s0 s1 s2 s3 s4
  go_enter Try.func11, Try.ntmps11
  go_upto_region 1 with (fail)
  go_region_held3 (fun W => ((W.cell? ⟨f, 0, none⟩ = some (.slice A0 n0 c0) ∧ W.cell? ⟨f, 1, none⟩ = some (.slice A1 n1 c1) ∧ W.cell? ⟨f, 2, none⟩ = some (.slice A2 n2 c2) ∧ W.cell? ⟨f, 3, none⟩ = some (.slice A3 n3 c3) ∧ W.cell? ⟨f, 4, none⟩ = some (.slice A4 n4 c4)) ∧ (W.cell? ⟨f, 5, none⟩ = some (.slice (some ⟨G0, 0, none⟩) (n0 + 80) (n0 + 80)) ∧ W.cell? ⟨f, 6, none⟩ = some (.slice (some ⟨G1, 0, none⟩) (n1 + 80) (n1 + 80)) ∧ W.cell? ⟨f, 7, none⟩ = some (.slice (some ⟨G2, 0, none⟩) (n2 + 80) (n2 + 80)) ∧ W.cell? ⟨f, 8, none⟩ = some (.slice (some ⟨G3, 0, none⟩) (n3 + 80) (n3 + 80)) ∧ W.cell? ⟨f, 9, none⟩ = some (.slice (some ⟨G4, 0, none⟩) (n4 + 80) (n4 + 80)))) ∧ Only [] w W)
    (first | exact ⟨KS.out _ ((Only.refl _ _).drew), (Only.refl _ _).drew⟩ | exact ⟨KS.out _ (by assumption), (by assumption)⟩)
    (first
      | (go_at_call 42
         obtain ⟨-, hF⟩ := (by assumption : _ ∧ Only [] w _)
         refine (G_0.out _ hF).mono ?_
         rintro e w1 ⟨rfl, hF1⟩
         replace hF1 := hF.trans hF1
         clear hF)
      | (go_at_call 43
         obtain ⟨-, hF⟩ := (by assumption : _ ∧ Only [] w _)
         refine (G_1.out _ hF).mono ?_
         rintro e w1 ⟨rfl, hF1⟩
         replace hF1 := hF.trans hF1
         clear hF)
      | (go_at_call 44
         obtain ⟨-, hF⟩ := (by assumption : _ ∧ Only [] w _)
         first
           | (refine (G_2.out _ hF).mono ?_; clear G_2)
           | (refine (G_3.out _ hF).mono ?_; clear G_3)
           | (refine (G_4.out _ hF).mono ?_; clear G_4)
         rintro e w1 ⟨rfl, hF1⟩
         replace hF1 := hF.trans hF1
         clear hF))
  all_goals
    go_wp2_with (fail)
    go_ret
    exact ⟨rfl, by assumption⟩
end Go.Proofs.Ytfnhdkabfkjodaa
