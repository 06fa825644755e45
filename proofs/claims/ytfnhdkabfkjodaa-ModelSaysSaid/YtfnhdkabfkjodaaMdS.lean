/- ModelSays. -/
import Derived.Test.YtfnhdkabfkjodaaTk2
import Derived.Test.YtfnhdkabfkjodaaKn5
import Derived.Deep.RegionHeld3
namespace Go.Proofs.Ytfnhdkabfkjodaa
open Go.RowKit

set_option maxRecDepth 100000 in
set_option maxHeartbeats 8000000 in
theorem modelSays_walk (w : World) (v0 v1 v2 v3 v4 : Value) (ws : List ByteArray) (ms : List Mg) (a b d : List Sp) (hR : Rd5 w v0 v1 v2 v3 v4 ws ms a b d)
    (s0 : ws.length ≤ 8796093021952) (s1 : ms.length ≤ 5864062014634) (s2 : a.length ≤ 17592186043904) (s3 : b.length ≤ 17592186043904) (s4 : d.length ≤ 17592186043904) (hws : ∀ s ∈ ws, s.size ≤ maxLen) (hms : ∀ m ∈ ms, m.ok)
    (id : Int) (hid : i64ok id) (l : Int) (hl : i64ok l) (r : Int) (hr : i64ok r) :
    Calls Try.prog 7 #[.agg #[v0, v1, v2, v3, v4], .int .i64 id, .int .i64 l, .int .i64 r] w fun e w' => e = .returned (.bool true) ∧ Only [] w w' := by
  obtain ⟨h, hh⟩ : ∃ h, h = w.heap.size := ⟨_, rfl⟩
  obtain ⟨W1, hW1⟩ : ∃ W1, W1 = w.alloc (.cells #[v0, v1, v2, v3, v4] 26) := ⟨_, rfl⟩
  have hb : Blk W1 h 26 [v0, v1, v2, v3, v4] := by rw [hW1]; exact Blk.new' _ _ _ hh.symm rfl
  have hO : Only [] w W1 := by rw [hW1]; exact (Only.refl _ _).alloc _
  have hR1 := hR.only hO
  have HR5 := Lib.hid hR1
  obtain ⟨⟨A0, c0, e0, -⟩, ⟨A1, c1, e1, -⟩, ⟨A2, c2, e2, -⟩, ⟨A3, c3, e3, -⟩, ⟨A4, c4, e4, -⟩⟩ := hR1
  obtain ⟨n0, hn0⟩ : ∃ n, n = ws.length := ⟨_, rfl⟩
  obtain ⟨n1, hn1⟩ : ∃ n, n = ms.length := ⟨_, rfl⟩
  obtain ⟨n2, hn2⟩ : ∃ n, n = a.length := ⟨_, rfl⟩
  obtain ⟨n3, hn3⟩ : ∃ n, n = b.length := ⟨_, rfl⟩
  obtain ⟨n4, hn4⟩ : ∃ n, n = d.length := ⟨_, rfl⟩
  rw [← hn0] at e0
  rw [← hn1] at e1
  rw [← hn2] at e2
  rw [← hn3] at e3
  rw [← hn4] at e4
  subst e0 e1 e2 e3 e4
  have kS : ∀ W, Only [] W1 W → (W.cell? ⟨h, 0, none⟩ = some (.slice A0 n0 c0) ∧ W.cell? ⟨h, 1, none⟩ = some (.slice A1 n1 c1) ∧ W.cell? ⟨h, 2, none⟩ = some (.slice A2 n2 c2) ∧ W.cell? ⟨h, 3, none⟩ = some (.slice A3 n3 c3) ∧ W.cell? ⟨h, 4, none⟩ = some (.slice A4 n4 c4)) := by
    intro W hw
    have k := hb.only hw (by simp)
    exact ⟨k.cell 0, k.cell 1, k.cell 2, k.cell 3, k.cell 4⟩
  have KS := Lib.hid kS
  have hof := ofM_any W1 _ _ _ _ _ ws ms a b d HR5.out (by omega) (by omega) s2 s3 s4 hws hms
  have Hof := Lib.hid hof
  have hsn : n0 ≤ 8796093021952 := by omega
  have Hn0 := Lib.hid hn0
  have Hs := Lib.hid (And.intro s0 (And.intro s1 (And.intro s2 (And.intro s3 s4))))
  have Hid0 := Lib.hid hid
  have Hl := Lib.hid hl
  have Hr := Lib.hid hr
  have Hh := Lib.hid hh
  have HW := Lib.hid hW1
  have HO := Lib.hid hO
  obtain ⟨k0, k1, k2, k3, k4⟩ := kS W1 (.refl _ _)
  clear hh hW1 hb hR kS hof hws hms hn0 hn1 hn2 hn3 hn4 s0 s1 s2 s3 s4 hid hl hr hO
  go_enter Try.func7, Try.ntmps7
  go_upto_region 1 with (fail)
  rw [← Hh.out, ← HW.out]
  go_wp2_with (fail)
  refine Hof.out.mono ?_
  intro e W2 hpost
  rcases hpost.no with ⟨rfl, hO2⟩ | ⟨g, base, rfl, hO2, hbase, -, hM, -⟩
  · clear hpost k0 k1 k2 k3 k4
    go_wp2_with (fail)
    refine (known5_any W2).mono ?_
    rintro e W3 ⟨rfl, hO3⟩
    go_wp2_with (fail)
    go_ret
    exact ⟨rfl, HO.out.trans (hO2.trans hO3)⟩
  · have HM := Lib.hid hM
    clear hpost k0 k1 k2 k3 k4 hM hbase
    obtain ⟨k0, k1, k2, k3, k4⟩ := KS.out W2 hO2
    obtain ⟨V, hV⟩ : ∃ V, V = wordB ws id := ⟨_, rfl⟩
    obtain ⟨I, hI⟩ : ∃ I, I = isWord ws id := ⟨_, rfl⟩
    obtain ⟨X, hX⟩ : ∃ X, X = (lookM 0 ms (l, r)).getD (0, 0) := ⟨_, rfl⟩
    obtain ⟨Y, hY⟩ : ∃ Y, Y = (lookM 0 ms (l, r)).isSome := ⟨_, rfl⟩
    obtain ⟨x1, x2⟩ := X
    have g1 := fun W (hw : Only [] W2 W) => word_any W base g ws ms a b d _ _ _ (HM.out.only0 hw) id Hid0.out
    have g2 := fun W (hw : Only [] W1 W) => word5_any W _ _ _ _ _ ws ms a b d (HR5.out.only hw) (by have := Hs.out; omega) id Hid0.out
    have g3 := fun W (hw : Only [] W2 W) => merge_any W base g ws ms a b d _ _ _ (HM.out.only0 hw) l r Hl.out Hr.out
    have g4 := fun W (hw : Only [] W1 W) => merge5_any W _ _ _ _ _ ws ms a b d (HR5.out.only hw) (by have := Hs.out; omega) l r Hl.out Hr.out
    rw [← hV, ← hI] at g1 g2
    rw [← hX, ← hY] at g3 g4
    simp only at g3 g4
    have G1 := Lib.hid g1
    have G2 := Lib.hid g2
    have G3 := Lib.hid g3
    have G4 := Lib.hid g4
    have HO2 := Lib.hid hO2
    have hse : (V.toList == V.toList) = true := beq_self_eq_true _
    clear g1 g2 g3 g4 hV hI hX hY
    go_wp2_with (fail)
    refine (G1.out W2 (.refl _ _)).mono ?_
    rintro e W3 ⟨rfl, hO3⟩
    have hO13 := hO2.trans hO3
    clear k0 k1 k2 k3 k4
    obtain ⟨k0, k1, k2, k3, k4⟩ := KS.out W3 hO13
    go_wp2_with (fail)
    refine (G2.out W3 hO13).mono ?_
    rintro e W4 ⟨rfl, hO4⟩
    have hO24 := hO3.trans hO4
    have hO14 := hO2.trans hO24
    clear k0 k1 k2 k3 k4
    go_wp2_with (fail)
    refine (G3.out W4 hO24).mono ?_
    rintro e W5 ⟨rfl, hO5⟩
    have hO25 := hO24.trans hO5
    have hO15 := hO2.trans hO25
    obtain ⟨k0, k1, k2, k3, k4⟩ := KS.out W5 hO15
    go_wp2_with (fail)
    refine (G4.out W5 hO15).mono ?_
    rintro e W6 ⟨rfl, hO6⟩
    have hO26 := hO25.trans hO6
    clear k0 k1 k2 k3 k4
    obtain ⟨k0, k1, k2, k3, k4⟩ := KS.out W6 (hO2.trans hO26)
    have g1 := fun W (hw : Only [] W2 W) => size_any W base g ws ms a b d _ _ _ (HM.out.only0 hw)
    rw [← Hn0.out] at g1
    simp only [Int.natCast_add, Int.cast_ofNat_Int] at g1
    have g2 := fun W (hw : Only [] W2 W) => longest_any W base g ws ms a b d _ _ _ (HM.out.only0 hw)
    have g3 := fun W (hw : Only [] W2 W) => longest5_any W _ _ _ _ _ ws ms a b d (HR5.out.only (HO2.out.trans hw)) (by have := Hs.out; omega)
    obtain ⟨lg, hlg⟩ : ∃ lg, lg = lgF ws := ⟨_, rfl⟩
    rw [← hlg] at g2 g3
    have g4 := fun W (hw : Only [] W2 W) => data_any W base g ws ms a b d _ _ _ (HM.out.only0 hw)
    have g5 := fun W (hw : Only [] W2 W) => table_any W base g ws ms a b d _ _ _ (HM.out.only0 hw)
    have G1 := Lib.hid g1
    have G2 := Lib.hid g2
    have G3 := Lib.hid g3
    have G4 := Lib.hid g4
    have G5 := Lib.hid g5
    have HO26 := Lib.hid hO26
    clear g1 g2 g3 g4 g5 hlg hO2 hO3 hO13 hO4 hO24 hO14 hO5 hO25 hO15 hO6 hO26
    have hwrap : IntKind.i64.wrap (256 + (n0 : Int)) = 256 + (n0 : Int) := IntWalk.i64_in _ (by omega)
    go_upto_region 8 with (fail)
    go_region_held3 (fun W => (W.cell? ⟨h, 0, none⟩ = some (.slice A0 n0 c0) ∧ W.cell? ⟨h, 1, none⟩ = some (.slice A1 n1 c1) ∧ W.cell? ⟨h, 2, none⟩ = some (.slice A2 n2 c2) ∧ W.cell? ⟨h, 3, none⟩ = some (.slice A3 n3 c3) ∧ W.cell? ⟨h, 4, none⟩ = some (.slice A4 n4 c4)) ∧ Only [] W2 W)
      (first | exact ⟨KS.out _ (HO2.out.trans (HO26.out.drew)), HO26.out.drew⟩ | exact ⟨KS.out _ (HO2.out.trans (by assumption)), (by assumption)⟩)
      (first
        | (go_at_call 18
           obtain ⟨-, hF⟩ := (by assumption : _ ∧ Only [] W2 _)
           refine (G1.out _ hF).mono ?_
           rintro e w1 ⟨rfl, rfl⟩)
        | (go_at_call 33
           obtain ⟨-, hF⟩ := (by assumption : _ ∧ Only [] W2 _)
           refine (G2.out _ hF).mono ?_
           rintro e w1 ⟨rfl, rfl⟩)
        | (go_at_call 34
           obtain ⟨-, hF⟩ := (by assumption : _ ∧ Only [] W2 _)
           refine (G3.out _ hF).mono ?_
           rintro e w1 ⟨rfl, hF1⟩
           replace hF1 := hF.trans hF1
           clear hF)
        | (go_at_call 16
           obtain ⟨-, hF⟩ := (by assumption : _ ∧ Only [] W2 _)
           refine (G4.out _ hF).mono ?_
           rintro e w1 ⟨u0, u1, u2, u3, u4, rfl, h5, hF1⟩
           replace hF1 := hF.trans hF1
           have H5 := Lib.hid h5.rd
           clear hF h5)
        | (go_at_call 21
           obtain ⟨-, hF⟩ := (by assumption : _ ∧ Only [] W2 _)
           refine (same5_any _ _ _ _ _ _ _ _ _ _ _ ws ms a b d H5.out (HR5.out.only (HO2.out.trans hF)) Hs.out.1 Hs.out.2.1 Hs.out.2.2.1 Hs.out.2.2.2.1 Hs.out.2.2.2.2).mono ?_
           rintro e w1 ⟨rfl, hF1⟩
           replace hF1 := hF.trans hF1
           clear hF)
        | (go_at_call 35
           obtain ⟨-, hF⟩ := (by assumption : _ ∧ Only [] W2 _)
           refine (G5.out _ hF).mono ?_
           rintro e w1 ⟨tb, rfl, -, rfl⟩)
        | (go_at_call 12
           obtain ⟨-, hF⟩ := (by assumption : _ ∧ Only [] W2 _)
           refine (known5_any _).mono ?_
           rintro e w1 ⟨rfl, hF1⟩
           replace hF1 := hF.trans hF1
           clear hF))
    all_goals
      go_wp2_with (fail)
      go_ret
      exact ⟨rfl, HO.out.trans (HO2.out.trans (by assumption))⟩
end Go.Proofs.Ytfnhdkabfkjodaa
