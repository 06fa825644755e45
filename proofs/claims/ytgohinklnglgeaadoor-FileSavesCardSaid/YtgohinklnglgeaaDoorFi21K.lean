/- FileSaves (printed by gen_fi21.py). -/
import Derived.Test.YtgohinklnglgeaaDoorFi20K
import Derived.Test.YtgohinklnglgeaaDoorPk18
import Derived.Test.YtgohinklnglgeaaDoorPk11
import Derived.Deep.RegionHeld3
set_option linter.unusedVariables false
set_option linter.unusedSimpArgs false
namespace Go.Proofs.YtgohinklnglgeaaDoor
open Go.RowKit
attribute [local go_sem] Oper.semAt_some

set_option maxRecDepth 100000 in
set_option maxHeartbeats 8000000 in
theorem fileSaves_walk (w : World) (v0 v1 v2 v3 v4 : Value) (ws : List ByteArray) (ms : List Mg) (a b d : List Sp) (hR : Rd5 w v0 v1 v2 v3 v4 ws ms a b d)
    (s0 : ws.length ≤ 8796093021952) (s1 : ms.length ≤ 5864062014634) (s2 : a.length ≤ 17592186043904) (s3 : b.length ≤ 17592186043904) (s4 : d.length ≤ 17592186043904) (hws : ∀ s ∈ ws, s.size ≤ maxLen) (hms : ∀ m ∈ ms, m.ok) (hT : Tabs w) :
    Calls Tryd.prog 4 #[.agg #[v0, v1, v2, v3, v4]] w fun e w' => e = .returned (.bool true) ∧ Only [] w w' := by
  obtain ⟨h, hh⟩ : ∃ h, h = w.heap.size := ⟨_, rfl⟩
  obtain ⟨W1, hW1⟩ : ∃ W1, W1 = w.alloc (.cells #[v0, v1, v2, v3, v4] 38) := ⟨_, rfl⟩
  have hb : Blk W1 h 38 [v0, v1, v2, v3, v4] := by rw [hW1]; exact Blk.new' _ _ _ hh.symm rfl
  have hO : Only [] w W1 := by rw [hW1]; exact (Only.refl _ _).alloc _
  have hR1 := hR.only hO
  have HR5 := Lib.hid hR1
  obtain ⟨⟨A0, c0, e0, -⟩, ⟨A1, c1, e1, -⟩, ⟨A2, c2, e2, -⟩, ⟨A3, c3, e3, -⟩, ⟨A4, c4, e4, -⟩⟩ := hR1
  obtain ⟨n0, hn0⟩ : ∃ n, n = ws.length := ⟨_, rfl⟩
  obtain ⟨n1, hn1⟩ : ∃ n, n = ms.length := ⟨_, rfl⟩
  obtain ⟨n2, hn2⟩ : ∃ n, n = a.length := ⟨_, rfl⟩
  obtain ⟨n3, hn3⟩ : ∃ n, n = b.length := ⟨_, rfl⟩
  obtain ⟨n4, hn4⟩ : ∃ n, n = d.length := ⟨_, rfl⟩
  rw [← hn0] at e0
  rw [← hn1] at e1
  rw [← hn2] at e2
  rw [← hn3] at e3
  rw [← hn4] at e4
  subst e0 e1 e2 e3 e4
  have kS : ∀ W, Only [] W1 W → (W.cell? ⟨h, 0, none⟩ = some (.slice A0 n0 c0) ∧ W.cell? ⟨h, 1, none⟩ = some (.slice A1 n1 c1) ∧ W.cell? ⟨h, 2, none⟩ = some (.slice A2 n2 c2) ∧ W.cell? ⟨h, 3, none⟩ = some (.slice A3 n3 c3) ∧ W.cell? ⟨h, 4, none⟩ = some (.slice A4 n4 c4)) := by
    intro W hw
    have k := hb.only hw (by simp)
    exact ⟨k.cell 0, k.cell 1, k.cell 2, k.cell 3, k.cell 4⟩
  have KS := Lib.hid kS
  have hof := ofM_any W1 _ _ _ _ _ ws ms a b d HR5.out (by omega) (by omega) s2 s3 s4 hws hms
  have Hof := Lib.hid hof
  have Hs := Lib.hid (And.intro s0 (And.intro s1 (And.intro s2 (And.intro s3 s4))))
  have Hh := Lib.hid hh
  have HW := Lib.hid hW1
  have HO := Lib.hid hO
  have HT := Lib.hid hT
  obtain ⟨k0, k1, k2, k3, k4⟩ := kS W1 (.refl _ _)
  clear hh hW1 hb hR kS hof hws hms hn0 hn1 hn2 hn3 hn4 s0 s1 s2 s3 s4 hO hT
  go_enter Tryd.func4, Tryd.ntmps4
  go_upto_region 1 with (fail)
  rw [← Hh.out, ← HW.out]
  go_wp2_with (fail)
  refine Hof.out.mono ?_
  intro e W2 hpost
  rcases hpost.no with ⟨rfl, hO2⟩ | ⟨g, base, rfl, hO2, hbase, hfa, hM, -⟩
  · have HO2 := Lib.hid hO2
    clear hpost k0 k1 k2 k3 k4 hO2
    go_wp2_with (fail)
    refine (known6_any W2 (HT.out.only (HO.out.trans HO2.out))).mono ?_
    rintro e W3 ⟨rfl, hO3⟩
    have HO3 := Lib.hid hO3
    clear hO3
    go_wp2_with (fail)
    go_ret
    exact ⟨rfl, HO.out.trans (HO2.out.trans HO3.out)⟩
  · have hok := fault_ok hfa
    have HO2 := Lib.hid hO2
    have G1 := Lib.hid (fun W (hw : Only [] W2 W) => save_any W base g ws ms a b d _ _ _ (hM.only0 hw) hok)
    have G2 := Lib.hid (fun W (hw : Only [] W1 W) => refSave_any W _ _ _ _ _ ws ms a b d (HR5.out.only hw) hok)
    obtain ⟨X, hX⟩ : ∃ X, X = saveF ws ms a b d := ⟨_, rfl⟩
    have hXl : X.length ≤ 1300000 := by rw [hX]; unfold saveF; rw [List.length_append, be4_length]; have := body_le hok; omega
    rw [← hX] at G1 G2
    have HXl := Lib.hid hXl
    clear hpost k0 k1 k2 k3 k4 hM hok hfa hbase hO2 hX hXl
    go_wp2_with (fail)
    go_region_held3 (fun W => (W.cell? ⟨h, 0, none⟩ = some (.slice A0 n0 c0) ∧ W.cell? ⟨h, 1, none⟩ = some (.slice A1 n1 c1) ∧ W.cell? ⟨h, 2, none⟩ = some (.slice A2 n2 c2) ∧ W.cell? ⟨h, 3, none⟩ = some (.slice A3 n3 c3) ∧ W.cell? ⟨h, 4, none⟩ = some (.slice A4 n4 c4)) ∧ Only [] W2 W)
      (first | exact ⟨KS.out _ (HO2.out.trans (Only.refl [] W2).drew), (Only.refl [] W2).drew⟩ | exact ⟨KS.out _ (HO2.out.trans (by assumption)), (by assumption)⟩ | fail)
      (first
        | (go_at_call 10
           obtain ⟨-, hF⟩ := (by assumption : _ ∧ Only [] W2 _)
           refine (G1.out _ hF).mono ?_
           rintro e w1 ⟨u1, rfl, hB1, hF1⟩
           replace hF1 := hF.trans hF1
           obtain ⟨Au, cu, rfl, -⟩ := own_slice hB1
           have HB1 := Lib.hid hB1
           clear hF hB1 G1)
        | (go_at_call 16
           obtain ⟨-, hF⟩ := (by assumption : _ ∧ Only [] W2 _)
           refine (G2.out _ (HO2.out.trans hF)).mono ?_
           rintro e w2 ⟨u2, rfl, hB2, hF2⟩
           replace HB1 := Lib.hid (HB1.out.only hF2)
           replace hF2 := hF.trans hF2
           obtain ⟨Av, cv, rfl, -⟩ := own_slice hB2
           have HB2 := Lib.hid hB2
           clear hF hB2 G2)
        | (go_at_call 15
           obtain ⟨-, hF⟩ := (by assumption : _ ∧ Only [] W2 _)
           have hsm := same_any Au Av X.length cu X.length cv _ _ X X _ (own_rd' HB1.out).2 (own_rd' HB2.out).2 (by have := HXl.out; omega)
           rw [decide_eq_true (rfl : X = X)] at hsm
           refine hsm.mono ?_
           rintro e w3 ⟨rfl, kk, rfl⟩
           have hF3 := hF.drewN kk
           clear hF hsm)
        | (go_at_call 13
           obtain ⟨-, hF⟩ := (by assumption : _ ∧ Only [] W2 _)
           refine (known6_any _ (HT.out.only (HO.out.trans (HO2.out.trans hF)))).mono ?_
           rintro e w4 ⟨rfl, hF4⟩
           replace hF4 := hF.trans hF4
           clear hF))
    all_goals
      go_wp2_with (fail)
      go_ret
      exact ⟨rfl, HO.out.trans (HO2.out.trans (by assumption))⟩
end Go.Proofs.YtgohinklnglgeaaDoor
