/- FileBack (printed by gen_fi21.py). -/
import Derived.Test.YtgohinklnglgeaaDoorFi20K
import Derived.Test.YtgohinklnglgeaaDoorPk18
import Derived.Test.YtgohinklnglgeaaDoorPk11
import Derived.Deep.RegionHeld3
set_option linter.unusedVariables false
set_option linter.unusedSimpArgs false
namespace Go.Proofs.YtgohinklnglgeaaDoor
open Go.RowKit
attribute [local go_sem] Oper.semAt_some

set_option maxRecDepth 100000 in
set_option maxHeartbeats 8000000 in
theorem fileBack_walk (w : World) (v0 v1 v2 v3 v4 : Value) (ws : List ByteArray) (ms : List Mg) (a b d : List Sp) (hR : Rd5 w v0 v1 v2 v3 v4 ws ms a b d)
    (s0 : ws.length ≤ 8796093021952) (s1 : ms.length ≤ 5864062014634) (s2 : a.length ≤ 17592186043904) (s3 : b.length ≤ 17592186043904) (s4 : d.length ≤ 17592186043904) (hws : ∀ s ∈ ws, s.size ≤ maxLen) (hms : ∀ m ∈ ms, m.ok) (A : Option Addr) (n c : Nat) (f : List UInt8) (hl : f.length = n) (hr : Rd w w.heap.size 1 A n (bvs f)) (hc : n ≤ c) (hbz : c ≤ 140737488351232) (hT : Tabs w) :
    Calls Tryd.prog 8 #[.agg #[v0, v1, v2, v3, v4], .slice A n c] w fun e w' => e = .returned (.bool true) ∧ Only [] w w' := by
  have Hl := Lib.hid hl
  have Hr := Lib.hid hr
  have hnc := hc
  clear hl hr
  obtain ⟨h, hh⟩ : ∃ h, h = w.heap.size := ⟨_, rfl⟩
  obtain ⟨W1, hW1⟩ : ∃ W1, W1 = w.alloc (.cells #[v0, v1, v2, v3, v4] 38) := ⟨_, rfl⟩
  have hb : Blk W1 h 38 [v0, v1, v2, v3, v4] := by rw [hW1]; exact Blk.new' _ _ _ hh.symm rfl
  have hO : Only [] w W1 := by rw [hW1]; exact (Only.refl _ _).alloc _
  have hR1 := hR.only hO
  have HR5 := Lib.hid hR1
  obtain ⟨⟨A0, c0, e0, -⟩, ⟨A1, c1, e1, -⟩, ⟨A2, c2, e2, -⟩, ⟨A3, c3, e3, -⟩, ⟨A4, c4, e4, -⟩⟩ := hR1
  obtain ⟨n0, hn0⟩ : ∃ n, n = ws.length := ⟨_, rfl⟩
  obtain ⟨n1, hn1⟩ : ∃ n, n = ms.length := ⟨_, rfl⟩
  obtain ⟨n2, hn2⟩ : ∃ n, n = a.length := ⟨_, rfl⟩
  obtain ⟨n3, hn3⟩ : ∃ n, n = b.length := ⟨_, rfl⟩
  obtain ⟨n4, hn4⟩ : ∃ n, n = d.length := ⟨_, rfl⟩
  rw [← hn0] at e0
  rw [← hn1] at e1
  rw [← hn2] at e2
  rw [← hn3] at e3
  rw [← hn4] at e4
  subst e0 e1 e2 e3 e4
  have kS : ∀ W, Only [] W1 W → (W.cell? ⟨h, 0, none⟩ = some (.slice A0 n0 c0) ∧ W.cell? ⟨h, 1, none⟩ = some (.slice A1 n1 c1) ∧ W.cell? ⟨h, 2, none⟩ = some (.slice A2 n2 c2) ∧ W.cell? ⟨h, 3, none⟩ = some (.slice A3 n3 c3) ∧ W.cell? ⟨h, 4, none⟩ = some (.slice A4 n4 c4)) := by
    intro W hw
    have k := hb.only hw (by simp)
    exact ⟨k.cell 0, k.cell 1, k.cell 2, k.cell 3, k.cell 4⟩
  have KS := Lib.hid kS
  have hof := ofM_any W1 _ _ _ _ _ ws ms a b d HR5.out (by omega) (by omega) s2 s3 s4 hws hms
  have Hof := Lib.hid hof
  have Hs := Lib.hid (And.intro s0 (And.intro s1 (And.intro s2 (And.intro s3 s4))))
  have Hh := Lib.hid hh
  have HW := Lib.hid hW1
  have HO := Lib.hid hO
  have HT := Lib.hid hT
  obtain ⟨k0, k1, k2, k3, k4⟩ := kS W1 (.refl _ _)
  clear hh hW1 hb hR kS hof hws hms hn0 hn1 hn2 hn3 hn4 s0 s1 s2 s3 s4 hO hT
  go_enter Tryd.func8, Tryd.ntmps8
  go_upto_region 1 with (fail)
  rw [← Hh.out, ← HW.out]
  go_wp2_with (fail)
  refine Hof.out.mono ?_
  intro e W2 hpost
  rcases hpost.no with ⟨rfl, hO2⟩ | ⟨g, base, rfl, hO2, hbase, hfa, hM, -⟩
  · have HX := Lib.hid (HO.out.trans hO2)
    clear hpost k0 k1 k2 k3 k4 hO2
    have Hld := Lib.hid (load_any W2 A n c f Hl.out ((Hr.out.only HX.out (by simp)).more HX.out.size) (by omega) hc)
    go_wp2_with (fail)
    refine Hld.out.mono ?_
    intro e wL hpost
    obtain ⟨hOL, hcase⟩ := hpost
    have HOL := Lib.hid (HX.out.trans hOL)
    clear hOL Hld
    rcases hcase with ⟨ra, ry, rb, hE, -, rfl, -⟩ | ⟨hE, gL, baseL, hbL, rfl, hML⟩
    · have hne := refNe
      clear hE
      go_wp2_with (fail)
      refine (known6_any _ (HT.out.only HOL.out)).mono ?_
      rintro e wK ⟨rfl, hOK⟩
      have HOK := Lib.hid (HOL.out.trans hOK)
      clear hOK
      go_wp2_with (fail)
      go_ret
      exact ⟨rfl, HOK.out⟩
    · have hne := nilNe
      obtain ⟨hokL, -, hfs, hlf⟩ := load_iff f hE
      have Gs := Lib.hid (save_any wL baseL gL (pWs f) (pMs f) (pAs f) (pBs f) (pDs f) _ _ _ hML hokL)
      rw [← hfs] at Gs
      have Hlf := Lib.hid hlf
      clear hE hML hokL hfs hbL hlf
      go_wp2_with (fail)
      refine Gs.out.mono ?_
      rintro e wS ⟨uS, rfl, hBS, hOS⟩
      obtain ⟨AS, cS, rfl, hcS, hRS, -⟩ := own_slice hBS
      have HOS := Lib.hid (HOL.out.trans hOS)
      have hsm := same_any AS A f.length cS n c _ _ f f wS hRS (Hr.out.only HOS.out (by simp)) (by have := Hlf.out; omega)
      rw [decide_eq_true (rfl : f = f)] at hsm
      have Hsm := Lib.hid hsm
      clear Gs hBS hOS hsm hRS
      go_wp2_with (fail)
      refine Hsm.out.mono ?_
      rintro e wT ⟨rfl, kk, rfl⟩
      go_wp2_with (fail)
      refine (known6_any _ (HT.out.only (HOS.out.drewN kk))).mono ?_
      rintro e wK ⟨rfl, hOK⟩
      have HOK := Lib.hid ((HOS.out.drewN kk).trans hOK)
      clear hOK
      go_wp2_with (fail)
      go_ret
      exact ⟨rfl, HOK.out⟩
  · have hok := fault_ok hfa
    have HO2 := Lib.hid hO2
    have G1 := Lib.hid (save_any W2 base g ws ms a b d _ _ _ hM hok)
    obtain ⟨X, hX⟩ : ∃ X, X = saveF ws ms a b d := ⟨_, rfl⟩
    have hXl : X.length ≤ 1300000 := by rw [hX]; unfold saveF; rw [List.length_append, be4_length]; have := body_le hok; omega
    have hls := load_save hfa (by rw [← hX]; omega)
    rw [← hX] at G1 hls
    have HXl := Lib.hid hXl
    have Hls := Lib.hid hls
    have HM := Lib.hid hM
    clear hpost k0 k1 k2 k3 k4 hM hok hfa hbase hO2 hX hXl hls
    go_wp2_with (fail)
    refine G1.out.mono ?_
    rintro e W3 ⟨u1, rfl, hB1, hO3⟩
    obtain ⟨Au, cu, rfl, hcu, hRu, -⟩ := own_slice hB1
    have Hld1 := Lib.hid (load_any W3 Au X.length cu X rfl hRu (by have := HXl.out; omega) hcu)
    have HO3 := Lib.hid (HO2.out.trans hO3)
    have HO23 := Lib.hid hO3
    clear hB1 hO3 hRu G1
    go_wp2_with (fail)
    refine Hld1.out.mono ?_
    intro e W4 hpost
    obtain ⟨hO4, ⟨ra, ry, rb, hE, -⟩ | ⟨-, gx, basex, hbx, rfl, hMx⟩⟩ := hpost
    · rw [Hls.out.1] at hE; cases hE
    · obtain ⟨-, e1, e2, e3, e4, e5⟩ := Hls.out
      rw [e1, e2, e3, e4, e5] at hMx
      have HMx := Lib.hid hMx
      have HO24 := Lib.hid (HO23.out.trans hO4)
      have HO4 := Lib.hid (HO3.out.trans hO4)
      have hne := nilNe
      obtain ⟨lg, hlg⟩ : ∃ lg, lg = lgF ws := ⟨_, rfl⟩
      have G1 := Lib.hid (fun W (hw : Only [] W4 W) => data_any W basex gx ws ms a b d _ _ _ (HMx.out.only0 hw))
      have G2 := Lib.hid (fun W (hw : Only [] W4 W) => longest_any W basex gx ws ms a b d _ _ _ (HMx.out.only0 hw))
      have G3 := Lib.hid (fun W (hw : Only [] W4 W) => longest_any W base g ws ms a b d _ _ _ (HM.out.only0 (HO24.out.trans hw)))
      rw [← hlg] at G2 G3
      clear e1 e2 e3 e4 e5 hMx hO4 hbx Hld1 hlg
      obtain ⟨k0, k1, k2, k3, k4⟩ := KS.out W4 HO4.out
      go_upto_region 6 with (fail)
      go_cut [50] (fun s wx => s = .bool false ∧ Only [] W4 wx)
      case first =>
        go_region_held3 (fun W => (W.cell? ⟨h, 0, none⟩ = some (.slice A0 n0 c0) ∧ W.cell? ⟨h, 1, none⟩ = some (.slice A1 n1 c1) ∧ W.cell? ⟨h, 2, none⟩ = some (.slice A2 n2 c2) ∧ W.cell? ⟨h, 3, none⟩ = some (.slice A3 n3 c3) ∧ W.cell? ⟨h, 4, none⟩ = some (.slice A4 n4 c4)) ∧ Only [] W4 W)
          (first | exact ⟨KS.out _ (HO4.out.trans (Only.refl [] W4).drew), (Only.refl [] W4).drew⟩ | exact ⟨KS.out _ (HO4.out.trans (by assumption)), (by assumption)⟩ | fail)
          (first
            | (go_at_call 21
               obtain ⟨-, hF⟩ := (by assumption : _ ∧ Only [] W4 _)
               refine (G1.out _ hF).mono ?_
               rintro e w1' ⟨y0, y1, y2, y3, y4, rfl, h5, hF1⟩
               replace hF1 := hF.trans hF1
               have H5 := Lib.hid h5.rd
               clear hF h5)
            | (go_at_call 20
               obtain ⟨-, hF⟩ := (by assumption : _ ∧ Only [] W4 _)
               refine (same5_any _ _ _ _ _ _ _ _ _ _ _ ws ms a b d H5.out (HR5.out.only (HO4.out.trans hF)) Hs.out.1 Hs.out.2.1 Hs.out.2.2.1 Hs.out.2.2.2.1 Hs.out.2.2.2.2).mono ?_
               rintro e w2' ⟨rfl, hF2⟩
               replace hF2 := hF.trans hF2
               clear hF)
            | (go_at_call 27
               obtain ⟨-, hF⟩ := (by assumption : _ ∧ Only [] W4 _)
               first
               | (refine (G2.out _ hF).mono ?_
                  rintro e w3' ⟨rfl, rfl⟩
                  clear G2)
               | (refine (G3.out _ hF).mono ?_
                  rintro e w4' ⟨rfl, rfl⟩)))
        all_goals
          go_wp2_with (fail)
          go_meet
          case rel => exact ⟨rfl, by first | assumption | exact (by assumption : _ ∧ Only [] W4 _).2⟩
      case rest =>
        obtain ⟨rfl, hcut⟩ := hcut
        have HX := Lib.hid (HO.out.trans (HO4.out.trans hcut))
        clear hcut k0 k1 k2 k3 k4 G1 G2 G3
        have Hld := Lib.hid (load_any wc A n c f Hl.out ((Hr.out.only HX.out (by simp)).more HX.out.size) (by omega) hc)
        go_wp2_with (fail)
        refine Hld.out.mono ?_
        intro e wL hpost
        obtain ⟨hOL, hcase⟩ := hpost
        have HOL := Lib.hid (HX.out.trans hOL)
        clear hOL Hld
        rcases hcase with ⟨ra, ry, rb, hE, -, rfl, -⟩ | ⟨hE, gL, baseL, hbL, rfl, hML⟩
        · have hne := refNe
          clear hE
          go_wp2_with (fail)
          refine (known6_any _ (HT.out.only HOL.out)).mono ?_
          rintro e wK ⟨rfl, hOK⟩
          have HOK := Lib.hid (HOL.out.trans hOK)
          clear hOK
          go_wp2_with (fail)
          go_ret
          exact ⟨rfl, HOK.out⟩
        · have hne := nilNe
          obtain ⟨hokL, -, hfs, hlf⟩ := load_iff f hE
          have Gs := Lib.hid (save_any wL baseL gL (pWs f) (pMs f) (pAs f) (pBs f) (pDs f) _ _ _ hML hokL)
          rw [← hfs] at Gs
          have Hlf := Lib.hid hlf
          clear hE hML hokL hfs hbL hlf
          go_wp2_with (fail)
          refine Gs.out.mono ?_
          rintro e wS ⟨uS, rfl, hBS, hOS⟩
          obtain ⟨AS, cS, rfl, hcS, hRS, -⟩ := own_slice hBS
          have HOS := Lib.hid (HOL.out.trans hOS)
          have hsm := same_any AS A f.length cS n c _ _ f f wS hRS (Hr.out.only HOS.out (by simp)) (by have := Hlf.out; omega)
          rw [decide_eq_true (rfl : f = f)] at hsm
          have Hsm := Lib.hid hsm
          clear Gs hBS hOS hsm hRS
          go_wp2_with (fail)
          refine Hsm.out.mono ?_
          rintro e wT ⟨rfl, kk, rfl⟩
          go_wp2_with (fail)
          refine (known6_any _ (HT.out.only (HOS.out.drewN kk))).mono ?_
          rintro e wK ⟨rfl, hOK⟩
          have HOK := Lib.hid ((HOS.out.drewN kk).trans hOK)
          clear hOK
          go_wp2_with (fail)
          go_ret
          exact ⟨rfl, HOK.out⟩
end Go.Proofs.YtgohinklnglgeaaDoor
