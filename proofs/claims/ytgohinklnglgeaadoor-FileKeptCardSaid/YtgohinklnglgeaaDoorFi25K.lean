/- FileKept (printed by gen_fi21.py). -/
import Derived.Test.YtgohinklnglgeaaDoorFi20K
import Derived.Test.YtgohinklnglgeaaDoorPk18
import Derived.Test.YtgohinklnglgeaaDoorPk11
import Derived.Test.YtgohinklnglgeaaDoorPk26
import Derived.Deep.RegionHeld3
set_option linter.unusedVariables false
set_option linter.unusedSimpArgs false
namespace Go.Proofs.YtgohinklnglgeaaDoor
open Go.RowKit
attribute [local go_sem] Oper.semAt_some

theorem eql_ref (b1 b2 : Nat) (h : b1 ≠ b2) (w : World) {cs1 cs2 : List Value} (h1 : Blk w b1 80 cs1) (h2' : Blk w b2 80 cs2) : (binOp .eql 27 (.iface 78 (.pointer (some ⟨b1, 0, none⟩))) (.iface 78 (.pointer (some ⟨b2, 0, none⟩)))).run Tryd.prog w = .ok (.bool false) w := by
  obtain ⟨i, hi, hc⟩ : ∃ i, Tryd.prog.info? 78 = some i ∧ i.comparable = true := by
    have h : (Tryd.prog.info? 78).map (·.comparable) = some true := by kernel_rfl
    exact Option.map_eq_some_iff.1 h
  have hsa := run_sameAddr_other (P := Tryd.prog) (w := w) (a := ⟨b1, 0, none⟩) (b := ⟨b2, 0, none⟩) (by intro e; exact h (by simpa using congrArg Addr.block e)) h1 h2'
  have h : ∀ d : Nat, (Op.equalIn (d + 2) 27 (.iface 78 (.pointer (some ⟨b1, 0, none⟩))) (.iface 78 (.pointer (some ⟨b2, 0, none⟩)))).run Tryd.prog w = .ok false w := fun d => by
    simp [Op.equalIn, run_underlying Tryd.underlying27, run_underlying Tryd.underlying78, typeInfo, hi, hc, hsa]
  have h2 : (Op.equal 27 (.iface 78 (.pointer (some ⟨b1, 0, none⟩))) (.iface 78 (.pointer (some ⟨b2, 0, none⟩)))).run Tryd.prog w = .ok false w := h 9998
  simp [binOp, h2]
theorem sameErr_ref (b1 b2 : Nat) (h : b1 ≠ b2) (w : World) {cs1 cs2 : List Value} (h1 : Blk w b1 80 cs1) (h2' : Blk w b2 80 cs2) : Calls Tryd.prog 24 #[.iface 78 (.pointer (some ⟨b1, 0, none⟩)), .iface 78 (.pointer (some ⟨b2, 0, none⟩))] w fun e w' => e = .returned (.bool false) ∧ w = w' := by
  have he := eql_ref b1 b2 h w h1 h2'
  have hn := fun t v => refEq t v w
  clear h h1 h2'
  go_enter Tryd.func24, Tryd.ntmps24
  go_wp2
  go_ret
  exact ⟨rfl, rfl⟩
set_option maxRecDepth 100000 in
set_option maxHeartbeats 16000000 in
theorem fileKept_walk (w : World) (v0 v1 v2 v3 v4 : Value) (ws : List ByteArray) (ms : List Mg) (a b d : List Sp) (hR : Rd5 w v0 v1 v2 v3 v4 ws ms a b d)
    (s0 : ws.length ≤ 8796093021952) (s1 : ms.length ≤ 5864062014634) (s2 : a.length ≤ 17592186043904) (s3 : b.length ≤ 17592186043904) (s4 : d.length ≤ 17592186043904) (hws : ∀ s ∈ ws, s.size ≤ maxLen) (hms : ∀ m ∈ ms, m.ok) (A : Option Addr) (n c : Nat) (f : List UInt8) (hl : f.length = n) (hr : Rd w w.heap.size 1 A n (bvs f)) (hc : n ≤ c) (hbz : c ≤ 140737488351232) (hT : Tabs w) :
    Calls Tryd.prog 7 #[.agg #[v0, v1, v2, v3, v4], .slice A n c] w fun e w' => e = .returned (.bool true) ∧ Only [] w w' := by
  have Hl := Lib.hid hl
  have Hr := Lib.hid hr
  clear hl hr
  obtain ⟨h, hh⟩ : ∃ h, h = w.heap.size := ⟨_, rfl⟩
  obtain ⟨W1, hW1⟩ : ∃ W1, W1 = w.alloc (.cells #[v0, v1, v2, v3, v4] 38) := ⟨_, rfl⟩
  have hb : Blk W1 h 38 [v0, v1, v2, v3, v4] := by rw [hW1]; exact Blk.new' _ _ _ hh.symm rfl
  have hO : Only [] w W1 := by rw [hW1]; exact (Only.refl _ _).alloc _
  have hR1 := hR.only hO
  have HR5 := Lib.hid hR1
  obtain ⟨⟨A0, c0, e0, -⟩, ⟨A1, c1, e1, -⟩, ⟨A2, c2, e2, -⟩, ⟨A3, c3, e3, -⟩, ⟨A4, c4, e4, -⟩⟩ := hR1
  obtain ⟨n0, hn0⟩ : ∃ n, n = ws.length := ⟨_, rfl⟩
  obtain ⟨n1, hn1⟩ : ∃ n, n = ms.length := ⟨_, rfl⟩
  obtain ⟨n2, hn2⟩ : ∃ n, n = a.length := ⟨_, rfl⟩
  obtain ⟨n3, hn3⟩ : ∃ n, n = b.length := ⟨_, rfl⟩
  obtain ⟨n4, hn4⟩ : ∃ n, n = d.length := ⟨_, rfl⟩
  rw [← hn0] at e0
  rw [← hn1] at e1
  rw [← hn2] at e2
  rw [← hn3] at e3
  rw [← hn4] at e4
  subst e0 e1 e2 e3 e4
  have kS : ∀ W, Only [] W1 W → (W.cell? ⟨h, 0, none⟩ = some (.slice A0 n0 c0) ∧ W.cell? ⟨h, 1, none⟩ = some (.slice A1 n1 c1) ∧ W.cell? ⟨h, 2, none⟩ = some (.slice A2 n2 c2) ∧ W.cell? ⟨h, 3, none⟩ = some (.slice A3 n3 c3) ∧ W.cell? ⟨h, 4, none⟩ = some (.slice A4 n4 c4)) := by
    intro W hw
    have k := hb.only hw (by simp)
    exact ⟨k.cell 0, k.cell 1, k.cell 2, k.cell 3, k.cell 4⟩
  have KS := Lib.hid kS
  have hof := ofM_any W1 _ _ _ _ _ ws ms a b d HR5.out (by omega) (by omega) s2 s3 s4 hws hms
  have Hof := Lib.hid hof
  have Hs := Lib.hid (And.intro s0 (And.intro s1 (And.intro s2 (And.intro s3 s4))))
  have Hh := Lib.hid hh
  have HW := Lib.hid hW1
  have HO := Lib.hid hO
  have HT := Lib.hid hT
  obtain ⟨k0, k1, k2, k3, k4⟩ := kS W1 (.refl _ _)
  clear hh hW1 hb hR kS hof hws hms hn0 hn1 hn2 hn3 hn4 s0 s1 s2 s3 s4 hO hT
  go_enter Tryd.func7, Tryd.ntmps7
  go_upto_region 1 with (fail)
  rw [← Hh.out, ← HW.out]
  go_wp2_with (fail)
  refine Hof.out.mono ?_
  intro e W2 hpost
  rcases hpost.no with ⟨rfl, hO2⟩ | ⟨g, base, rfl, hO2, hbase, hfa, hM, -⟩
  · have HO2 := Lib.hid hO2
    clear hpost k0 k1 k2 k3 k4 hO2
    go_wp2_with (fail)
    refine (known6_any W2 (HT.out.only (HO.out.trans HO2.out))).mono ?_
    rintro e W3 ⟨rfl, hO3⟩
    have HO3 := Lib.hid hO3
    clear hO3
    go_wp2_with (fail)
    go_ret
    exact ⟨rfl, HO.out.trans (HO2.out.trans HO3.out)⟩
  · have hok := fault_ok hfa
    have HO2 := Lib.hid hO2
    have G1 := Lib.hid (fun W (hw : Only [] W2 W) => save_any W base g ws ms a b d _ _ _ (hM.only0 hw) hok)
    have G2 := Lib.hid (fun W (hw : Only [] W1 W) => refSave_any W _ _ _ _ _ ws ms a b d (HR5.out.only hw) hok)
    obtain ⟨X, hX⟩ : ∃ X, X = saveF ws ms a b d := ⟨_, rfl⟩
    have hXl : X.length ≤ 1300000 := by rw [hX]; unfold saveF; rw [List.length_append, be4_length]; have := body_le hok; omega
    rw [← hX] at G1 G2
    have HXl := Lib.hid hXl
    obtain ⟨gb, hgb⟩ : ∃ z, z = W2.heap.size := ⟨_, rfl⟩
    have Hgb := Lib.hid hgb
    clear hpost k0 k1 k2 k3 k4 hM hok hfa hbase hO2 hX hXl hgb
    go_wp2_with (fail)
    rw [← Hgb.out]
    refine name_it (p := fun y => Calls _ _ _ y _) ?_
    intro W3 H3
    have hbk : Blk W3 gb 57 [.slice none 0 0, .slice none 0 0, .int .i64 0, .bool false] := by rw [H3.out]; exact Blk.new' _ _ _ Hgb.out.symm rfl
    have hO23 : Only [] W2 W3 := by rw [H3.out]; exact (Only.refl _ _).alloc _
    have hBk0 := book_new (base := W2.heap.size) hbk (by rw [Hgb.out]; omega)
    have HBk0 := Lib.hid hBk0
    have HO23 := Lib.hid hO23
    have Hgz := Lib.hid (show W2.heap.size ≤ gb ∧ gb < W3.heap.size from ⟨by rw [Hgb.out]; omega, hbk.lt⟩)
    clear H3 hbk hO23 hBk0
    refine (G1.out W3 HO23.out).mono ?_
    rintro e W4 ⟨u1, rfl, hB1, hO4⟩
    obtain ⟨A1', c1', rfl, -⟩ := own_slice hB1
    have hBk1 := HBk0.out.only0 hO4
    have hKeep := Lib.hid (keep_any W4 W2.heap.size gb _ _ _ _ _ _ hBk1 (by simp) A1' X.length c1' X (own_base hB1 (by have := Hgz.out; have := HO23.out.size; omega)) (by intro k hk hx; have h1 := (own_lt hB1 hk).1; simp at hx; have := Hgz.out; omega) (by intro e he; simp at he) (by have := HXl.out; omega))
    have HO24 := Lib.hid (HO23.out.trans hO4)
    have Hsz4 := Lib.hid hO4.size
    clear hB1 hO4 hBk1
    go_wp2_with (fail)
    refine hKeep.out.mono ?_
    rintro e W5 ⟨rfl, hK3⟩
    obtain ⟨j3, bl3, lv3, wv3, held3, ws3, hB3, hL3, hlo3, hOk, hO5, -⟩ := hK3.next (lo := gb) (by simp) (by have := Hgz.out; have := Hsz4.out; omega) Hgz.out.1 HO24.out
    generalize List.drop j3 _ = L3 at hB3 hL3
    have HB3 := Lib.hid hB3
    have HL3 := Lib.hid hL3
    have Hlo3 := Lib.hid hlo3
    have HO25 := Lib.hid hO5
    clear hK3 hB3 hL3 hlo3 hOk hO5 hKeep
    go_wp2_with (fail)
    refine (G1.out W5 HO25.out).mono ?_
    rintro e W6 ⟨u2, rfl, hB1, hO6⟩
    obtain ⟨A2', c2', rfl, -⟩ := own_slice hB1
    have hBk1 := HB3.out.only0 hO6
    have hKeep := Lib.hid (keep_any W6 W2.heap.size gb _ _ _ _ _ _ hBk1 HL3.out A2' X.length c2' X (own_base hB1 (by have := HO25.out.size; omega)) (by intro k hk hx; have h1 := (own_lt hB1 hk).1; have h2 := (HB3.out.own _ hx).2; omega) (by intro e he k hk hk2; have h1 := (own_lt hB1 hk2).1; have h2 := (own_lt (HB3.out.ents e he).1 hk).2; omega) (by have := HXl.out; omega))
    have HO26 := Lib.hid (HO25.out.trans hO6)
    have Hsz6 := Lib.hid (show gb ≤ W6.heap.size by have h1 := HB3.out.blk.lt; have := hO6.size; omega)
    clear hB1 hO6 hBk1
    go_wp2_with (fail)
    refine hKeep.out.mono ?_
    rintro e W7 ⟨rfl, hK3⟩
    obtain ⟨j5, bl5, lv5, wv5, held5, ws5, hB5, hL5, hlo5, hOk, hO7, -⟩ := hK3.next (lo := gb) Hlo3.out Hsz6.out Hgz.out.1 HO26.out
    generalize List.drop j5 _ = L5 at hB5 hL5
    have HB5 := Lib.hid hB5
    have HL5 := Lib.hid hL5
    have HO27 := Lib.hid hO7
    have HO17 := Lib.hid (HO.out.trans (HO2.out.trans hO7))
    clear hK3 hB5 hL5 hlo5 hOk hO7 hKeep
    have Hld := Lib.hid (load_any W7 A n c f Hl.out ((Hr.out.only HO17.out (by simp)).more HO17.out.size) (by omega) hc)
    go_wp2_with (fail)
    refine Hld.out.mono ?_
    intro e W8 hpost
    obtain ⟨hO8, hcase⟩ := hpost
    have HO28 := Lib.hid (HO27.out.trans hO8)
    have HO18 := Lib.hid (HO17.out.trans hO8)
    have HO78 := Lib.hid hO8
    have Hld2 := Lib.hid (load_any W8 A n c f Hl.out ((Hr.out.only HO18.out (by simp)).more HO18.out.size) (by omega) hc)
    clear Hld hO8
    rcases hcase with ⟨ra, ry, rb, hE, -, rfl, hBr⟩ | ⟨hE, gL, baseL, hbL, rfl, -⟩
    · have Hlt := Lib.hid hBr
      have HE := Lib.hid hE
      clear hBr hE
      go_wp2_with (fail)
      refine Hld2.out.mono ?_
      intro e W9 hpost
      obtain ⟨hO9, ⟨ra2, ry2, rb2, -, hb2, rfl, hBr2⟩ | ⟨hE2, -⟩⟩ := hpost
      · have HO29 := Lib.hid (HO28.out.trans hO9)
        have HO19 := Lib.hid (HO18.out.trans hO9)
        have HBk := Lib.hid (fun W (hW : Only [] W9 W) => HB5.out.only0 ((HO78.out.trans hO9).trans hW))
        have Hse := Lib.hid (sameErr_ref rb rb2 (by have := Hlt.out.lt; omega) W9 (Hlt.out.only hO9 (by simp)) hBr2)
        have hne := refNe
        obtain ⟨k0, k1, k2, k3, k4⟩ := KS.out W9 (HO2.out.trans HO29.out)
        clear hO9 hb2 Hld2 hBr2
        go_wp2_with (fail)
        refine Hse.out.mono ?_
        rintro e W9' ⟨rfl, rfl⟩
        go_wp2_with (fail)
        have HX9 := Lib.hid (HO19.out)
        go_region_held3 (fun W => (W.cell? ⟨h, 0, none⟩ = some (.slice A0 n0 c0) ∧ W.cell? ⟨h, 1, none⟩ = some (.slice A1 n1 c1) ∧ W.cell? ⟨h, 2, none⟩ = some (.slice A2 n2 c2) ∧ W.cell? ⟨h, 3, none⟩ = some (.slice A3 n3 c3) ∧ W.cell? ⟨h, 4, none⟩ = some (.slice A4 n4 c4)) ∧ Only [] W2 W)
          (first | exact ⟨KS.out _ (HO2.out.trans (HO29.out.drew)), HO29.out.drew⟩ | exact ⟨KS.out _ (HO2.out.trans (by assumption)), (by assumption)⟩ | fail)
          (first
            | (go_at_call 25
               have hBw := HBk.out _ (Only.refl [] W9).drew
               refine (apart_any _ W2.heap.size gb _ _ _ _ _ _ hBw (by have := HL5.out; omega)).mono ?_
               rintro e w1 ⟨rfl, hOa⟩
               have hF1 : Only [] W2 w1 := HO29.out.trans' hOa.ofDrew (by
                 intro x hx
                 simp only [List.mem_append, List.mem_flatMap, Option.mem_toList] at hx
                 rcases hx with hx | ⟨e, he, hk⟩
                 · exact .inr (hBw.own x hx).1
                 · exact .inr (own_lt (hBw.ents e he).1 hk).1)
               clear hBw hOa)
            | (go_at_call 10
               obtain ⟨-, hF⟩ := (by assumption : _ ∧ Only [] W2 _)
               refine (G1.out _ hF).mono ?_
               rintro e w1 ⟨u1, rfl, hB1, hF1⟩
               replace hF1 := hF.trans hF1
               obtain ⟨Au, cu, rfl, -⟩ := own_slice hB1
               have HB1 := Lib.hid hB1
               clear hF hB1 G1)
            | (go_at_call 16
               obtain ⟨-, hF⟩ := (by assumption : _ ∧ Only [] W2 _)
               refine (G2.out _ (HO2.out.trans hF)).mono ?_
               rintro e w2 ⟨u2, rfl, hB2, hF2⟩
               replace HB1 := Lib.hid (HB1.out.only hF2)
               replace hF2 := hF.trans hF2
               obtain ⟨Av, cv, rfl, -⟩ := own_slice hB2
               have HB2 := Lib.hid hB2
               clear hF hB2 G2)
            | (go_at_call 15
               obtain ⟨-, hF⟩ := (by assumption : _ ∧ Only [] W2 _)
               have hsm := same_any Au Av X.length cu X.length cv _ _ X X _ (own_rd' HB1.out).2 (own_rd' HB2.out).2 (by have := HXl.out; omega)
               rw [decide_eq_true (rfl : X = X)] at hsm
               refine hsm.mono ?_
               rintro e w3 ⟨rfl, kk, rfl⟩
               have hF3 := hF.drewN kk
               clear hF hsm)
            | (go_at_call 13
               obtain ⟨-, hF⟩ := (by assumption : _ ∧ Only [] W2 _)
               refine (known6_any _ (HT.out.only (HO.out.trans (HO2.out.trans hF)))).mono ?_
               rintro e w4 ⟨rfl, hF4⟩
               replace hF4 := hF.trans hF4
               clear hF))
        all_goals
          go_wp2_with (fail)
          go_ret
          exact ⟨rfl, HO.out.trans (HO2.out.trans (by assumption))⟩
      · rw [HE.out] at hE2; cases hE2
    · have HE := Lib.hid hE
      clear hE hbL
      go_wp2_with (fail)
      refine Hld2.out.mono ?_
      intro e W9 hpost
      obtain ⟨hO9, ⟨ra2, ry2, rb2, hE2, -⟩ | ⟨-, gL2, baseL2, hbL2, rfl, -⟩⟩ := hpost
      · rw [HE.out] at hE2; cases hE2
      · have HO29 := Lib.hid (HO28.out.trans hO9)
        have HO19 := Lib.hid (HO18.out.trans hO9)
        have HBk := Lib.hid (fun W (hW : Only [] W9 W) => HB5.out.only0 ((HO78.out.trans hO9).trans hW))
        have hne := nilNe
        obtain ⟨k0, k1, k2, k3, k4⟩ := KS.out W9 (HO2.out.trans HO29.out)
        clear hO9 hbL2 Hld2
        go_wp2_with (fail)
        have HX9 := Lib.hid (HO19.out)
        go_region_held3 (fun W => (W.cell? ⟨h, 0, none⟩ = some (.slice A0 n0 c0) ∧ W.cell? ⟨h, 1, none⟩ = some (.slice A1 n1 c1) ∧ W.cell? ⟨h, 2, none⟩ = some (.slice A2 n2 c2) ∧ W.cell? ⟨h, 3, none⟩ = some (.slice A3 n3 c3) ∧ W.cell? ⟨h, 4, none⟩ = some (.slice A4 n4 c4)) ∧ Only [] W2 W)
          (first | exact ⟨KS.out _ (HO2.out.trans (HO29.out.drew)), HO29.out.drew⟩ | exact ⟨KS.out _ (HO2.out.trans (by assumption)), (by assumption)⟩ | fail)
          (first
            | (go_at_call 25
               have hBw := HBk.out _ (Only.refl [] W9).drew
               refine (apart_any _ W2.heap.size gb _ _ _ _ _ _ hBw (by have := HL5.out; omega)).mono ?_
               rintro e w1 ⟨rfl, hOa⟩
               have hF1 : Only [] W2 w1 := HO29.out.trans' hOa.ofDrew (by
                 intro x hx
                 simp only [List.mem_append, List.mem_flatMap, Option.mem_toList] at hx
                 rcases hx with hx | ⟨e, he, hk⟩
                 · exact .inr (hBw.own x hx).1
                 · exact .inr (own_lt (hBw.ents e he).1 hk).1)
               clear hBw hOa)
            | (go_at_call 10
               obtain ⟨-, hF⟩ := (by assumption : _ ∧ Only [] W2 _)
               refine (G1.out _ hF).mono ?_
               rintro e w1 ⟨u1, rfl, hB1, hF1⟩
               replace hF1 := hF.trans hF1
               obtain ⟨Au, cu, rfl, -⟩ := own_slice hB1
               have HB1 := Lib.hid hB1
               clear hF hB1 G1)
            | (go_at_call 16
               obtain ⟨-, hF⟩ := (by assumption : _ ∧ Only [] W2 _)
               refine (G2.out _ (HO2.out.trans hF)).mono ?_
               rintro e w2 ⟨u2, rfl, hB2, hF2⟩
               replace HB1 := Lib.hid (HB1.out.only hF2)
               replace hF2 := hF.trans hF2
               obtain ⟨Av, cv, rfl, -⟩ := own_slice hB2
               have HB2 := Lib.hid hB2
               clear hF hB2 G2)
            | (go_at_call 15
               obtain ⟨-, hF⟩ := (by assumption : _ ∧ Only [] W2 _)
               have hsm := same_any Au Av X.length cu X.length cv _ _ X X _ (own_rd' HB1.out).2 (own_rd' HB2.out).2 (by have := HXl.out; omega)
               rw [decide_eq_true (rfl : X = X)] at hsm
               refine hsm.mono ?_
               rintro e w3 ⟨rfl, kk, rfl⟩
               have hF3 := hF.drewN kk
               clear hF hsm)
            | (go_at_call 13
               obtain ⟨-, hF⟩ := (by assumption : _ ∧ Only [] W2 _)
               refine (known6_any _ (HT.out.only (HO.out.trans (HO2.out.trans hF)))).mono ?_
               rintro e w4 ⟨rfl, hF4⟩
               replace hF4 := hF.trans hF4
               clear hF))
        all_goals
          go_wp2_with (fail)
          go_ret
          exact ⟨rfl, HO.out.trans (HO2.out.trans (by assumption))⟩
end Go.Proofs.YtgohinklnglgeaaDoor
