/- FileLoads. -/
import Derived.Test.YtgohinklnglgeaaDoorFi20K
import Derived.Test.YtgohinklnglgeaaDoorFi16K
import Derived.Test.YtgohinklnglgeaaDoorPk18
import Derived.Deep.RegionHeld3
set_option linter.unusedVariables false
set_option linter.unusedSimpArgs false
namespace Go.Proofs.YtgohinklnglgeaaDoor
open Go.RowKit
attribute [local go_sem] Oper.semAt_some

set_option maxRecDepth 100000 in
set_option maxHeartbeats 8000000 in
theorem fileLoads_walk (w : World) (A : Option Addr) (n c : Nat) (f : List UInt8) (hl : f.length = n) (hr : Rd w w.heap.size 1 A n (bvs f)) (hc : n ≤ c) (hb : c ≤ 1048576) (hT : Tabs w) :
    Calls Tryd.prog 5 #[.slice A n c] w fun e w' => e = .returned (.bool true) ∧ Only [] w w' := by
  have hm165 := byte_lt 165
  have HT := Lib.hid hT
  clear hT
  go_enter Tryd.func5, Tryd.ntmps5
  go_wp2_with (fail)
  refine (roomy_any A n c w.heap.size f 165 _ hr (by omega)).mono ?_
  rintro e w1 ⟨rfl, hb1, hO1⟩
  obtain ⟨h, hh⟩ : ∃ h, h = w.heap.size := ⟨_, rfl⟩
  rw [← hh] at hb1 ⊢
  have hf : Rd w1 w1.heap.size 1 (some ⟨h, 0, none⟩) (n + 80) (bvs (roomy f 165)) := (Rd.whole hb1 (by rw [bvs_length, roomy, List.length_append, List.length_replicate, hl, Nat.mul_one])).more hb1.lt
  have hf' : Rd w1 w1.heap.size 1 (some ⟨h, 0, none⟩) n (bvs f) := by
    have h1 := hf.take (k := n) (by omega)
    rw [Nat.mul_one, bvs_take] at h1
    have e : (roomy f 165).take n = f := by unfold roomy; rw [List.take_append_of_le_length (by omega), List.take_of_length_le (by omega)]
    rwa [e] at h1
  have hsl := run_slice_h (P := Tryd.prog) (A := some ⟨h, 0, none⟩) (n := n + 80) (c := n + 80) (m := n) (hi := (n : Int)) Tryd.underlying22 (size := 1) (by kernel_rfl) rfl (by omega)
  have Hload := Lib.hid (load_any w1 (some ⟨h, 0, none⟩) n (n + 80) f hl hf' (by omega) (by omega))
  have hr1 := (hr.only hO1 (by simp)).more hO1.size
  have Hl := Lib.hid hl
  have HO1 := Lib.hid hO1
  have Hf := Lib.hid hf
  have Hr1 := Lib.hid hr1
  clear hh hl hb1 hO1 hf hf' hr1 hr
  go_wp2_with (fail)
  refine Hload.out.mono ?_
  intro e w2 hpost
  obtain ⟨hO2, hcase⟩ := hpost
  have Hrl := Lib.hid (refLoad_any w2 A n c f Hl.out ((Hr1.out.only hO2 (by simp)).more hO2.size) (by omega) hc)
  have HO2 := Lib.hid (HO1.out.trans hO2)
  have Hf2 := Lib.hid ((Hf.out.only hO2 (by simp)).more hO2.size)
  have Hr2 := Lib.hid ((Hr1.out.only hO2 (by simp)).more hO2.size)
  clear Hload hO2 hsl
  rcases hcase with ⟨a, y, b, hE, hbb, rfl, hB⟩ | ⟨hE, g, base, hbase, rfl, hM⟩
  · have HE := Lib.hid hE
    have HB := Lib.hid hB
    have hbd := loadE_bd hE
    clear hE hB hbb
    go_wp2_with (fail)
    refine Hrl.out.mono ?_
    intro e w3 hpost
    obtain ⟨hO3, ⟨a', y', hE', rfl⟩ | ⟨hE', -⟩⟩ := hpost
    · rw [HE.out] at hE'
      have ha : a' = a := by simpa using (congrArg (fun z => (z.getD (0,0)).1) hE').symm
      have hy : y' = y := by simpa using (congrArg (fun z => (z.getD (0,0)).2) hE').symm
      subst ha hy
      obtain ⟨d6, hd6⟩ : ∃ z, z = w3.heap.size := ⟨_, rfl⟩
      go_upto_region 4 with (fail)
      rw [← hd6]
      refine name_it (p := fun y => Code.wp _ _ _ _ y) ?_
      intro W4 H4
      have hO4 : Only [] w3 W4 := by rw [H4.out]; exact ((Only.refl _ _).alloc _).alloc _
      have hF4 : Blk W4 (d6 + 1) 32 [.int .i64 (a' : Int), .int .i64 (y' : Int)] := by rw [H4.out]; exact Blk.new' _ _ _ (by simp [hd6]) rfl
      have hO24 := hO3.trans hO4
      have Hint := Lib.hid (intact_any (some ⟨h, 0, none⟩) A n (n + 80) c _ _ f 165 W4 (Hf2.out.only hO24 (by simp)) (Hr2.out.only hO24 (by simp)) (by omega) (by omega))
      have Href := Lib.hid (fun k => refused_some b a' y' hbd.1 (by omega) (by omega) (W4.drewN k) ((HB.out.only hO24 (by simp)).drewN k) (fun W hW => HT.out.only ((HO2.out.trans (hO24.drewN k)).trans hW)))
      have HO4 := Lib.hid (HO2.out.trans hO24)
      have e0 : W4.cell? ⟨d6 + 1, 0, none⟩ = some (.int .i64 (a' : Int)) := hF4.cell 0
      have e1 : W4.cell? ⟨d6 + 1, 1, none⟩ = some (.int .i64 (y' : Int)) := hF4.cell 1
      have HF4 := Lib.hid hF4
      have hy0 : ((y' : Int) != 0) = true := by simp; exact hbd.1
      clear hE' hO3 hO4 hF4 hO24 H4 hd6 hbd Hrl
      go_wp2_with (fail)
      refine Hint.out.mono ?_
      rintro e w5 ⟨rfl, k, rfl⟩
      go_wp2_with (fail)
      refine (Href.out k).mono ?_
      rintro e w6 ⟨rfl, hO6⟩
      have HO6 := Lib.hid ((HO4.out.drewN k).trans hO6)
      have e2 : w6.cell? ⟨d6 + 1, 1, none⟩ = some (.int .i64 (y' : Int)) := ((HF4.out.drewN k).only hO6 (by simp)).cell 1
      clear e0 e1 Hint Href hO6
      go_wp2_with (fail)
      refine (known6_any _ (HT.out.only HO6.out)).mono ?_
      rintro e w7 ⟨rfl, hO7⟩
      have HO7 := Lib.hid (HO6.out.trans hO7)
      clear hO7
      go_wp2_with (fail)
      go_ret
      exact ⟨rfl, HO7.out⟩
    · rw [HE.out] at hE'; cases hE'
  · have HE := Lib.hid hE
    have HM := Lib.hid hM
    clear hE hM hbase
    go_wp2_with (fail)
    refine Hrl.out.mono ?_
    intro e w3 hpost
    obtain ⟨hO3, ⟨a', y', hE', -⟩ | ⟨hE', v0, v1, v2, v3, v4, rfl, hR5⟩⟩ := hpost
    · rw [HE.out] at hE'; cases hE'
    · obtain ⟨hok, -⟩ := load_iff f HE.out
      obtain ⟨d6, hd6⟩ : ∃ z, z = w3.heap.size := ⟨_, rfl⟩
      have HR5 := Lib.hid hR5
      obtain ⟨⟨A0, c0, rfl, -⟩, ⟨A1, c1, rfl, -⟩, ⟨A2, c2, rfl, -⟩, ⟨A3, c3, rfl, -⟩, ⟨A4, c4, rfl, -⟩⟩ := hR5
      go_upto_region 4 with (fail)
      rw [← hd6]
      refine name_it (p := fun y => Code.wp _ _ _ _ y) ?_
      intro W4 H4
      have hO4 : Only [] w3 W4 := by rw [H4.out]; exact ((Only.refl _ _).alloc _).alloc _
      have hF4 : Blk W4 (d6 + 1) 32 [.int .i64 0, .int .i64 0] := by rw [H4.out]; exact Blk.new' _ _ _ (by simp [hd6]) rfl
      have hD4 : Blk W4 d6 38 [.slice A0 (pWs f).length c0, .slice A1 (pMs f).length c1, .slice A2 (pAs f).length c2, .slice A3 (pBs f).length c3, .slice A4 (pDs f).length c4] := by rw [H4.out]; exact (Blk.new' _ _ _ hd6.symm rfl).alloc _
      have hO24 := hO3.trans hO4
      have Hint := Lib.hid (intact_any (some ⟨h, 0, none⟩) A n (n + 80) c _ _ f 165 W4 (Hf2.out.only hO24 (by simp)) (Hr2.out.only hO24 (by simp)) (by omega) (by omega))
      have HO4 := Lib.hid (HO2.out.trans hO24)
      have HO24 := Lib.hid hO24
      have HO34 := Lib.hid hO4
      have e0 : W4.cell? ⟨d6 + 1, 0, none⟩ = some (.int .i64 0) := hF4.cell 0
      have e1 : W4.cell? ⟨d6 + 1, 1, none⟩ = some (.int .i64 0) := hF4.cell 1
      have HF4 := Lib.hid hF4
      have HD4 := Lib.hid hD4
      have Hok := Lib.hid hok
      clear hE' hO3 hO4 hF4 hD4 hO24 H4 hd6 Hrl hok
      go_wp2_with (fail)
      refine Hint.out.mono ?_
      rintro e w5 ⟨rfl, k, rfl⟩
      go_wp2_with (fail)
      refine (refused_none 0 (W4.drewN k)).mono ?_
      rintro e w6 ⟨rfl, hO6⟩
      have HO46 := Lib.hid (show Only [] W4 w6 from ((Only.refl [] W4).drewN k).trans hO6)
      have HO6 := Lib.hid ((HO4.out.drewN k).trans hO6)
      have e2 : w6.cell? ⟨d6 + 1, 1, none⟩ = some (.int .i64 0) := (HF4.out.only HO46.out (by simp)).cell 1
      clear e0 e1 Hint hO6
      go_upto_region 8 with (fail)
      have KS := Lib.hid (fun W (hW : Only [] w6 W) => (show W.cell? ⟨d6, 0, none⟩ = some (.slice A0 (pWs f).length c0) ∧ W.cell? ⟨d6, 1, none⟩ = some (.slice A1 (pMs f).length c1) ∧ W.cell? ⟨d6, 2, none⟩ = some (.slice A2 (pAs f).length c2) ∧ W.cell? ⟨d6, 3, none⟩ = some (.slice A3 (pBs f).length c3) ∧ W.cell? ⟨d6, 4, none⟩ = some (.slice A4 (pDs f).length c4) from
        ⟨(HD4.out.only (HO46.out.trans hW) (by simp)).cell 0, (HD4.out.only (HO46.out.trans hW) (by simp)).cell 1, (HD4.out.only (HO46.out.trans hW) (by simp)).cell 2, (HD4.out.only (HO46.out.trans hW) (by simp)).cell 3, (HD4.out.only (HO46.out.trans hW) (by simp)).cell 4⟩))
      have G1 := Lib.hid (fun W (hW : Only [] w6 W) => data_any W base g (pWs f) (pMs f) (pAs f) (pBs f) (pDs f) _ _ _ (HM.out.only0 ((HO24.out.trans HO46.out).trans hW)))
      have HRd := Lib.hid (fun W (hW : Only [] w6 W) => HR5.out.only ((HO34.out.trans HO46.out).trans hW))
      go_region_held3 (fun W => (W.cell? ⟨d6, 0, none⟩ = some (.slice A0 (pWs f).length c0) ∧ W.cell? ⟨d6, 1, none⟩ = some (.slice A1 (pMs f).length c1) ∧ W.cell? ⟨d6, 2, none⟩ = some (.slice A2 (pAs f).length c2) ∧ W.cell? ⟨d6, 3, none⟩ = some (.slice A3 (pBs f).length c3) ∧ W.cell? ⟨d6, 4, none⟩ = some (.slice A4 (pDs f).length c4)) ∧ Only [] w6 W)
        (first | exact ⟨KS.out _ (Only.refl [] w6).drew, (Only.refl [] w6).drew⟩ | exact ⟨KS.out _ (by assumption), (by assumption)⟩ | fail)
        (first
          | (go_at_call 21
             obtain ⟨-, hF⟩ := (by assumption : _ ∧ Only [] w6 _)
             refine (G1.out _ hF).mono ?_
             rintro e w1' ⟨u0, u1, u2, u3, u4, rfl, h5, hF1⟩
             replace hF1 := hF.trans hF1
             have H5 := Lib.hid h5.rd
             clear hF h5)
          | (go_at_call 20
             obtain ⟨-, hF⟩ := (by assumption : _ ∧ Only [] w6 _)
             refine (same5_any _ _ _ _ _ _ _ _ _ _ _ (pWs f) (pMs f) (pAs f) (pBs f) (pDs f) H5.out (HRd.out _ hF) (by have := Hok.out.n; omega) (by have := Hok.out.n; have := Hok.out.nm; omega) (by have := Hok.out.la; omega) (by have := Hok.out.lb; omega) (by have := Hok.out.ld; omega)).mono ?_
             rintro e w1' ⟨rfl, hF1⟩
             replace hF1 := hF.trans hF1
             clear hF)
          | (go_at_call 13
             obtain ⟨-, hF⟩ := (by assumption : _ ∧ Only [] w6 _)
             refine (known6_any _ (HT.out.only (HO6.out.trans hF))).mono ?_
             rintro e w4' ⟨rfl, hF4⟩
             replace hF4 := hF.trans hF4
             clear hF))
      all_goals
        go_wp2_with (fail)
        go_ret
        exact ⟨rfl, HO6.out.trans (by assumption)⟩
end Go.Proofs.YtgohinklnglgeaaDoor
