/- Several texts in one: Chapter 6's reader: data (printed by gen_fi7.py).; The document's answer for chapter 5: Check.; tesserakeep: Large, Of.; House's data; chapter 5's known runs. -/
import Derived.Test.YtgohinklnglgeaaDoorPk10
import Derived.Test.YtgohinklnglgeaaDoorPk7
set_option linter.unusedVariables false
set_option linter.unusedSimpArgs false
namespace Go.Proofs.YtgohinklnglgeaaDoor
open Go.RowKit
attribute [local go_sem] Oper.semAt_some
set_option maxRecDepth 100000 in
set_option maxHeartbeats 8000000 in
theorem data_any6 (w : World) (p B : Nat) (A : Option Addr) (n c : Nat) (f : List UInt8) (hl : f.length = n) (hR : Rd w B 1 A n (bvs f)) (hBp : B ≤ p) (hn : n ≤ 140737488351232) (hnc : n ≤ c)
    (h : Rdr w p (.slice A n c) ⟨0, none⟩ [.slice none 0 0, .slice none 0 0, .slice none 0 0, .slice none 0 0, .slice none 0 0, .int .i64 0, .int .i64 0, .int .i64 0]) :
    Calls Tryd.prog 32 #[.pointer (some ⟨p, 0, none⟩)] w (DataPost w p (.slice A n c) f) := by
  obtain ⟨h2, hh2⟩ : ∃ z, z = w.heap.size := ⟨_, rfl⟩
  obtain ⟨v, hb, hv⟩ := h
  obtain rfl : v = .pointer none := hv
  have hpz := hb.lt
  obtain ⟨W1, hW1⟩ : ∃ z, z = (w.alloc (.cells #[.slice none 0 0, .slice none 0 0, .slice none 0 0, .slice none 0 0, .slice none 0 0] 38)).alloc (.cells #[.slice none 0 0, .slice none 0 0, .slice none 0 0, .slice none 0 0, .slice none 0 0] 38) := ⟨_, rfl⟩
  have hbp : Blk W1 p 85 ([.slice A n c, .int .i64 0, .pointer none, .slice none 0 0, .slice none 0 0, .slice none 0 0, .slice none 0 0, .slice none 0 0, .int .i64 0, .int .i64 0, .int .i64 0]) := by rw [hW1]; exact (hb.alloc _).alloc _
  have hbD : Blk W1 (h2 + 1) 38 [.slice none 0 0, .slice none 0 0, .slice none 0 0, .slice none 0 0, .slice none 0 0] := by rw [hW1]; exact Blk.new' _ _ _ (by simp [hh2]) rfl
  have hb2 : Blk W1 h2 38 [.slice none 0 0, .slice none 0 0, .slice none 0 0, .slice none 0 0, .slice none 0 0] := by rw [hW1]; exact (Blk.new' _ _ _ hh2.symm rfl).alloc _
  have hO1 : Only [] w W1 := by rw [hW1]; exact ((Only.refl _ _).alloc _).alloc _
  have hsz1 : W1.heap.size = h2 + 2 := by rw [hW1, hh2]; simp
  have HW := Lib.hid hW1
  have Hh := Lib.hid hh2
  have k0 : W1.cell? ⟨p, 0, none⟩ = some (.slice A n c) := hbp.cell 0
  have Hb := Lib.hid (And.intro hbp (And.intro hbD hb2))
  have HO := Lib.hid hO1
  have Hsz := Lib.hid hsz1
  have HR := Lib.hid hR
  have Hl := Lib.hid hl
  have hph : p < h2 := by omega
  clear hW1 hbp hbD hb2 hO1 hsz1 hb hR hl hh2 hpz
  go_enter Tryd.func32, Tryd.ntmps32
  go_upto_block 0 with (fail)
  rw [← Hh.out, ← HW.out]
  go_cut [] (fun wx => magicBad f = none ∧ ∃ k, wx = W1.drewN k)
  case first =>
    go_wp2_with (fail)
    go_loopw [9] (fun vi wr => ∃ i k : Nat, vi = .int .i64 (i : Int) ∧ i ≤ 4 ∧ (∀ j, j < i → f[j]? = ([66, 80, 69, 49] : List UInt8)[j]?) ∧ wr = W1.drewN k) (fun vi _ => 4 - (intOf vi).toNat)
    case atStart => exact ⟨0, 0, rfl, by omega, by omega, rfl⟩
    case round =>
      obtain ⟨i, k, rfl, hi, hpre, hwr⟩ := hrel
      have Hpre := Lib.hid hpre
      have hpre2 := Lib.hid hpre
      have hbp : Blk wr p 85 ([.slice A n c, .int .i64 0, .pointer none, .slice none 0 0, .slice none 0 0, .slice none 0 0, .slice none 0 0, .slice none 0 0, .int .i64 0, .int .i64 0, .int .i64 0]) := by rw [hwr]; exact Hb.out.1.drewN k
      have hR1 : Rd wr B 1 A n (bvs f) := by rw [hwr]; exact (HR.out.only HO.out (by simp)).drewN k
      have hO1 : Only [] w wr := by rw [hwr]; exact HO.out.drewN k
      have hbD : Blk wr (h2 + 1) 38 [.slice none 0 0, .slice none 0 0, .slice none 0 0, .slice none 0 0, .slice none 0 0] := by rw [hwr]; exact Hb.out.2.1.drewN k
      have hb2 : Blk wr h2 38 [.slice none 0 0, .slice none 0 0, .slice none 0 0, .slice none 0 0, .slice none 0 0] := by rw [hwr]; exact Hb.out.2.2.drewN k
      have c0 : wr.cell? ⟨p, 0, none⟩ = some (.slice A n c) := hbp.cell 0
      have Hwr := Lib.hid hwr
      clear hpre hwr
      by_cases hlt : i < 4
      · obtain ⟨x, hx, hix⟩ := magicIdx i hlt
        by_cases hgood : f[i]? = ([66, 80, 69, 49] : List UInt8)[i]?
        · have hin : i < n := by rw [hx] at hgood; have := (List.getElem?_eq_some_iff.1 hgood).1; rw [Hl.out] at this; exact this
          have hne : ((i : Int) == (n : Int)) = false := by simp; omega
          obtain ⟨ga, oa, ua, eA, hgB, hu, hcell⟩ := hR1.at1 (k := i) hin
          have hux : ua = .int .u8 (x.toNat : Int) := by
            rw [bvs_get?, hgood, hx] at hu; simpa [bv] using hu.symm
          subst hux eA
          have hbb : ((x.toNat : Int) != (x.toNat : Int)) = false := by simp
          have Hg := Lib.hid hgood
          clear hgood hx
          go_wp2_with (fail)
          go_quiet (fail)
          go_wp2_with (fail)
          exact ⟨⟨i + 1, _, by go_num, by omega, by
            intro j hj
            rcases Nat.lt_or_ge j i with h | h
            · exact Hpre.out j h
            · obtain rfl : j = i := by omega
              exact Hg.out, by rw [Hwr.out]; exact World.drewN_drewN _ _ _⟩, by simp [intOf]; omega⟩
        · have hmb := magicBad_at f i hlt hpre2.out hgood
          have Hmb := Lib.hid hmb
          have Href := Lib.hid (fun K => refuse_any (wr.drewN K) p (.slice A n c) ⟨0, none⟩ (.slice none 0 0) (.slice none 0 0) (.slice none 0 0) (.slice none 0 0) (.slice none 0 0) (.int .i64 0) (.int .i64 0) (.int .i64 0) i 11 ⟨_, hbp.drewN K, rfl⟩)
          have Hz := Lib.hid (And.intro hbD (And.intro hb2 hO1))
          have hik : i ≤ n := by
            rcases Nat.lt_or_ge n i with h | h
            · have e := hpre2.out n h
              rw [List.getElem?_eq_none (by rw [Hl.out]; omega)] at e
              have : n < 4 := by omega
              rw [List.getElem?_eq_getElem (by simpa using this)] at e; cases e
            · exact h
          clear hmb hbD hb2 hO1 hbp
          by_cases hin : i = n
          · have hne : ((i : Int) == (n : Int)) = true := by simp; omega
            have hieq := Lib.hid hin
            clear hgood hx hix hin
            go_wp2_with (fail)
            go_quiet (fail)
            go_wp2_with (fail)
            refine (Href.out _).mono ?_
            rintro e w2 ⟨⟨v, rfl⟩, hR2, hO2⟩
            have hD2 : Blk w2 (h2 + 1) 38 [.slice none 0 0, .slice none 0 0, .slice none 0 0, .slice none 0 0, .slice none 0 0] := (Hz.out.1.drewN _).only hO2 (by simp; omega)
            have hE2 : Blk w2 h2 38 [.slice none 0 0, .slice none 0 0, .slice none 0 0, .slice none 0 0, .slice none 0 0] := (Hz.out.2.1.drewN _).only hO2 (by simp; omega)
            have hO3 : Only [p] w w2 := ((Hz.out.2.2.drewN _).mono (by simp)).trans hO2
            have d0 : w2.cell? ⟨h2 + 1, 0, none⟩ = some _ := hD2.cell 0
            have d1 : w2.cell? ⟨h2 + 1, 1, none⟩ = some _ := hD2.cell 1
            have d2 : w2.cell? ⟨h2 + 1, 2, none⟩ = some _ := hD2.cell 2
            have d3 : w2.cell? ⟨h2 + 1, 3, none⟩ = some _ := hD2.cell 3
            have d4 : w2.cell? ⟨h2 + 1, 4, none⟩ = some _ := hD2.cell 4
            have e0 : w2.cell? ⟨h2, 0, none⟩ = some _ := hE2.cell 0
            have e1 : w2.cell? ⟨h2, 1, none⟩ = some _ := hE2.cell 1
            have e2 : w2.cell? ⟨h2, 2, none⟩ = some _ := hE2.cell 2
            have e3 : w2.cell? ⟨h2, 3, none⟩ = some _ := hE2.cell 3
            have e4 : w2.cell? ⟨h2, 4, none⟩ = some _ := hE2.cell 4
            have z0 := hE2.frozen 0
            have z1 := hE2.frozen 1
            have z2 := hE2.frozen 2
            have z3 := hE2.frozen 3
            have z4 := hE2.frozen 4
            have HR2 := Lib.hid hR2
            have HO3 := Lib.hid hO3
            clear hR2 hO3 hO2
            go_wp2_with (fail)
            (try simp only [Exit.inBlock, Exit.then])
            have hb9 := ((((hE2.set 0 (.slice none 0 0)).set 1 (.slice none 0 0)).set 2 (.slice none 0 0)).set 3 (.slice none 0 0)).set 4 (.slice none 0 0)
            have hOs : ∀ l0 : List Nat, h2 ∈ l0 → Only l0 w2 (((((w2.setCell ⟨h2, 0, none⟩ (.slice none 0 0)).setCell ⟨h2, 1, none⟩ (.slice none 0 0)).setCell ⟨h2, 2, none⟩ (.slice none 0 0)).setCell ⟨h2, 3, none⟩ (.slice none 0 0)).setCell ⟨h2, 4, none⟩ (.slice none 0 0)) := fun l0 hl0 => (((((Only.refl l0 w2).setCell (.inl hl0) _).setCell (.inl hl0) _).setCell (.inl hl0) _).setCell (.inl hl0) _).setCell (.inl hl0) _
            have hws : w.heap.size ≤ h2 := by rw [Hh.out]; omega
            refine bodyPost_ret (v := .agg #[.slice none 0 0, .slice none 0 0, .slice none 0 0, .slice none 0 0, .slice none 0 0]) ?_ rfl ⟨HO3.out.trans' (hOs [h2] (by simp)) (by simp; omega), .inl ⟨i, Hmb.out, rfl, ?_⟩⟩
            · rw [results_cellD rfl]
              exact load5 hb9
            · exact HR2.out.only (hOs [h2] (by simp)) (by simp; omega) (by
                intro x hx cs hbx
                simp at hx; subst hx
                exact absurd rfl (hE2.ne hbx (by decide)))
          · have hne : ((i : Int) == (n : Int)) = false := by simp; omega
            obtain ⟨ga, oa, ua, eA, hgB, hu, hcell⟩ := hR1.at1 (k := i) (by omega)
            obtain ⟨y, hy⟩ : ∃ y, f[i]? = some y := by
              rw [bvs_get?] at hu
              cases hfi : f[i]? with
              | none => rw [hfi] at hu; cases hu
              | some y => exact ⟨y, rfl⟩
            have hux : ua = .int .u8 (y.toNat : Int) := by
              rw [bvs_get?, hy] at hu; simpa [bv] using hu.symm
            subst hux eA
            have hxy : x ≠ y := by intro e; apply hgood; rw [hy, hx, e]
            have hbb : ((y.toNat : Int) != (x.toNat : Int)) = true := by
              simp only [bne_iff_ne, ne_eq]
              intro e; exact hxy (UInt8.toNat_inj.1 (by omega))
            have hin2 : i < n := by omega
            clear hgood hx hy hu hxy hin
            go_wp2_with (fail)
            go_quiet (fail)
            go_wp2_with (fail)
            refine (Href.out _).mono ?_
            rintro e w2 ⟨⟨v, rfl⟩, hR2, hO2⟩
            have hD2 : Blk w2 (h2 + 1) 38 [.slice none 0 0, .slice none 0 0, .slice none 0 0, .slice none 0 0, .slice none 0 0] := (Hz.out.1.drewN _).only hO2 (by simp; omega)
            have hE2 : Blk w2 h2 38 [.slice none 0 0, .slice none 0 0, .slice none 0 0, .slice none 0 0, .slice none 0 0] := (Hz.out.2.1.drewN _).only hO2 (by simp; omega)
            have hO3 : Only [p] w w2 := ((Hz.out.2.2.drewN _).mono (by simp)).trans hO2
            have d0 : w2.cell? ⟨h2 + 1, 0, none⟩ = some _ := hD2.cell 0
            have d1 : w2.cell? ⟨h2 + 1, 1, none⟩ = some _ := hD2.cell 1
            have d2 : w2.cell? ⟨h2 + 1, 2, none⟩ = some _ := hD2.cell 2
            have d3 : w2.cell? ⟨h2 + 1, 3, none⟩ = some _ := hD2.cell 3
            have d4 : w2.cell? ⟨h2 + 1, 4, none⟩ = some _ := hD2.cell 4
            have e0 : w2.cell? ⟨h2, 0, none⟩ = some _ := hE2.cell 0
            have e1 : w2.cell? ⟨h2, 1, none⟩ = some _ := hE2.cell 1
            have e2 : w2.cell? ⟨h2, 2, none⟩ = some _ := hE2.cell 2
            have e3 : w2.cell? ⟨h2, 3, none⟩ = some _ := hE2.cell 3
            have e4 : w2.cell? ⟨h2, 4, none⟩ = some _ := hE2.cell 4
            have z0 := hE2.frozen 0
            have z1 := hE2.frozen 1
            have z2 := hE2.frozen 2
            have z3 := hE2.frozen 3
            have z4 := hE2.frozen 4
            have HR2 := Lib.hid hR2
            have HO3 := Lib.hid hO3
            clear hR2 hO3 hO2
            go_wp2_with (fail)
            (try simp only [Exit.inBlock, Exit.then])
            have hb9 := ((((hE2.set 0 (.slice none 0 0)).set 1 (.slice none 0 0)).set 2 (.slice none 0 0)).set 3 (.slice none 0 0)).set 4 (.slice none 0 0)
            have hOs : ∀ l0 : List Nat, h2 ∈ l0 → Only l0 w2 (((((w2.setCell ⟨h2, 0, none⟩ (.slice none 0 0)).setCell ⟨h2, 1, none⟩ (.slice none 0 0)).setCell ⟨h2, 2, none⟩ (.slice none 0 0)).setCell ⟨h2, 3, none⟩ (.slice none 0 0)).setCell ⟨h2, 4, none⟩ (.slice none 0 0)) := fun l0 hl0 => (((((Only.refl l0 w2).setCell (.inl hl0) _).setCell (.inl hl0) _).setCell (.inl hl0) _).setCell (.inl hl0) _).setCell (.inl hl0) _
            have hws : w.heap.size ≤ h2 := by rw [Hh.out]; omega
            refine bodyPost_ret (v := .agg #[.slice none 0 0, .slice none 0 0, .slice none 0 0, .slice none 0 0, .slice none 0 0]) ?_ rfl ⟨HO3.out.trans' (hOs [h2] (by simp)) (by simp; omega), .inl ⟨i, Hmb.out, rfl, ?_⟩⟩
            · rw [results_cellD rfl]
              exact load5 hb9
            · exact HR2.out.only (hOs [h2] (by simp)) (by simp; omega) (by
                intro x hx cs hbx
                simp at hx; subst hx
                exact absurd rfl (hE2.ne hbx (by decide)))
      · have h4 : i = 4 := by omega
        have hmb := magicBad_all f (by rw [h4] at hpre2; exact hpre2.out)
        have Hmb := Lib.hid hmb
        clear hmb
        go_wp2_with (fail)
        go_meet
        case rel => exact ⟨Hmb.out, _, Hwr.out⟩
  case rest =>
  obtain ⟨hmb, k, hwc⟩ := hcut
  have h4 := magicBad_len f hmb
  have hbp : Blk wc p 85 ([.slice A n c, .int .i64 0, .pointer none, .slice none 0 0, .slice none 0 0, .slice none 0 0, .slice none 0 0, .slice none 0 0, .int .i64 0, .int .i64 0, .int .i64 0]) := by rw [hwc]; exact Hb.out.1.drewN k
  have hbD : Blk wc (h2 + 1) 38 [.slice none 0 0, .slice none 0 0, .slice none 0 0, .slice none 0 0, .slice none 0 0] := by rw [hwc]; exact Hb.out.2.1.drewN k
  have hb2 : Blk wc h2 38 [.slice none 0 0, .slice none 0 0, .slice none 0 0, .slice none 0 0, .slice none 0 0] := by rw [hwc]; exact Hb.out.2.2.drewN k
  have hOc : Only [] w wc := by rw [hwc]; exact HO.out.drewN k
  have Hmb := Lib.hid hmb
  have H4 := Lib.hid h4
  have f1 : wc.frozen? ⟨p, 1, none⟩ = false := hbp.frozen 1
  have g1 : wc.cell? ⟨p, 1, none⟩ = some (.int .i64 0) := hbp.cell 1
  clear hwc hmb h4 k0
  go_wp2_with (fail)
  refine name_it (p := fun y => Calls _ _ _ y _) ?_
  intro W2 H2
  obtain ⟨NN, hNN⟩ : ∃ z, z = pN f := ⟨_, rfl⟩
  have hO2 : Only [p] w W2 := by rw [H2.out]; exact (hOc.mono (by simp)).setCell (.inl (by simp)) _
  have hD2 : Blk W2 (h2 + 1) 38 [.slice none 0 0, .slice none 0 0, .slice none 0 0, .slice none 0 0, .slice none 0 0] := by rw [H2.out]; exact hbD.far (by simp; omega) _
  have hE2 : Blk W2 h2 38 [.slice none 0 0, .slice none 0 0, .slice none 0 0, .slice none 0 0, .slice none 0 0] := by rw [H2.out]; exact hb2.far (by simp; omega) _
  have hp2 : Rdr W2 p (.slice A n c) ⟨4, none⟩ [.slice none 0 0, .slice none 0 0, .slice none 0 0, .slice none 0 0, .slice none 0 0, .int .i64 0, .int .i64 0, .int .i64 0] := by
    rw [H2.out]; exact ⟨_, hbp.set 1 _, rfl⟩
  have hnum := number_any W2 p B A n c f Hl.out (HR.out.only hO2 (by simp; omega)) hBp hn hnc ⟨4, none⟩ (by have := H4.out; have := Hl.out; simp only; omega) (.slice none 0 0) (.slice none 0 0) (.slice none 0 0) (.slice none 0 0) (.slice none 0 0) (.int .i64 0) (.int .i64 0) (.int .i64 0) 4096 4 (by omega) hp2
  rw [show numS f 4096 4 ⟨4, none⟩ = NN from hNN.symm] at hnum
  have hNb := pN_at f H4.out
  rw [← hNN] at hNb
  have HNN := Lib.hid hNN
  refine hnum.mono ?_
  rintro e W3 ⟨rfl, hp3, hO3⟩
  have hD3 := hD2.only hO3 (by simp; omega)
  have hE3 := hE2.only hO3 (by simp; omega)
  replace hO3 := hO2.trans hO3
  have hz3 : h2 + 2 ≤ W3.heap.size := by have := hD3.lt; omega
  obtain ⟨N, S0⟩ := NN
  simp only at hp3 hNb
  obtain ⟨hs0, hN4⟩ := hNb
  have Hp1 := Lib.hid hp3
  have HD1 := Lib.hid (And.intro hD3 hE3)
  have HO3 := Lib.hid hO3
  have Hs1 := Lib.hid hs0
  have hR3 := HR.out.only hO3 (by simp; omega)
  have HR1 := Lib.hid hR3
  clear hnum hNN hp2 hO2 hD2 hE2 H2 hbp hbD hb2 hOc hp3 hD3 hE3 hO3 f1 g1 hs0 hR3
  go_upto_block 2 with (fail)
  go_cut [] (fun wx => RLoop 9 1 W3 wx p (h2 + 1) (.slice A n c) (manyS (wordS f) S0 N).2 N ((manyS (wordS f) S0 N).1.map Prod.fst) (wds ((manyS (wordS f) S0 N).1.map Prod.snd)) (fun x => [x, .slice none 0 0, .slice none 0 0, .slice none 0 0, .slice none 0 0, .int .i64 0, .int .i64 0, .int .i64 0]) (fun x => [x, .slice none 0 0, .slice none 0 0, .slice none 0 0, .slice none 0 0]))
  case first =>
    go_wp2_with (fail)
    go_loopw [42] (fun vk wr => ∃ k : Nat, vk = .int .i64 (k : Int) ∧ k ≤ N ∧ RLoop 9 1 W3 wr p (h2 + 1) (.slice A n c) (manyS (wordS f) S0 k).2 k ((manyS (wordS f) S0 k).1.map Prod.fst) (wds ((manyS (wordS f) S0 k).1.map Prod.snd)) (fun x => [x, .slice none 0 0, .slice none 0 0, .slice none 0 0, .slice none 0 0, .int .i64 0, .int .i64 0, .int .i64 0]) (fun x => [x, .slice none 0 0, .slice none 0 0, .slice none 0 0, .slice none 0 0])) (fun vk _ => N - (intOf vk).toNat)
    case atStart => exact ⟨0, rfl, by omega, _, _, Hp1.out, HD1.out.1, ⟨rfl, .inl ⟨rfl, rfl⟩⟩, ⟨rfl, .inl ⟨rfl, rfl⟩⟩, .refl _ _⟩
    case round =>
      obtain ⟨k, rfl, hk, hW⟩ := hrel
      by_cases hlt : k < N
      · obtain ⟨S, hS⟩ : ∃ S, S = manyS (wordS f) S0 k := ⟨_, rfl⟩
        have hSl : S.1.length = k := by rw [hS, manyS_length]
        have hSa : S.2.at_ ≤ n := by rw [hS, ← Hl.out]; exact (manyS_at _ _ (fun s => wordS_at f s) _ Hs1.out k).1
        have hS1 : manyS (wordS f) S0 (k + 1) = (S.1 ++ [(S.2.at_, (wordS f S.2).1)], (wordS f S.2).2) := by rw [hS]; rfl
        rw [← hS] at hW
        have HS1 := Lib.hid hS1
        clear hS hS1
        obtain ⟨L, s⟩ := S
        obtain ⟨pv, dv, hrd, hD, hop, hod, hO⟩ := hW
        simp only at hSl hSa hrd hop hod hD
        obtain ⟨rv, hb, hv⟩ := hrd
        have c3 : wr.cell? ⟨p, 3, none⟩ = some pv := hb.cell 3
        have c1 : wr.cell? ⟨p, 1, none⟩ = some (.int .i64 (s.at_ : Int)) := hb.cell 1
        have f3 : wr.frozen? ⟨p, 3, none⟩ = false := hb.frozen 3
        have c3a : ∀ o, (wr.alloc o).cell? ⟨p, 3, none⟩ = some pv := fun o => (hb.alloc o).cell 3
        have hpv : ∀ x, pv.ownBlock = some x → x ≠ p ∧ x ≠ h2 + 1 := fun x hx => by have := (own_lt hop hx).1; omega
        have hdv : ∀ x, dv.ownBlock = some x → x ≠ p ∧ x ≠ h2 + 1 := fun x hx => by have := (own_lt hod hx).1; omega
        have hbz : W3.heap.size ≤ wr.heap.size := hO.size
        have hpd : p ≠ h2 + 1 ∧ h2 + 1 ≠ p := by omega
        go_upto_region 13 with (fail)
        go_cut [] (fun wx => ∃ pv1, wx.ownsRow W3.heap.size 3 1 pv1 (k + 1) (nats (L.map Prod.fst ++ [s.at_])) ∧ Rdr wx p (.slice A n c) s [pv1, .slice none 0 0, .slice none 0 0, .slice none 0 0, .slice none 0 0, .int .i64 0, .int .i64 0, .int .i64 0] ∧ Blk wx (h2 + 1) 38 [dv, .slice none 0 0, .slice none 0 0, .slice none 0 0, .slice none 0 0] ∧ wx.ownsRow W3.heap.size 9 1 dv k (wds (L.map Prod.snd)) ∧ Only [p, h2 + 1] W3 wx)
        case first =>
          go_region_law (first
            | (refine step_append_row (v := pv) (by rfl) (.tmp 48) (.tmp 53) 51 (by rfl) W3.heap.size 3 (.int .i64 0) 1 8 Tryd.underlying51 intInfo6 rfl (by omega) (n := k) (xs := nats (L.map Prod.fst)) (by rfl)
                 (by first | exact own_only hop ((Only.refl [] wr).alloc _) (by simp) | exact own_only hop (((Only.refl [] wr).alloc _).drew) (by simp) | exact own_only hop (((Only.refl [] wr).drew).alloc _) (by simp)) 1 (by rfl)
                 (by first | exact Rd.whole (Blk.new' _ _ _ rfl rfl) rfl | exact (Rd.whole (Blk.new' _ _ _ rfl rfl) rfl).drew) (by simp [Value.oneCell']) (by simp only [maxLen]; omega) (by omega) (by simp; omega) ?_
               intro pv1 w1 ho1 hO1 hn1
               replace hO1 : Only pv.ownBlock.toList wr w1 := by first | exact ((Only.refl _ wr).alloc _).trans hO1 | exact (((Only.refl _ wr).alloc _).drew).trans hO1 | exact (((Only.refl _ wr).drew).alloc _).trans hO1
               have hb1 := hb.only hO1 (by intro hx; exact (hpv p (by simpa using hx)).1 rfl)
               have d3 : w1.frozen? ⟨p, 3, none⟩ = false := hb1.frozen 3
               have d4 : w1.cell? ⟨p, 3, none⟩ = some pv := hb1.cell 3
               obtain ⟨A1, c1', rfl, -⟩ := own_slice ho1))
          all_goals
            go_wp2
            go_meet
            case rel =>
              have hT : ∀ u, Only (p :: pv.ownBlock.toList) wr (w1.setCell ⟨p, 3, none⟩ u) := fun u => (hO1.mono (fun x hx => .inl (List.mem_cons_of_mem _ hx))).setCell (.inl (by simp)) _
              refine ⟨.slice A1 (k + 1) c1', ?_, ?_, ?_, ?_, ?_⟩
              · have := own_only ho1 ((Only.refl [p] w1).setCell (p := ⟨p, 3, none⟩) (.inl (by simp)) (.slice A1 (k + 1) c1')) (by intro x hx; have := (own_lt ho1 hx).1; simp; omega)
                rw [nats_snoc]
                exact this
              · exact (Rdr.row ⟨rv, hb, hv⟩ hop (by decide) hO1).put 0 _
              · exact hD.only (hT _) (by intro hx; simp at hx; exact hx.elim (by omega) (fun e => (hpv _ e).2 rfl))
              · exact own_only hod (hT _) (by
                  intro x hx hxx; simp at hxx
                  rcases hxx with e | e
                  · exact (hdv x hx).1 e
                  · exact own_apart hod hop (by decide) hx e)
              · exact hO.trans' (hT _) (by
                  intro x hx; simp at hx
                  rcases hx with rfl | e
                  · exact .inl (by simp)
                  · exact .inr (own_lt hop e).1)
        case rest =>
          obtain ⟨pv1, hop1, hrd1, hD1, hod1, hOx⟩ := hcut
          clear hop hod hb hv hD c3 c1 f3 c3a hpv hdv hbz hO
          have hbz : W3.heap.size ≤ wc.heap.size := hOx.size
          have hdv : ∀ x, dv.ownBlock = some x → x ≠ p ∧ x ≠ h2 + 1 := fun x hx => by have := (own_lt hod1 hx).1; omega
          have hpv : ∀ x, pv1.ownBlock = some x → x ≠ p ∧ x ≠ h2 + 1 := fun x hx => by have := (own_lt hop1 hx).1; omega
          have c0 : wc.cell? ⟨h2 + 1, 0, none⟩ = some dv := hD1.cell 0
          have HG := Lib.hid (fun W (h : Only [] wc W) => rdWord_any W p B A n c f Hl.out (HR1.out.only (hOx.trans0 h) (by simp; omega)) hBp hn hnc s hSa pv1 (.slice none 0 0) (.slice none 0 0) (.slice none 0 0) (.slice none 0 0) (.int .i64 0) (.int .i64 0) (.int .i64 0) (hrd1.only h (by simp) (by simp)))
          obtain ⟨WW, hWW⟩ : ∃ z, z = wordS f s := ⟨_, rfl⟩
          rw [← hWW] at HG
          have HWW := Lib.hid hWW
          clear hWW hrd1
          obtain ⟨wd, t1⟩ := WW
          go_upto_region 14 with (fail)
          go_region_law (first
            | (have hod2 := own_only hod1 hO1 (by intro x hx; simp; exact (hdv x hx).1)
               have hop2 := own_only hop1 hO1 (by intro x hx; simp; exact (hpv x hx).1)
               have hb1 := hO1.size
               refine step_append_row (v := dv) (by rfl) (.tmp 58) (.tmp 61) 34 (by rfl) W3.heap.size 9 (.string ByteArray.empty) 1 16 Tryd.underlying34 strInfo6 rfl (by omega) (n := k) (xs := wds (L.map Prod.snd)) (by rfl)
                 (by first | exact own_only hod2 ((Only.refl [] w1).alloc _) (by simp) | exact own_only hod2 (((Only.refl [] w1).alloc _).drew) (by simp) | exact own_only hod2 (((Only.refl [] w1).drew).alloc _) (by simp)) 1 (by rfl)
                 (by first | exact Rd.whole (Blk.new' _ _ _ rfl rfl) rfl | exact (Rd.whole (Blk.new' _ _ _ rfl rfl) rfl).drew) (by simp [Value.oneCell']) (by simp only [maxLen]; omega) (by omega) (by simp; omega) ?_
               intro dv1 wz ho2 hOz hn2
               replace hOz : Only dv.ownBlock.toList w1 wz := by first | exact ((Only.refl _ w1).alloc _).trans hOz | exact (((Only.refl _ w1).alloc _).drew).trans hOz | exact (((Only.refl _ w1).drew).alloc _).trans hOz
               have hD3 := (hD1.only hO1 (by simp; omega)).only hOz (by intro hx; exact (hdv (h2 + 1) (by simpa using hx)).2 rfl)
               have d3 : wz.frozen? ⟨h2 + 1, 0, none⟩ = false := hD3.frozen 0
               have d4 : wz.cell? ⟨h2 + 1, 0, none⟩ = some dv := hD3.cell 0
               obtain ⟨A2, c2', rfl, -⟩ := own_slice ho2)
            | (go_simp
               go_at_call 57
               refine (HG.out _ ?_).mono ?_
               exact (by first | exact Only.refl [] wc | exact (Only.refl [] wc).drew)
               rintro e w1 ⟨rfl, hr1, hO1⟩
               replace hO1 : Only [p] wc w1 := by first | exact hO1 | exact hO1.ofDrew
               have hD2 := hD1.only hO1 (by simp; omega)
               have d0 : w1.cell? ⟨h2 + 1, 0, none⟩ = some dv := hD2.cell 0
               have d0a : ∀ o, (w1.alloc o).cell? ⟨h2 + 1, 0, none⟩ = some dv := fun o => (hD2.alloc o).cell 0))
          all_goals
            go_wp2
            go_roundw
            case rel =>
              have hT : ∀ u, Only ((h2 + 1) :: dv.ownBlock.toList) w1 (wz.setCell ⟨h2 + 1, 0, none⟩ u) := fun u => (hOz.mono (fun x hx => .inl (List.mem_cons_of_mem _ hx))).setCell (.inl (by simp)) _
              refine ⟨k + 1, by go_num, by omega, ?_⟩
              rw [HS1.out, ← HWW.out]
              refine ⟨pv1, .slice A2 (k + 1) c2', ?_, ?_, ?_, ?_, ?_⟩
              · exact (Rdr.row hr1 hod2 (by decide) hOz).far hD3 (by decide) _
              · exact hD3.set 0 _
              · have := own_only hop2 (hT (.slice A2 (k + 1) c2')) (by
                  intro x hx hxx; simp at hxx
                  rcases hxx with e | e
                  · exact (hpv x hx).2 e
                  · exact own_apart hop2 hod2 (by decide) hx e)
                simpa using this
              · have := own_only ho2 ((Only.refl [h2 + 1] wz).setCell (p := ⟨h2 + 1, 0, none⟩) (.inl (by simp)) (.slice A2 (k + 1) c2')) (by intro x hx; have := (own_lt ho2 hx).1; simp; omega)
                simpa [wds] using this
              · exact (hOx.trans' hO1 (by simp)).trans' (hT _) (by
                  intro x hx; simp at hx
                  rcases hx with rfl | e
                  · exact .inl (by simp)
                  · exact .inr (own_lt hod2 e).1)
            case measure => simp [intOf]; omega
      · obtain rfl : k = N := by omega
        go_wp2_with (fail)
        go_meet
        case rel => exact hW
  case rest =>
  obtain ⟨q0, v0, hrd4, hD4, hq0, hv0, hO4⟩ := hcut
  obtain ⟨W4, rfl⟩ : ∃ z : World, z = wc := ⟨_, rfl⟩
  have hpW : pW f = manyS (wordS f) S0 N := by unfold pW; rw [← HNN.out]
  rw [← hpW] at hrd4 hq0 hv0
  obtain ⟨S1, hS1⟩ : ∃ z, z = (pW f).2 := ⟨_, rfl⟩
  rw [← hS1] at hrd4
  simp only at hrd4 hD4
  have Hp2 := Lib.hid hrd4
  have HD2 := Lib.hid (And.intro hD4 (HD1.out.2.only hO4 (by simp; omega)))
  have HR2 := Lib.hid (HR1.out.only hO4 (by simp; omega))
  have hz4 : h2 + 2 ≤ W4.heap.size := Nat.le_trans hz3 hO4.size
  have Hs2 := Lib.hid (show S1.at_ ≤ f.length by rw [hS1]; exact (pW_at f H4.out).1)
  have HS1e := Lib.hid hS1
  have Hq0 := Lib.hid hq0
  have Hv0 := Lib.hid hv0
  have HO4 := Lib.hid hO4
  clear hpW hS1 hrd4 hD4 hq0 hv0 hO4
  go_upto_block 4 with (fail)
  go_cut [] (fun wx => RLoop 75 3 W4 wx p (h2 + 1) (.slice A n c) (manyS (mergeS f) S1 N).2 N ((manyS (mergeS f) S1 N).1.map Prod.fst) (mgs ((manyS (mergeS f) S1 N).1.map Prod.snd)) (fun x => [q0, x, .slice none 0 0, .slice none 0 0, .slice none 0 0, .int .i64 0, .int .i64 0, .int .i64 0]) (fun x => [v0, x, .slice none 0 0, .slice none 0 0, .slice none 0 0]))
  case first =>
    go_wp2_with (fail)
    go_loopw [66] (fun vk wr => ∃ k : Nat, vk = .int .i64 (k : Int) ∧ k ≤ N ∧ RLoop 75 3 W4 wr p (h2 + 1) (.slice A n c) (manyS (mergeS f) S1 k).2 k ((manyS (mergeS f) S1 k).1.map Prod.fst) (mgs ((manyS (mergeS f) S1 k).1.map Prod.snd)) (fun x => [q0, x, .slice none 0 0, .slice none 0 0, .slice none 0 0, .int .i64 0, .int .i64 0, .int .i64 0]) (fun x => [v0, x, .slice none 0 0, .slice none 0 0, .slice none 0 0])) (fun vk _ => N - (intOf vk).toNat)
    case atStart => exact ⟨0, rfl, by omega, _, _, Hp2.out, HD2.out.1, ⟨rfl, .inl ⟨rfl, rfl⟩⟩, ⟨rfl, .inl ⟨rfl, rfl⟩⟩, .refl _ _⟩
    case round =>
      obtain ⟨k, rfl, hk, hW⟩ := hrel
      by_cases hlt : k < N
      · obtain ⟨S, hS⟩ : ∃ S, S = manyS (mergeS f) S1 k := ⟨_, rfl⟩
        have hSl : S.1.length = k := by rw [hS, manyS_length]
        have hSa : S.2.at_ ≤ n := by rw [hS, ← Hl.out]; exact (manyS_at _ _ (fun s => mergeS_at f s) _ Hs2.out k).1
        have hS1 : manyS (mergeS f) S1 (k + 1) = (S.1 ++ [(S.2.at_, (mergeS f S.2).1)], (mergeS f S.2).2) := by rw [hS]; rfl
        rw [← hS] at hW
        have HS1 := Lib.hid hS1
        clear hS hS1
        obtain ⟨L, s⟩ := S
        obtain ⟨pv, dv, hrd, hD, hop, hod, hO⟩ := hW
        simp only at hSl hSa hrd hop hod hD
        obtain ⟨rv, hb, hv⟩ := hrd
        have c3 : wr.cell? ⟨p, 4, none⟩ = some pv := hb.cell 4
        have c1 : wr.cell? ⟨p, 1, none⟩ = some (.int .i64 (s.at_ : Int)) := hb.cell 1
        have f3 : wr.frozen? ⟨p, 4, none⟩ = false := hb.frozen 4
        have c3a : ∀ o, (wr.alloc o).cell? ⟨p, 4, none⟩ = some pv := fun o => (hb.alloc o).cell 4
        have hpv : ∀ x, pv.ownBlock = some x → x ≠ p ∧ x ≠ h2 + 1 := fun x hx => by have := (own_lt hop hx).1; omega
        have hdv : ∀ x, dv.ownBlock = some x → x ≠ p ∧ x ≠ h2 + 1 := fun x hx => by have := (own_lt hod hx).1; omega
        have hbz : W4.heap.size ≤ wr.heap.size := hO.size
        have hpd : p ≠ h2 + 1 ∧ h2 + 1 ≠ p := by omega
        go_upto_region 18 with (fail)
        go_cut [] (fun wx => ∃ pv1, wx.ownsRow W4.heap.size 3 1 pv1 (k + 1) (nats (L.map Prod.fst ++ [s.at_])) ∧ Rdr wx p (.slice A n c) s [q0, pv1, .slice none 0 0, .slice none 0 0, .slice none 0 0, .int .i64 0, .int .i64 0, .int .i64 0] ∧ Blk wx (h2 + 1) 38 [v0, dv, .slice none 0 0, .slice none 0 0, .slice none 0 0] ∧ wx.ownsRow W4.heap.size 75 3 dv k (mgs (L.map Prod.snd)) ∧ Only [p, h2 + 1] W4 wx)
        case first =>
          go_region_law (first
            | (refine step_append_row (v := pv) (by rfl) (.tmp 72) (.tmp 77) 51 (by rfl) W4.heap.size 3 (.int .i64 0) 1 8 Tryd.underlying51 intInfo6 rfl (by omega) (n := k) (xs := nats (L.map Prod.fst)) (by rfl)
                 (by first | exact own_only hop ((Only.refl [] wr).alloc _) (by simp) | exact own_only hop (((Only.refl [] wr).alloc _).drew) (by simp) | exact own_only hop (((Only.refl [] wr).drew).alloc _) (by simp)) 1 (by rfl)
                 (by first | exact Rd.whole (Blk.new' _ _ _ rfl rfl) rfl | exact (Rd.whole (Blk.new' _ _ _ rfl rfl) rfl).drew) (by simp [Value.oneCell']) (by simp only [maxLen]; omega) (by omega) (by simp; omega) ?_
               intro pv1 w1 ho1 hO1 hn1
               replace hO1 : Only pv.ownBlock.toList wr w1 := by first | exact ((Only.refl _ wr).alloc _).trans hO1 | exact (((Only.refl _ wr).alloc _).drew).trans hO1 | exact (((Only.refl _ wr).drew).alloc _).trans hO1
               have hb1 := hb.only hO1 (by intro hx; exact (hpv p (by simpa using hx)).1 rfl)
               have d3 : w1.frozen? ⟨p, 4, none⟩ = false := hb1.frozen 4
               have d4 : w1.cell? ⟨p, 4, none⟩ = some pv := hb1.cell 4
               obtain ⟨A1, c1', rfl, -⟩ := own_slice ho1))
          all_goals
            go_wp2
            go_meet
            case rel =>
              have hT : ∀ u, Only (p :: pv.ownBlock.toList) wr (w1.setCell ⟨p, 4, none⟩ u) := fun u => (hO1.mono (fun x hx => .inl (List.mem_cons_of_mem _ hx))).setCell (.inl (by simp)) _
              refine ⟨.slice A1 (k + 1) c1', ?_, ?_, ?_, ?_, ?_⟩
              · have := own_only ho1 ((Only.refl [p] w1).setCell (p := ⟨p, 4, none⟩) (.inl (by simp)) (.slice A1 (k + 1) c1')) (by intro x hx; have := (own_lt ho1 hx).1; simp; omega)
                rw [nats_snoc]
                exact this
              · exact (Rdr.row ⟨rv, hb, hv⟩ hop (by decide) hO1).put 1 _
              · exact hD.only (hT _) (by intro hx; simp at hx; exact hx.elim (by omega) (fun e => (hpv _ e).2 rfl))
              · exact own_only hod (hT _) (by
                  intro x hx hxx; simp at hxx
                  rcases hxx with e | e
                  · exact (hdv x hx).1 e
                  · exact own_apart hod hop (by decide) hx e)
              · exact hO.trans' (hT _) (by
                  intro x hx; simp at hx
                  rcases hx with rfl | e
                  · exact .inl (by simp)
                  · exact .inr (own_lt hop e).1)
        case rest =>
          obtain ⟨pv1, hop1, hrd1, hD1, hod1, hOx⟩ := hcut
          clear hop hod hb hv hD c3 c1 f3 c3a hpv hdv hbz hO
          have hbz : W4.heap.size ≤ wc.heap.size := hOx.size
          have hdv : ∀ x, dv.ownBlock = some x → x ≠ p ∧ x ≠ h2 + 1 := fun x hx => by have := (own_lt hod1 hx).1; omega
          have hpv : ∀ x, pv1.ownBlock = some x → x ≠ p ∧ x ≠ h2 + 1 := fun x hx => by have := (own_lt hop1 hx).1; omega
          have c0 : wc.cell? ⟨h2 + 1, 1, none⟩ = some dv := hD1.cell 1
          have GN := fun W (s' : RS) (h : Only [p] wc W) (hs' : s'.at_ ≤ n) (hr : Rdr W p (.slice A n c) s' [q0, pv1, .slice none 0 0, .slice none 0 0, .slice none 0 0, .int .i64 0, .int .i64 0, .int .i64 0]) => number_any W p B A n c f Hl.out ((HR2.out.only hOx (by simp; omega)).only h (by simp; omega)) hBp hn hnc s' hs' q0 pv1 (.slice none 0 0) (.slice none 0 0) (.slice none 0 0) (.int .i64 0) (.int .i64 0) (.int .i64 0) 2147483647 24 (by omega) hr
          obtain ⟨⟨x1, t1⟩, hX1⟩ : ∃ z, z = numS f 2147483647 24 s := ⟨_, rfl⟩
          have ha1 : t1.at_ ≤ n ∧ x1 ≤ 2147483647 := by have := numS_at f 2147483647 24 s (by rw [Hl.out]; omega); rw [← hX1, Hl.out] at this; exact this
          have G1 := Lib.hid (fun W (h : Only [] wc W) => GN W s (h.mono (by simp)) hSa (hrd1.only h (by simp) (by simp)))
          rw [← hX1] at G1
          obtain ⟨⟨x2, t2⟩, hX2⟩ : ∃ z, z = numS f 2147483647 24 t1 := ⟨_, rfl⟩
          have ha2 : t2.at_ ≤ n ∧ x2 ≤ 2147483647 := by have := numS_at f 2147483647 24 t1 (by rw [Hl.out]; omega); rw [← hX2, Hl.out] at this; exact this
          have G2 := Lib.hid (fun W (h : Only [p] wc W) (hr : Rdr W p (.slice A n c) t1 [q0, pv1, .slice none 0 0, .slice none 0 0, .slice none 0 0, .int .i64 0, .int .i64 0, .int .i64 0]) => GN W t1 h ha1.1 hr)
          rw [← hX2] at G2
          obtain ⟨⟨x3, t3⟩, hX3⟩ : ∃ z, z = numS f 2147483647 24 t2 := ⟨_, rfl⟩
          have ha3 : t3.at_ ≤ n ∧ x3 ≤ 2147483647 := by have := numS_at f 2147483647 24 t2 (by rw [Hl.out]; omega); rw [← hX3, Hl.out] at this; exact this
          have G3 := Lib.hid (fun W (h : Only [p] wc W) (hr : Rdr W p (.slice A n c) t2 [q0, pv1, .slice none 0 0, .slice none 0 0, .slice none 0 0, .int .i64 0, .int .i64 0, .int .i64 0]) => GN W t2 h ha2.1 hr)
          rw [← hX3] at G3
          have HWW := Lib.hid (show ((⟨(x1 : Int), (x2 : Int), (x3 : Int)⟩ : Mg), t3) = mergeS f s by unfold mergeS; rw [← hX1]; simp only; rw [← hX2]; simp only; rw [← hX3])
          clear GN hrd1 hX1 hX2 hX3
          go_upto_region 19 with (fail)
          go_region_law (first
            | (have hod2 := own_only hod1 hO3 (by intro x hx; simp; exact (hdv x hx).1)
               have hop2 := own_only hop1 hO3 (by intro x hx; simp; exact (hpv x hx).1)
               have hb1 := hO3.size
               refine step_append_row (v := dv) (by rfl) (.tmp 82) (.tmp 90) 35 (by rfl) W4.heap.size 75 (.agg #[.int .i64 0, .int .i64 0, .int .i64 0]) 3 24 Tryd.underlying35 mgInfo6 rfl (by omega) (n := k) (xs := mgs (L.map Prod.snd)) (by rfl)
                 (by first | exact own_only hod2 ((Only.refl [] w3).alloc _) (by simp) | exact own_only hod2 (((Only.refl [] w3).alloc _).drew) (by simp) | exact own_only hod2 (((Only.refl [] w3).drew).alloc _) (by simp)) 1 (by rfl)
                 (by first | exact Rd.whole (Blk.new' _ _ _ rfl rfl) rfl | exact (Rd.whole (Blk.new' _ _ _ rfl rfl) rfl).drew) (by simp [Value.oneCell']) (by simp only [maxLen]; omega) (by omega) (by simp; omega) ?_
               intro dv1 wz ho2 hOz hn2
               replace hOz : Only dv.ownBlock.toList w3 wz := by first | exact ((Only.refl _ w3).alloc _).trans hOz | exact (((Only.refl _ w3).alloc _).drew).trans hOz | exact (((Only.refl _ w3).drew).alloc _).trans hOz
               have hD3 := (hD1.only hO3 (by simp; omega)).only hOz (by intro hx; exact (hdv (h2 + 1) (by simpa using hx)).2 rfl)
               have d3 : wz.frozen? ⟨h2 + 1, 1, none⟩ = false := hD3.frozen 1
               have d4 : wz.cell? ⟨h2 + 1, 1, none⟩ = some dv := hD3.cell 1
               obtain ⟨A2, c2', rfl, -⟩ := own_slice ho2)
            | (go_simp
               go_at_call 33
               first
               | (refine (G1.out _ ?_).mono ?_
                  exact (by first | exact Only.refl [] wc | exact (Only.refl [] wc).drew)
                  rintro e w1 ⟨rfl, hr1, hO1⟩
                  replace hO1 : Only [p] wc w1 := by first | exact hO1 | exact hO1.ofDrew
                  have hD2 := hD1.only hO1 (by simp; omega)
                  have d0 : w1.cell? ⟨h2 + 1, 1, none⟩ = some dv := hD2.cell 1
                  have d0a : ∀ o, (w1.alloc o).cell? ⟨h2 + 1, 1, none⟩ = some dv := fun o => (hD2.alloc o).cell 1
                  clear G1)
               | (refine (G2.out _ hO1 hr1).mono ?_
                  rintro e w2 ⟨rfl, hr2, hO2⟩
                  replace hO2 := hO1.trans hO2
                  have hD2 := hD1.only hO2 (by simp; omega)
                  have d0 : w2.cell? ⟨h2 + 1, 1, none⟩ = some dv := hD2.cell 1
                  have d0a : ∀ o, (w2.alloc o).cell? ⟨h2 + 1, 1, none⟩ = some dv := fun o => (hD2.alloc o).cell 1
                  clear G2)
               | (refine (G3.out _ hO2 hr2).mono ?_
                  rintro e w3 ⟨rfl, hr3, hO3⟩
                  replace hO3 := hO2.trans hO3
                  have hD2 := hD1.only hO3 (by simp; omega)
                  have d0 : w3.cell? ⟨h2 + 1, 1, none⟩ = some dv := hD2.cell 1
                  have d0a : ∀ o, (w3.alloc o).cell? ⟨h2 + 1, 1, none⟩ = some dv := fun o => (hD2.alloc o).cell 1
                  clear G3)))
          all_goals
            go_wp2
            go_roundw
            case rel =>
              have hT : ∀ u, Only ((h2 + 1) :: dv.ownBlock.toList) w3 (wz.setCell ⟨h2 + 1, 1, none⟩ u) := fun u => (hOz.mono (fun x hx => .inl (List.mem_cons_of_mem _ hx))).setCell (.inl (by simp)) _
              refine ⟨k + 1, by go_num, by omega, ?_⟩
              rw [HS1.out, ← HWW.out]
              refine ⟨pv1, .slice A2 (k + 1) c2', ?_, ?_, ?_, ?_, ?_⟩
              · exact (Rdr.row hr3 hod2 (by decide) hOz).far hD3 (by decide) _
              · exact hD3.set 1 _
              · have := own_only hop2 (hT (.slice A2 (k + 1) c2')) (by
                  intro x hx hxx; simp at hxx
                  rcases hxx with e | e
                  · exact (hpv x hx).2 e
                  · exact own_apart hop2 hod2 (by decide) hx e)
                simpa using this
              · have := own_only ho2 ((Only.refl [h2 + 1] wz).setCell (p := ⟨h2 + 1, 1, none⟩) (.inl (by simp)) (.slice A2 (k + 1) c2')) (by intro x hx; have := (own_lt ho2 hx).1; simp; omega)
                simpa [mgs, Mg.enc] using this
              · exact (hOx.trans' hO3 (by simp)).trans' (hT _) (by
                  intro x hx; simp at hx
                  rcases hx with rfl | e
                  · exact .inl (by simp)
                  · exact .inr (own_lt hod2 e).1)
            case measure => simp [intOf]; omega
      · obtain rfl : k = N := by omega
        go_wp2_with (fail)
        go_meet
        case rel => exact hW
  case rest =>
  obtain ⟨q1, v1, hrd5, hD5, hq1, hv1, hO5⟩ := hcut
  obtain ⟨W5, rfl⟩ : ∃ z : World, z = wc := ⟨_, rfl⟩
  have hpM : pM f = manyS (mergeS f) S1 N := by unfold pM; rw [← HNN.out, ← HS1e.out]
  rw [← hpM] at hrd5 hq1 hv1
  obtain ⟨S2, hS2⟩ : ∃ z, z = (pM f).2 := ⟨_, rfl⟩
  rw [← hS2] at hrd5
  simp only at hrd5 hD5
  have hE5 := HD2.out.2.only hO5 (by simp; omega)
  have hR5 := HR2.out.only hO5 (by simp; omega)
  have hz5 : h2 + 2 ≤ W5.heap.size := Nat.le_trans hz4 hO5.size
  have Hs3 := Lib.hid (show S2.at_ ≤ f.length by rw [hS2]; exact (pM_at f H4.out).1)
  have HS2e := Lib.hid hS2
  have Hq1 := Lib.hid hq1
  have Hv1 := Lib.hid hv1
  have HO5 := Lib.hid hO5
  have Hr5 := Lib.hid hrd5
  have HDE5 := Lib.hid (And.intro hD5 (And.intro hE5 hR5))
  clear hpM hS2 hrd5 hD5 hq1 hv1 hO5 hE5 hR5
  go_wp2_with (fail)
  refine name_it (p := fun y => Code.wp _ _ _ _ y) ?_
  intro W6 H6
  have hO6 : Only [] W5 W6 := by rw [H6.out]; exact (Only.refl [] W5).alloc _
  have HO6 := Lib.hid (show Only [p, h2 + 1] W5 W6 from hO6.mono (by simp))
  have hrdL : Rdr W6 p (.slice A n c) S2 [q0, q1, .slice none 0 0, .slice none 0 0, .slice none 0 0, .int .i64 0, .int .i64 0, .int .i64 0] := Hr5.out.only hO6 (by simp) (by simp)
  have hDL := HDE5.out.1.only hO6 (by simp)
  have hEL := HDE5.out.2.1.only hO6 (by simp)
  have hRL := HDE5.out.2.2.only hO6 (by simp)
  have hzL : h2 + 2 ≤ W6.heap.size := Nat.le_trans hz5 hO6.size
  clear hO6 H6
  have ix0 : ∀ W : World, (Instr.index 116 (.agg #[.pointer (some ⟨h2 + 1, 2, none⟩), .pointer (some ⟨h2 + 1, 3, none⟩), .pointer (some ⟨h2 + 1, 4, none⟩)]) (.int .i64 0)).run Tryd.prog W = .ok (.pointer (some ⟨h2 + 1, 2, none⟩)) W := fun _ => by kernel_rfl
  have ix1 : ∀ W : World, (Instr.index 116 (.agg #[.pointer (some ⟨h2 + 1, 2, none⟩), .pointer (some ⟨h2 + 1, 3, none⟩), .pointer (some ⟨h2 + 1, 4, none⟩)]) (.int .i64 1)).run Tryd.prog W = .ok (.pointer (some ⟨h2 + 1, 3, none⟩)) W := fun _ => by kernel_rfl
  have ix2 : ∀ W : World, (Instr.index 116 (.agg #[.pointer (some ⟨h2 + 1, 2, none⟩), .pointer (some ⟨h2 + 1, 3, none⟩), .pointer (some ⟨h2 + 1, 4, none⟩)]) (.int .i64 2)).run Tryd.prog W = .ok (.pointer (some ⟨h2 + 1, 4, none⟩)) W := fun _ => by kernel_rfl
  refine wp_loop_rounds 4 ?_
  rw [rounds_succ]
  go_upto_block 7 with (fail)
  go_cut [] (fun wx => ∃ Wk : World, h2 + 2 ≤ Wk.heap.size ∧ Only [p, h2 + 1] W6 Wk ∧ RLoop 70 2 Wk wx p (h2 + 1) (.slice A n c) (pA f).2 (pKa f).1 ((pA f).1.map Prod.fst) (ses ((pA f).1.map Prod.snd)) (fun x => [q0, q1, x, .slice none 0 0, .slice none 0 0, .int .i64 (S2.at_ : Int), .int .i64 0, .int .i64 0]) (fun x => [v0, v1, x, .slice none 0 0, .slice none 0 0]))
  case first =>
    have wnow := hrdL
    obtain ⟨rv0, hbL, hvL⟩ := hrdL
    have k1 : W6.cell? ⟨p, 1, none⟩ = some (.int .i64 (S2.at_ : Int)) := hbL.cell 1
    have k2 : W6.cell? ⟨p, 8, none⟩ = some (.int .i64 0) := hbL.cell 8
    have k3 : W6.frozen? ⟨p, 8, none⟩ = false := hbL.frozen 8
    go_wp2_with (fail)
    go_still_tail 9, (by kernel_rfl)
    go_wp2_with (fail)
    refine name_it (p := fun y => Calls _ _ _ y _) ?_
    intro Wc0 Hc0
    have hrdc : Rdr Wc0 p (.slice A n c) S2 [q0, q1, .slice none 0 0, .slice none 0 0, .slice none 0 0, .int .i64 (S2.at_ : Int), .int .i64 0, .int .i64 0] := by rw [Hc0.out]; exact wnow.drew.put (5 + 0) _
    have hOc : Only [p] W6 Wc0 := by rw [Hc0.out]; exact ((Only.refl [p] W6).drew).setCell (.inl (by simp)) _
    clear k1 k2 k3 hbL hvL wnow Hc0
    obtain ⟨NK, hNK⟩ : ∃ z, z = pKa f := ⟨_, rfl⟩
    have hnum := number_any Wc0 p B A n c f Hl.out (hRL.only hOc (by simp; omega)) hBp hn hnc S2 (by rw [← Hl.out]; exact Hs3.out) q0 q1 (.slice none 0 0) (.slice none 0 0) (.slice none 0 0) (.int .i64 (S2.at_ : Int)) (.int .i64 0) (.int .i64 0) 512 4 (by omega) hrdc
    rw [show numS f 512 4 S2 = NK by rw [hNK]; unfold pKa; rw [← HS2e.out]] at hnum
    have hNb := pKa_at f H4.out
    rw [← hNK] at hNb
    have HK0 := Lib.hid hNK
    refine hnum.mono ?_
    rintro e Wk0 ⟨rfl, hrdk, hOk⟩
    replace hOk := hOc.trans hOk
    obtain ⟨K0, T0⟩ := NK
    simp only at hrdk hNb HK0
    have hK0 : K0 ≤ 512 := hNb.2
    have Hp3 := Lib.hid hrdk
    have HD3 := Lib.hid (And.intro (hDL.only hOk (by simp; omega)) (hEL.only hOk (by simp; omega)))
    have HR3 := Lib.hid (hRL.only hOk (by simp; omega))
    replace Hs3 := Lib.hid hNb.1
    have hzk0 : h2 + 2 ≤ Wk0.heap.size := Nat.le_trans hzL hOk.size
    have HOk0 := Lib.hid (show Only [p, h2 + 1] W6 Wk0 from hOk.mono (by simp))
    clear hnum hNK hrdc hOc hrdk hOk hNb hDL hEL hRL hzL
    have hpX : pA f = manyS (spanS f) T0 K0 := by unfold pA; rw [← HK0.out]
    have hpK : (pKa f).1 = K0 := by rw [← HK0.out]
    have HpX := Lib.hid hpX
    have HpK := Lib.hid hpK
    clear hpX hpK
    go_wp2_with (fail)
    go_loopw [114] (fun vk wr => ∃ k : Nat, vk = .int .i64 (k : Int) ∧ k ≤ K0 ∧ RLoop 70 2 Wk0 wr p (h2 + 1) (.slice A n c) (manyS (spanS f) T0 k).2 k ((manyS (spanS f) T0 k).1.map Prod.fst) (ses ((manyS (spanS f) T0 k).1.map Prod.snd)) (fun x => [q0, q1, x, .slice none 0 0, .slice none 0 0, .int .i64 (S2.at_ : Int), .int .i64 0, .int .i64 0]) (fun x => [v0, v1, x, .slice none 0 0, .slice none 0 0])) (fun vk _ => K0 - (intOf vk).toNat)
    case atStart => exact ⟨0, rfl, by omega, _, _, Hp3.out, HD3.out.1, ⟨rfl, .inl ⟨rfl, rfl⟩⟩, ⟨rfl, .inl ⟨rfl, rfl⟩⟩, .refl _ _⟩
    case round =>
      obtain ⟨k, rfl, hk, hW⟩ := hrel
      by_cases hlt : k < K0
      · obtain ⟨S, hS⟩ : ∃ S, S = manyS (spanS f) T0 k := ⟨_, rfl⟩
        have hSl : S.1.length = k := by rw [hS, manyS_length]
        have hSa : S.2.at_ ≤ n := by rw [hS, ← Hl.out]; exact (manyS_at _ _ (fun s => spanS_at f s) _ Hs3.out k).1
        have hS1 : manyS (spanS f) T0 (k + 1) = (S.1 ++ [(S.2.at_, (spanS f S.2).1)], (spanS f S.2).2) := by rw [hS]; rfl
        rw [← hS] at hW
        have HS1 := Lib.hid hS1
        clear hS hS1
        obtain ⟨L, s⟩ := S
        obtain ⟨pv, dv, hrd, hD, hop, hod, hO⟩ := hW
        simp only at hSl hSa hrd hop hod hD
        obtain ⟨rv, hb, hv⟩ := hrd
        have c3 : wr.cell? ⟨p, 5, none⟩ = some pv := hb.cell 5
        have c1 : wr.cell? ⟨p, 1, none⟩ = some (.int .i64 (s.at_ : Int)) := hb.cell 1
        have f3 : wr.frozen? ⟨p, 5, none⟩ = false := hb.frozen 5
        have c3a : ∀ o, (wr.alloc o).cell? ⟨p, 5, none⟩ = some pv := fun o => (hb.alloc o).cell 5
        have hpv : ∀ x, pv.ownBlock = some x → x ≠ p ∧ x ≠ h2 + 1 := fun x hx => by have := (own_lt hop hx).1; omega
        have hdv : ∀ x, dv.ownBlock = some x → x ≠ p ∧ x ≠ h2 + 1 := fun x hx => by have := (own_lt hod hx).1; omega
        have hbz : Wk0.heap.size ≤ wr.heap.size := hO.size
        have hpd : p ≠ h2 + 1 ∧ h2 + 1 ≠ p := by omega
        go_upto_region 28 with (fail)
        go_cut [] (fun wx => ∃ pv1, wx.ownsRow Wk0.heap.size 3 1 pv1 (k + 1) (nats (L.map Prod.fst ++ [s.at_])) ∧ Rdr wx p (.slice A n c) s [q0, q1, pv1, .slice none 0 0, .slice none 0 0, .int .i64 (S2.at_ : Int), .int .i64 0, .int .i64 0] ∧ Blk wx (h2 + 1) 38 [v0, v1, dv, .slice none 0 0, .slice none 0 0] ∧ wx.ownsRow Wk0.heap.size 70 2 dv k (ses (L.map Prod.snd)) ∧ Only [p, h2 + 1] Wk0 wx)
        case first =>
          go_region_law (first
            | (refine step_append_row (v := pv) (by rfl) (.tmp 123) (.tmp 128) 51 (by rfl) Wk0.heap.size 3 (.int .i64 0) 1 8 Tryd.underlying51 intInfo6 rfl (by omega) (n := k) (xs := nats (L.map Prod.fst)) (by rfl)
                 (by first | exact own_only hop ((Only.refl [] wr).alloc _) (by simp) | exact own_only hop (((Only.refl [] wr).alloc _).drew) (by simp) | exact own_only hop (((Only.refl [] wr).drew).alloc _) (by simp)) 1 (by rfl)
                 (by first | exact Rd.whole (Blk.new' _ _ _ rfl rfl) rfl | exact (Rd.whole (Blk.new' _ _ _ rfl rfl) rfl).drew) (by simp [Value.oneCell']) (by simp only [maxLen]; omega) (by omega) (by simp; omega) ?_
               intro pv1 w1 ho1 hO1 hn1
               replace hO1 : Only pv.ownBlock.toList wr w1 := by first | exact ((Only.refl _ wr).alloc _).trans hO1 | exact (((Only.refl _ wr).alloc _).drew).trans hO1 | exact (((Only.refl _ wr).drew).alloc _).trans hO1
               have hb1 := hb.only hO1 (by intro hx; exact (hpv p (by simpa using hx)).1 rfl)
               have d3 : w1.frozen? ⟨p, 5, none⟩ = false := hb1.frozen 5
               have d4 : w1.cell? ⟨p, 5, none⟩ = some pv := hb1.cell 5
               obtain ⟨A1, c1', rfl, -⟩ := own_slice ho1))
          all_goals
            go_wp2
            go_meet
            case rel =>
              have hT : ∀ u, Only (p :: pv.ownBlock.toList) wr (w1.setCell ⟨p, 5, none⟩ u) := fun u => (hO1.mono (fun x hx => .inl (List.mem_cons_of_mem _ hx))).setCell (.inl (by simp)) _
              refine ⟨.slice A1 (k + 1) c1', ?_, ?_, ?_, ?_, ?_⟩
              · have := own_only ho1 ((Only.refl [p] w1).setCell (p := ⟨p, 5, none⟩) (.inl (by simp)) (.slice A1 (k + 1) c1')) (by intro x hx; have := (own_lt ho1 hx).1; simp; omega)
                rw [nats_snoc]
                exact this
              · exact (Rdr.row ⟨rv, hb, hv⟩ hop (by decide) hO1).put 2 _
              · exact hD.only (hT _) (by intro hx; simp at hx; exact hx.elim (by omega) (fun e => (hpv _ e).2 rfl))
              · exact own_only hod (hT _) (by
                  intro x hx hxx; simp at hxx
                  rcases hxx with e | e
                  · exact (hdv x hx).1 e
                  · exact own_apart hod hop (by decide) hx e)
              · exact hO.trans' (hT _) (by
                  intro x hx; simp at hx
                  rcases hx with rfl | e
                  · exact .inl (by simp)
                  · exact .inr (own_lt hop e).1)
        case rest =>
          obtain ⟨pv1, hop1, hrd1, hD1, hod1, hOx⟩ := hcut
          clear hop hod hb hv hD c3 c1 f3 c3a hpv hdv hbz hO
          have hbz : Wk0.heap.size ≤ wc.heap.size := hOx.size
          have hdv : ∀ x, dv.ownBlock = some x → x ≠ p ∧ x ≠ h2 + 1 := fun x hx => by have := (own_lt hod1 hx).1; omega
          have hpv : ∀ x, pv1.ownBlock = some x → x ≠ p ∧ x ≠ h2 + 1 := fun x hx => by have := (own_lt hop1 hx).1; omega
          have c0 : wc.cell? ⟨h2 + 1, 2, none⟩ = some dv := hD1.cell 2
          have GN := fun W (s' : RS) (h : Only [p] wc W) (hs' : s'.at_ ≤ n) (hr : Rdr W p (.slice A n c) s' [q0, q1, pv1, .slice none 0 0, .slice none 0 0, .int .i64 (S2.at_ : Int), .int .i64 0, .int .i64 0]) => number_any W p B A n c f Hl.out ((HR3.out.only hOx (by simp; omega)).only h (by simp; omega)) hBp hn hnc s' hs' q0 q1 pv1 (.slice none 0 0) (.slice none 0 0) (.int .i64 (S2.at_ : Int)) (.int .i64 0) (.int .i64 0) 1114111 14 (by omega) hr
          obtain ⟨⟨x1, t1⟩, hX1⟩ : ∃ z, z = numS f 1114111 14 s := ⟨_, rfl⟩
          have ha1 : t1.at_ ≤ n ∧ x1 ≤ 1114111 := by have := numS_at f 1114111 14 s (by rw [Hl.out]; omega); rw [← hX1, Hl.out] at this; exact this
          have G1 := Lib.hid (fun W (h : Only [] wc W) => GN W s (h.mono (by simp)) hSa (hrd1.only h (by simp) (by simp)))
          rw [← hX1] at G1
          obtain ⟨⟨x2, t2⟩, hX2⟩ : ∃ z, z = numS f 1114111 14 t1 := ⟨_, rfl⟩
          have ha2 : t2.at_ ≤ n ∧ x2 ≤ 1114111 := by have := numS_at f 1114111 14 t1 (by rw [Hl.out]; omega); rw [← hX2, Hl.out] at this; exact this
          have G2 := Lib.hid (fun W (h : Only [p] wc W) (hr : Rdr W p (.slice A n c) t1 [q0, q1, pv1, .slice none 0 0, .slice none 0 0, .int .i64 (S2.at_ : Int), .int .i64 0, .int .i64 0]) => GN W t1 h ha1.1 hr)
          rw [← hX2] at G2
          have HWW := Lib.hid (show ((((x1 : Int), (x2 : Int)) : Sp), t2) = spanS f s by unfold spanS; rw [← hX1]; simp only; rw [← hX2])
          have hw1 : IntKind.i32.wrap ((x1 : Nat) : Int) = (x1 : Int) := IntWalk.i32_in _ (by omega)
          have hw2 : IntKind.i32.wrap ((x2 : Nat) : Int) = (x2 : Int) := IntWalk.i32_in _ (by omega)
          clear GN hrd1 hX1 hX2
          go_upto_region 29 with (fail)
          go_region_law (first
            | (have hod2 := own_only hod1 hO2 (by intro x hx; simp; exact (hdv x hx).1)
               have hop2 := own_only hop1 hO2 (by intro x hx; simp; exact (hpv x hx).1)
               have hb1 := hO2.size
               refine step_append_row (v := dv) (by rfl) (.tmp 136) (.tmp 144) 36 (by rfl) Wk0.heap.size 70 (.agg #[.int .i32 0, .int .i32 0]) 2 8 Tryd.underlying36 spInfo6 rfl (by omega) (n := k) (xs := ses (L.map Prod.snd)) (by rfl)
                 (by first | exact own_only hod2 ((Only.refl [] w2).alloc _) (by simp) | exact own_only hod2 (((Only.refl [] w2).alloc _).drew) (by simp) | exact own_only hod2 (((Only.refl [] w2).drew).alloc _) (by simp)) 1 (by rfl)
                 (by first | exact Rd.whole (Blk.new' _ _ _ rfl rfl) rfl | exact (Rd.whole (Blk.new' _ _ _ rfl rfl) rfl).drew) (by simp [Value.oneCell']) (by simp only [maxLen]; omega) (by omega) (by simp; omega) ?_
               intro dv1 wz ho2 hOz hn2
               replace hOz : Only dv.ownBlock.toList w2 wz := by first | exact ((Only.refl _ w2).alloc _).trans hOz | exact (((Only.refl _ w2).alloc _).drew).trans hOz | exact (((Only.refl _ w2).drew).alloc _).trans hOz
               have hD3 := (hD1.only hO2 (by simp; omega)).only hOz (by intro hx; exact (hdv (h2 + 1) (by simpa using hx)).2 rfl)
               have d3 : wz.frozen? ⟨h2 + 1, 2, none⟩ = false := hD3.frozen 2
               have d4 : wz.cell? ⟨h2 + 1, 2, none⟩ = some dv := hD3.cell 2
               obtain ⟨A2, c2', rfl, -⟩ := own_slice ho2)
            | (go_simp
               go_at_call 33
               first
               | (refine (G1.out _ ?_).mono ?_
                  exact (by first | exact Only.refl [] wc | exact (Only.refl [] wc).drew)
                  rintro e w1 ⟨rfl, hr1, hO1⟩
                  replace hO1 : Only [p] wc w1 := by first | exact hO1 | exact hO1.ofDrew
                  have hD2 := hD1.only hO1 (by simp; omega)
                  have d0 : w1.cell? ⟨h2 + 1, 2, none⟩ = some dv := hD2.cell 2
                  have d0a : ∀ o, (w1.alloc o).cell? ⟨h2 + 1, 2, none⟩ = some dv := fun o => (hD2.alloc o).cell 2
                  clear G1)
               | (refine (G2.out _ hO1 hr1).mono ?_
                  rintro e w2 ⟨rfl, hr2, hO2⟩
                  replace hO2 := hO1.trans hO2
                  have hD2 := hD1.only hO2 (by simp; omega)
                  have d0 : w2.cell? ⟨h2 + 1, 2, none⟩ = some dv := hD2.cell 2
                  have d0a : ∀ o, (w2.alloc o).cell? ⟨h2 + 1, 2, none⟩ = some dv := fun o => (hD2.alloc o).cell 2
                  clear G2)))
          all_goals
            go_wp2
            go_roundw
            case rel =>
              have hT : ∀ u, Only ((h2 + 1) :: dv.ownBlock.toList) w2 (wz.setCell ⟨h2 + 1, 2, none⟩ u) := fun u => (hOz.mono (fun x hx => .inl (List.mem_cons_of_mem _ hx))).setCell (.inl (by simp)) _
              refine ⟨k + 1, by go_num, by omega, ?_⟩
              rw [HS1.out, ← HWW.out]
              refine ⟨pv1, .slice A2 (k + 1) c2', ?_, ?_, ?_, ?_, ?_⟩
              · exact (Rdr.row hr2 hod2 (by decide) hOz).far hD3 (by decide) _
              · exact hD3.set 2 _
              · have := own_only hop2 (hT (.slice A2 (k + 1) c2')) (by
                  intro x hx hxx; simp at hxx
                  rcases hxx with e | e
                  · exact (hpv x hx).2 e
                  · exact own_apart hop2 hod2 (by decide) hx e)
                simpa using this
              · have := own_only ho2 ((Only.refl [h2 + 1] wz).setCell (p := ⟨h2 + 1, 2, none⟩) (.inl (by simp)) (.slice A2 (k + 1) c2')) (by intro x hx; have := (own_lt ho2 hx).1; simp; omega)
                simpa [ses, spv] using this
              · exact (hOx.trans' hO2 (by simp)).trans' (hT _) (by
                  intro x hx; simp at hx
                  rcases hx with rfl | e
                  · exact .inl (by simp)
                  · exact .inr (own_lt hod2 e).1)
            case measure => simp [intOf]; omega
      · obtain rfl : k = K0 := by omega
        go_wp2_with (fail)
        go_meet
        case rel => exact ⟨_, hzk0, HOk0.out, by rw [HpX.out, HpK.out]; exact hW⟩
  case rest =>
  obtain ⟨Wk, hzk, hOk, q2, v2, hrd6, hD6, hq6, hv6, hO6⟩ := hcut
  obtain ⟨W7, rfl⟩ : ∃ z : World, z = wc := ⟨_, rfl⟩
  replace hO6 := hOk.trans hO6
  obtain ⟨S3, hS6⟩ : ∃ z, z = (pA f).2 := ⟨_, rfl⟩
  rw [← hS6] at hrd6
  simp only at hrd6 hD6
  clear hrdL hDL
  have hrdL := hrd6
  have hDL := hD6
  replace hEL := hEL.only hO6 (by simp; omega)
  replace hRL := hRL.only hO6 (by simp; omega)
  have hzL : h2 + 2 ≤ W7.heap.size := Nat.le_trans hzL hO6.size
  have Hs4 := Lib.hid (show S3.at_ ≤ f.length by rw [hS6]; exact (pA_at f H4.out).1)
  have HS3e := Lib.hid hS6
  have Hq2 := Lib.hid hq6
  have Hv2 := Lib.hid hv6
  have HOb0 := Lib.hid hO6
  have Hzk0 := Lib.hid hzk
  clear hS6 hrd6 hD6 hq6 hv6 hO6 hOk hzk
  go_wp2_with (fail)
  rw [rounds_succ]
  go_upto_block 7 with (fail)
  go_cut [] (fun wx => ∃ Wk : World, h2 + 2 ≤ Wk.heap.size ∧ Only [p, h2 + 1] W7 Wk ∧ RLoop 70 2 Wk wx p (h2 + 1) (.slice A n c) (pB f).2 (pKb f).1 ((pB f).1.map Prod.fst) (ses ((pB f).1.map Prod.snd)) (fun x => [q0, q1, q2, x, .slice none 0 0, .int .i64 (S2.at_ : Int), .int .i64 (S3.at_ : Int), .int .i64 0]) (fun x => [v0, v1, v2, x, .slice none 0 0]))
  case first =>
    have wnow := hrdL
    obtain ⟨rv1, hbL, hvL⟩ := hrdL
    have k1 : W7.cell? ⟨p, 1, none⟩ = some (.int .i64 (S3.at_ : Int)) := hbL.cell 1
    have k2 : W7.cell? ⟨p, 9, none⟩ = some (.int .i64 0) := hbL.cell 9
    have k3 : W7.frozen? ⟨p, 9, none⟩ = false := hbL.frozen 9
    go_wp2_with (fail)
    go_still_tail 9, (by kernel_rfl)
    go_wp2_with (fail)
    refine name_it (p := fun y => Calls _ _ _ y _) ?_
    intro Wc1 Hc1
    have hrdc : Rdr Wc1 p (.slice A n c) S3 [q0, q1, q2, .slice none 0 0, .slice none 0 0, .int .i64 (S2.at_ : Int), .int .i64 (S3.at_ : Int), .int .i64 0] := by rw [Hc1.out]; exact wnow.drew.put (5 + 1) _
    have hOc : Only [p] W7 Wc1 := by rw [Hc1.out]; exact ((Only.refl [p] W7).drew).setCell (.inl (by simp)) _
    clear k1 k2 k3 hbL hvL wnow Hc1
    obtain ⟨NK, hNK⟩ : ∃ z, z = pKb f := ⟨_, rfl⟩
    have hnum := number_any Wc1 p B A n c f Hl.out (hRL.only hOc (by simp; omega)) hBp hn hnc S3 (by rw [← Hl.out]; exact Hs4.out) q0 q1 q2 (.slice none 0 0) (.slice none 0 0) (.int .i64 (S2.at_ : Int)) (.int .i64 (S3.at_ : Int)) (.int .i64 0) 512 4 (by omega) hrdc
    rw [show numS f 512 4 S3 = NK by rw [hNK]; unfold pKb; rw [← HS3e.out]] at hnum
    have hNb := pKb_at f H4.out
    rw [← hNK] at hNb
    have HK1 := Lib.hid hNK
    refine hnum.mono ?_
    rintro e Wk1 ⟨rfl, hrdk, hOk⟩
    replace hOk := hOc.trans hOk
    obtain ⟨K1, T1⟩ := NK
    simp only at hrdk hNb HK1
    have hK1 : K1 ≤ 512 := hNb.2
    have Hp4 := Lib.hid hrdk
    have HD4 := Lib.hid (And.intro (hDL.only hOk (by simp; omega)) (hEL.only hOk (by simp; omega)))
    have HR4 := Lib.hid (hRL.only hOk (by simp; omega))
    replace Hs4 := Lib.hid hNb.1
    have hzk1 : h2 + 2 ≤ Wk1.heap.size := Nat.le_trans hzL hOk.size
    have HOk1 := Lib.hid (show Only [p, h2 + 1] W7 Wk1 from hOk.mono (by simp))
    clear hnum hNK hrdc hOc hrdk hOk hNb hDL hEL hRL hzL
    have hpX : pB f = manyS (spanS f) T1 K1 := by unfold pB; rw [← HK1.out]
    have hpK : (pKb f).1 = K1 := by rw [← HK1.out]
    have HpX := Lib.hid hpX
    have HpK := Lib.hid hpK
    clear hpX hpK
    go_wp2_with (fail)
    go_loopw [114] (fun vk wr => ∃ k : Nat, vk = .int .i64 (k : Int) ∧ k ≤ K1 ∧ RLoop 70 2 Wk1 wr p (h2 + 1) (.slice A n c) (manyS (spanS f) T1 k).2 k ((manyS (spanS f) T1 k).1.map Prod.fst) (ses ((manyS (spanS f) T1 k).1.map Prod.snd)) (fun x => [q0, q1, q2, x, .slice none 0 0, .int .i64 (S2.at_ : Int), .int .i64 (S3.at_ : Int), .int .i64 0]) (fun x => [v0, v1, v2, x, .slice none 0 0])) (fun vk _ => K1 - (intOf vk).toNat)
    case atStart => exact ⟨0, rfl, by omega, _, _, Hp4.out, HD4.out.1, ⟨rfl, .inl ⟨rfl, rfl⟩⟩, ⟨rfl, .inl ⟨rfl, rfl⟩⟩, .refl _ _⟩
    case round =>
      obtain ⟨k, rfl, hk, hW⟩ := hrel
      by_cases hlt : k < K1
      · obtain ⟨S, hS⟩ : ∃ S, S = manyS (spanS f) T1 k := ⟨_, rfl⟩
        have hSl : S.1.length = k := by rw [hS, manyS_length]
        have hSa : S.2.at_ ≤ n := by rw [hS, ← Hl.out]; exact (manyS_at _ _ (fun s => spanS_at f s) _ Hs4.out k).1
        have hS1 : manyS (spanS f) T1 (k + 1) = (S.1 ++ [(S.2.at_, (spanS f S.2).1)], (spanS f S.2).2) := by rw [hS]; rfl
        rw [← hS] at hW
        have HS1 := Lib.hid hS1
        clear hS hS1
        obtain ⟨L, s⟩ := S
        obtain ⟨pv, dv, hrd, hD, hop, hod, hO⟩ := hW
        simp only at hSl hSa hrd hop hod hD
        obtain ⟨rv, hb, hv⟩ := hrd
        have c3 : wr.cell? ⟨p, 6, none⟩ = some pv := hb.cell 6
        have c1 : wr.cell? ⟨p, 1, none⟩ = some (.int .i64 (s.at_ : Int)) := hb.cell 1
        have f3 : wr.frozen? ⟨p, 6, none⟩ = false := hb.frozen 6
        have c3a : ∀ o, (wr.alloc o).cell? ⟨p, 6, none⟩ = some pv := fun o => (hb.alloc o).cell 6
        have hpv : ∀ x, pv.ownBlock = some x → x ≠ p ∧ x ≠ h2 + 1 := fun x hx => by have := (own_lt hop hx).1; omega
        have hdv : ∀ x, dv.ownBlock = some x → x ≠ p ∧ x ≠ h2 + 1 := fun x hx => by have := (own_lt hod hx).1; omega
        have hbz : Wk1.heap.size ≤ wr.heap.size := hO.size
        have hpd : p ≠ h2 + 1 ∧ h2 + 1 ≠ p := by omega
        go_upto_region 28 with (fail)
        go_cut [] (fun wx => ∃ pv1, wx.ownsRow Wk1.heap.size 3 1 pv1 (k + 1) (nats (L.map Prod.fst ++ [s.at_])) ∧ Rdr wx p (.slice A n c) s [q0, q1, q2, pv1, .slice none 0 0, .int .i64 (S2.at_ : Int), .int .i64 (S3.at_ : Int), .int .i64 0] ∧ Blk wx (h2 + 1) 38 [v0, v1, v2, dv, .slice none 0 0] ∧ wx.ownsRow Wk1.heap.size 70 2 dv k (ses (L.map Prod.snd)) ∧ Only [p, h2 + 1] Wk1 wx)
        case first =>
          go_region_law (first
            | (refine step_append_row (v := pv) (by rfl) (.tmp 123) (.tmp 128) 51 (by rfl) Wk1.heap.size 3 (.int .i64 0) 1 8 Tryd.underlying51 intInfo6 rfl (by omega) (n := k) (xs := nats (L.map Prod.fst)) (by rfl)
                 (by first | exact own_only hop ((Only.refl [] wr).alloc _) (by simp) | exact own_only hop (((Only.refl [] wr).alloc _).drew) (by simp) | exact own_only hop (((Only.refl [] wr).drew).alloc _) (by simp)) 1 (by rfl)
                 (by first | exact Rd.whole (Blk.new' _ _ _ rfl rfl) rfl | exact (Rd.whole (Blk.new' _ _ _ rfl rfl) rfl).drew) (by simp [Value.oneCell']) (by simp only [maxLen]; omega) (by omega) (by simp; omega) ?_
               intro pv1 w1 ho1 hO1 hn1
               replace hO1 : Only pv.ownBlock.toList wr w1 := by first | exact ((Only.refl _ wr).alloc _).trans hO1 | exact (((Only.refl _ wr).alloc _).drew).trans hO1 | exact (((Only.refl _ wr).drew).alloc _).trans hO1
               have hb1 := hb.only hO1 (by intro hx; exact (hpv p (by simpa using hx)).1 rfl)
               have d3 : w1.frozen? ⟨p, 6, none⟩ = false := hb1.frozen 6
               have d4 : w1.cell? ⟨p, 6, none⟩ = some pv := hb1.cell 6
               obtain ⟨A1, c1', rfl, -⟩ := own_slice ho1))
          all_goals
            go_wp2
            go_meet
            case rel =>
              have hT : ∀ u, Only (p :: pv.ownBlock.toList) wr (w1.setCell ⟨p, 6, none⟩ u) := fun u => (hO1.mono (fun x hx => .inl (List.mem_cons_of_mem _ hx))).setCell (.inl (by simp)) _
              refine ⟨.slice A1 (k + 1) c1', ?_, ?_, ?_, ?_, ?_⟩
              · have := own_only ho1 ((Only.refl [p] w1).setCell (p := ⟨p, 6, none⟩) (.inl (by simp)) (.slice A1 (k + 1) c1')) (by intro x hx; have := (own_lt ho1 hx).1; simp; omega)
                rw [nats_snoc]
                exact this
              · exact (Rdr.row ⟨rv, hb, hv⟩ hop (by decide) hO1).put 3 _
              · exact hD.only (hT _) (by intro hx; simp at hx; exact hx.elim (by omega) (fun e => (hpv _ e).2 rfl))
              · exact own_only hod (hT _) (by
                  intro x hx hxx; simp at hxx
                  rcases hxx with e | e
                  · exact (hdv x hx).1 e
                  · exact own_apart hod hop (by decide) hx e)
              · exact hO.trans' (hT _) (by
                  intro x hx; simp at hx
                  rcases hx with rfl | e
                  · exact .inl (by simp)
                  · exact .inr (own_lt hop e).1)
        case rest =>
          obtain ⟨pv1, hop1, hrd1, hD1, hod1, hOx⟩ := hcut
          clear hop hod hb hv hD c3 c1 f3 c3a hpv hdv hbz hO
          have hbz : Wk1.heap.size ≤ wc.heap.size := hOx.size
          have hdv : ∀ x, dv.ownBlock = some x → x ≠ p ∧ x ≠ h2 + 1 := fun x hx => by have := (own_lt hod1 hx).1; omega
          have hpv : ∀ x, pv1.ownBlock = some x → x ≠ p ∧ x ≠ h2 + 1 := fun x hx => by have := (own_lt hop1 hx).1; omega
          have c0 : wc.cell? ⟨h2 + 1, 3, none⟩ = some dv := hD1.cell 3
          have GN := fun W (s' : RS) (h : Only [p] wc W) (hs' : s'.at_ ≤ n) (hr : Rdr W p (.slice A n c) s' [q0, q1, q2, pv1, .slice none 0 0, .int .i64 (S2.at_ : Int), .int .i64 (S3.at_ : Int), .int .i64 0]) => number_any W p B A n c f Hl.out ((HR4.out.only hOx (by simp; omega)).only h (by simp; omega)) hBp hn hnc s' hs' q0 q1 q2 pv1 (.slice none 0 0) (.int .i64 (S2.at_ : Int)) (.int .i64 (S3.at_ : Int)) (.int .i64 0) 1114111 14 (by omega) hr
          obtain ⟨⟨x1, t1⟩, hX1⟩ : ∃ z, z = numS f 1114111 14 s := ⟨_, rfl⟩
          have ha1 : t1.at_ ≤ n ∧ x1 ≤ 1114111 := by have := numS_at f 1114111 14 s (by rw [Hl.out]; omega); rw [← hX1, Hl.out] at this; exact this
          have G1 := Lib.hid (fun W (h : Only [] wc W) => GN W s (h.mono (by simp)) hSa (hrd1.only h (by simp) (by simp)))
          rw [← hX1] at G1
          obtain ⟨⟨x2, t2⟩, hX2⟩ : ∃ z, z = numS f 1114111 14 t1 := ⟨_, rfl⟩
          have ha2 : t2.at_ ≤ n ∧ x2 ≤ 1114111 := by have := numS_at f 1114111 14 t1 (by rw [Hl.out]; omega); rw [← hX2, Hl.out] at this; exact this
          have G2 := Lib.hid (fun W (h : Only [p] wc W) (hr : Rdr W p (.slice A n c) t1 [q0, q1, q2, pv1, .slice none 0 0, .int .i64 (S2.at_ : Int), .int .i64 (S3.at_ : Int), .int .i64 0]) => GN W t1 h ha1.1 hr)
          rw [← hX2] at G2
          have HWW := Lib.hid (show ((((x1 : Int), (x2 : Int)) : Sp), t2) = spanS f s by unfold spanS; rw [← hX1]; simp only; rw [← hX2])
          have hw1 : IntKind.i32.wrap ((x1 : Nat) : Int) = (x1 : Int) := IntWalk.i32_in _ (by omega)
          have hw2 : IntKind.i32.wrap ((x2 : Nat) : Int) = (x2 : Int) := IntWalk.i32_in _ (by omega)
          clear GN hrd1 hX1 hX2
          go_upto_region 29 with (fail)
          go_region_law (first
            | (have hod2 := own_only hod1 hO2 (by intro x hx; simp; exact (hdv x hx).1)
               have hop2 := own_only hop1 hO2 (by intro x hx; simp; exact (hpv x hx).1)
               have hb1 := hO2.size
               refine step_append_row (v := dv) (by rfl) (.tmp 136) (.tmp 144) 36 (by rfl) Wk1.heap.size 70 (.agg #[.int .i32 0, .int .i32 0]) 2 8 Tryd.underlying36 spInfo6 rfl (by omega) (n := k) (xs := ses (L.map Prod.snd)) (by rfl)
                 (by first | exact own_only hod2 ((Only.refl [] w2).alloc _) (by simp) | exact own_only hod2 (((Only.refl [] w2).alloc _).drew) (by simp) | exact own_only hod2 (((Only.refl [] w2).drew).alloc _) (by simp)) 1 (by rfl)
                 (by first | exact Rd.whole (Blk.new' _ _ _ rfl rfl) rfl | exact (Rd.whole (Blk.new' _ _ _ rfl rfl) rfl).drew) (by simp [Value.oneCell']) (by simp only [maxLen]; omega) (by omega) (by simp; omega) ?_
               intro dv1 wz ho2 hOz hn2
               replace hOz : Only dv.ownBlock.toList w2 wz := by first | exact ((Only.refl _ w2).alloc _).trans hOz | exact (((Only.refl _ w2).alloc _).drew).trans hOz | exact (((Only.refl _ w2).drew).alloc _).trans hOz
               have hD3 := (hD1.only hO2 (by simp; omega)).only hOz (by intro hx; exact (hdv (h2 + 1) (by simpa using hx)).2 rfl)
               have d3 : wz.frozen? ⟨h2 + 1, 3, none⟩ = false := hD3.frozen 3
               have d4 : wz.cell? ⟨h2 + 1, 3, none⟩ = some dv := hD3.cell 3
               obtain ⟨A2, c2', rfl, -⟩ := own_slice ho2)
            | (go_simp
               go_at_call 33
               first
               | (refine (G1.out _ ?_).mono ?_
                  exact (by first | exact Only.refl [] wc | exact (Only.refl [] wc).drew)
                  rintro e w1 ⟨rfl, hr1, hO1⟩
                  replace hO1 : Only [p] wc w1 := by first | exact hO1 | exact hO1.ofDrew
                  have hD2 := hD1.only hO1 (by simp; omega)
                  have d0 : w1.cell? ⟨h2 + 1, 3, none⟩ = some dv := hD2.cell 3
                  have d0a : ∀ o, (w1.alloc o).cell? ⟨h2 + 1, 3, none⟩ = some dv := fun o => (hD2.alloc o).cell 3
                  clear G1)
               | (refine (G2.out _ hO1 hr1).mono ?_
                  rintro e w2 ⟨rfl, hr2, hO2⟩
                  replace hO2 := hO1.trans hO2
                  have hD2 := hD1.only hO2 (by simp; omega)
                  have d0 : w2.cell? ⟨h2 + 1, 3, none⟩ = some dv := hD2.cell 3
                  have d0a : ∀ o, (w2.alloc o).cell? ⟨h2 + 1, 3, none⟩ = some dv := fun o => (hD2.alloc o).cell 3
                  clear G2)))
          all_goals
            go_wp2
            go_roundw
            case rel =>
              have hT : ∀ u, Only ((h2 + 1) :: dv.ownBlock.toList) w2 (wz.setCell ⟨h2 + 1, 3, none⟩ u) := fun u => (hOz.mono (fun x hx => .inl (List.mem_cons_of_mem _ hx))).setCell (.inl (by simp)) _
              refine ⟨k + 1, by go_num, by omega, ?_⟩
              rw [HS1.out, ← HWW.out]
              refine ⟨pv1, .slice A2 (k + 1) c2', ?_, ?_, ?_, ?_, ?_⟩
              · exact (Rdr.row hr2 hod2 (by decide) hOz).far hD3 (by decide) _
              · exact hD3.set 3 _
              · have := own_only hop2 (hT (.slice A2 (k + 1) c2')) (by
                  intro x hx hxx; simp at hxx
                  rcases hxx with e | e
                  · exact (hpv x hx).2 e
                  · exact own_apart hop2 hod2 (by decide) hx e)
                simpa using this
              · have := own_only ho2 ((Only.refl [h2 + 1] wz).setCell (p := ⟨h2 + 1, 3, none⟩) (.inl (by simp)) (.slice A2 (k + 1) c2')) (by intro x hx; have := (own_lt ho2 hx).1; simp; omega)
                simpa [ses, spv] using this
              · exact (hOx.trans' hO2 (by simp)).trans' (hT _) (by
                  intro x hx; simp at hx
                  rcases hx with rfl | e
                  · exact .inl (by simp)
                  · exact .inr (own_lt hod2 e).1)
            case measure => simp [intOf]; omega
      · obtain rfl : k = K1 := by omega
        go_wp2_with (fail)
        go_meet
        case rel => exact ⟨_, hzk1, HOk1.out, by rw [HpX.out, HpK.out]; exact hW⟩
  case rest =>
  obtain ⟨Wk, hzk, hOk, q3, v3, hrd6, hD6, hq6, hv6, hO6⟩ := hcut
  obtain ⟨W8, rfl⟩ : ∃ z : World, z = wc := ⟨_, rfl⟩
  replace hO6 := hOk.trans hO6
  obtain ⟨S4, hS6⟩ : ∃ z, z = (pB f).2 := ⟨_, rfl⟩
  rw [← hS6] at hrd6
  simp only at hrd6 hD6
  clear hrdL hDL
  have hrdL := hrd6
  have hDL := hD6
  replace hEL := hEL.only hO6 (by simp; omega)
  replace hRL := hRL.only hO6 (by simp; omega)
  have hzL : h2 + 2 ≤ W8.heap.size := Nat.le_trans hzL hO6.size
  have Hs5 := Lib.hid (show S4.at_ ≤ f.length by rw [hS6]; exact (pB_at f H4.out).1)
  have HS4e := Lib.hid hS6
  have Hq3 := Lib.hid hq6
  have Hv3 := Lib.hid hv6
  have HOb1 := Lib.hid hO6
  have Hzk1 := Lib.hid hzk
  clear hS6 hrd6 hD6 hq6 hv6 hO6 hOk hzk
  go_wp2_with (fail)
  rw [rounds_succ]
  go_upto_block 7 with (fail)
  go_cut [] (fun wx => ∃ Wk : World, h2 + 2 ≤ Wk.heap.size ∧ Only [p, h2 + 1] W8 Wk ∧ RLoop 70 2 Wk wx p (h2 + 1) (.slice A n c) (pD f).2 (pKd f).1 ((pD f).1.map Prod.fst) (ses ((pD f).1.map Prod.snd)) (fun x => [q0, q1, q2, q3, x, .int .i64 (S2.at_ : Int), .int .i64 (S3.at_ : Int), .int .i64 (S4.at_ : Int)]) (fun x => [v0, v1, v2, v3, x]))
  case first =>
    have wnow := hrdL
    obtain ⟨rv2, hbL, hvL⟩ := hrdL
    have k1 : W8.cell? ⟨p, 1, none⟩ = some (.int .i64 (S4.at_ : Int)) := hbL.cell 1
    have k2 : W8.cell? ⟨p, 10, none⟩ = some (.int .i64 0) := hbL.cell 10
    have k3 : W8.frozen? ⟨p, 10, none⟩ = false := hbL.frozen 10
    go_wp2_with (fail)
    go_still_tail 9, (by kernel_rfl)
    go_wp2_with (fail)
    refine name_it (p := fun y => Calls _ _ _ y _) ?_
    intro Wc2 Hc2
    have hrdc : Rdr Wc2 p (.slice A n c) S4 [q0, q1, q2, q3, .slice none 0 0, .int .i64 (S2.at_ : Int), .int .i64 (S3.at_ : Int), .int .i64 (S4.at_ : Int)] := by rw [Hc2.out]; exact wnow.drew.put (5 + 2) _
    have hOc : Only [p] W8 Wc2 := by rw [Hc2.out]; exact ((Only.refl [p] W8).drew).setCell (.inl (by simp)) _
    clear k1 k2 k3 hbL hvL wnow Hc2
    obtain ⟨NK, hNK⟩ : ∃ z, z = pKd f := ⟨_, rfl⟩
    have hnum := number_any Wc2 p B A n c f Hl.out (hRL.only hOc (by simp; omega)) hBp hn hnc S4 (by rw [← Hl.out]; exact Hs5.out) q0 q1 q2 q3 (.slice none 0 0) (.int .i64 (S2.at_ : Int)) (.int .i64 (S3.at_ : Int)) (.int .i64 (S4.at_ : Int)) 512 4 (by omega) hrdc
    rw [show numS f 512 4 S4 = NK by rw [hNK]; unfold pKd; rw [← HS4e.out]] at hnum
    have hNb := pKd_at f H4.out
    rw [← hNK] at hNb
    have HK2 := Lib.hid hNK
    refine hnum.mono ?_
    rintro e Wk2 ⟨rfl, hrdk, hOk⟩
    replace hOk := hOc.trans hOk
    obtain ⟨K2, T2⟩ := NK
    simp only at hrdk hNb HK2
    have hK2 : K2 ≤ 512 := hNb.2
    have Hp5 := Lib.hid hrdk
    have HD5 := Lib.hid (And.intro (hDL.only hOk (by simp; omega)) (hEL.only hOk (by simp; omega)))
    have HR5 := Lib.hid (hRL.only hOk (by simp; omega))
    replace Hs5 := Lib.hid hNb.1
    have hzk2 : h2 + 2 ≤ Wk2.heap.size := Nat.le_trans hzL hOk.size
    have HOk2 := Lib.hid (show Only [p, h2 + 1] W8 Wk2 from hOk.mono (by simp))
    clear hnum hNK hrdc hOc hrdk hOk hNb hDL hEL hRL hzL
    have hpX : pD f = manyS (spanS f) T2 K2 := by unfold pD; rw [← HK2.out]
    have hpK : (pKd f).1 = K2 := by rw [← HK2.out]
    have HpX := Lib.hid hpX
    have HpK := Lib.hid hpK
    clear hpX hpK
    go_wp2_with (fail)
    go_loopw [114] (fun vk wr => ∃ k : Nat, vk = .int .i64 (k : Int) ∧ k ≤ K2 ∧ RLoop 70 2 Wk2 wr p (h2 + 1) (.slice A n c) (manyS (spanS f) T2 k).2 k ((manyS (spanS f) T2 k).1.map Prod.fst) (ses ((manyS (spanS f) T2 k).1.map Prod.snd)) (fun x => [q0, q1, q2, q3, x, .int .i64 (S2.at_ : Int), .int .i64 (S3.at_ : Int), .int .i64 (S4.at_ : Int)]) (fun x => [v0, v1, v2, v3, x])) (fun vk _ => K2 - (intOf vk).toNat)
    case atStart => exact ⟨0, rfl, by omega, _, _, Hp5.out, HD5.out.1, ⟨rfl, .inl ⟨rfl, rfl⟩⟩, ⟨rfl, .inl ⟨rfl, rfl⟩⟩, .refl _ _⟩
    case round =>
      obtain ⟨k, rfl, hk, hW⟩ := hrel
      by_cases hlt : k < K2
      · obtain ⟨S, hS⟩ : ∃ S, S = manyS (spanS f) T2 k := ⟨_, rfl⟩
        have hSl : S.1.length = k := by rw [hS, manyS_length]
        have hSa : S.2.at_ ≤ n := by rw [hS, ← Hl.out]; exact (manyS_at _ _ (fun s => spanS_at f s) _ Hs5.out k).1
        have hS1 : manyS (spanS f) T2 (k + 1) = (S.1 ++ [(S.2.at_, (spanS f S.2).1)], (spanS f S.2).2) := by rw [hS]; rfl
        rw [← hS] at hW
        have HS1 := Lib.hid hS1
        clear hS hS1
        obtain ⟨L, s⟩ := S
        obtain ⟨pv, dv, hrd, hD, hop, hod, hO⟩ := hW
        simp only at hSl hSa hrd hop hod hD
        obtain ⟨rv, hb, hv⟩ := hrd
        have c3 : wr.cell? ⟨p, 7, none⟩ = some pv := hb.cell 7
        have c1 : wr.cell? ⟨p, 1, none⟩ = some (.int .i64 (s.at_ : Int)) := hb.cell 1
        have f3 : wr.frozen? ⟨p, 7, none⟩ = false := hb.frozen 7
        have c3a : ∀ o, (wr.alloc o).cell? ⟨p, 7, none⟩ = some pv := fun o => (hb.alloc o).cell 7
        have hpv : ∀ x, pv.ownBlock = some x → x ≠ p ∧ x ≠ h2 + 1 := fun x hx => by have := (own_lt hop hx).1; omega
        have hdv : ∀ x, dv.ownBlock = some x → x ≠ p ∧ x ≠ h2 + 1 := fun x hx => by have := (own_lt hod hx).1; omega
        have hbz : Wk2.heap.size ≤ wr.heap.size := hO.size
        have hpd : p ≠ h2 + 1 ∧ h2 + 1 ≠ p := by omega
        go_upto_region 28 with (fail)
        go_cut [] (fun wx => ∃ pv1, wx.ownsRow Wk2.heap.size 3 1 pv1 (k + 1) (nats (L.map Prod.fst ++ [s.at_])) ∧ Rdr wx p (.slice A n c) s [q0, q1, q2, q3, pv1, .int .i64 (S2.at_ : Int), .int .i64 (S3.at_ : Int), .int .i64 (S4.at_ : Int)] ∧ Blk wx (h2 + 1) 38 [v0, v1, v2, v3, dv] ∧ wx.ownsRow Wk2.heap.size 70 2 dv k (ses (L.map Prod.snd)) ∧ Only [p, h2 + 1] Wk2 wx)
        case first =>
          go_region_law (first
            | (refine step_append_row (v := pv) (by rfl) (.tmp 123) (.tmp 128) 51 (by rfl) Wk2.heap.size 3 (.int .i64 0) 1 8 Tryd.underlying51 intInfo6 rfl (by omega) (n := k) (xs := nats (L.map Prod.fst)) (by rfl)
                 (by first | exact own_only hop ((Only.refl [] wr).alloc _) (by simp) | exact own_only hop (((Only.refl [] wr).alloc _).drew) (by simp) | exact own_only hop (((Only.refl [] wr).drew).alloc _) (by simp)) 1 (by rfl)
                 (by first | exact Rd.whole (Blk.new' _ _ _ rfl rfl) rfl | exact (Rd.whole (Blk.new' _ _ _ rfl rfl) rfl).drew) (by simp [Value.oneCell']) (by simp only [maxLen]; omega) (by omega) (by simp; omega) ?_
               intro pv1 w1 ho1 hO1 hn1
               replace hO1 : Only pv.ownBlock.toList wr w1 := by first | exact ((Only.refl _ wr).alloc _).trans hO1 | exact (((Only.refl _ wr).alloc _).drew).trans hO1 | exact (((Only.refl _ wr).drew).alloc _).trans hO1
               have hb1 := hb.only hO1 (by intro hx; exact (hpv p (by simpa using hx)).1 rfl)
               have d3 : w1.frozen? ⟨p, 7, none⟩ = false := hb1.frozen 7
               have d4 : w1.cell? ⟨p, 7, none⟩ = some pv := hb1.cell 7
               obtain ⟨A1, c1', rfl, -⟩ := own_slice ho1))
          all_goals
            go_wp2
            go_meet
            case rel =>
              have hT : ∀ u, Only (p :: pv.ownBlock.toList) wr (w1.setCell ⟨p, 7, none⟩ u) := fun u => (hO1.mono (fun x hx => .inl (List.mem_cons_of_mem _ hx))).setCell (.inl (by simp)) _
              refine ⟨.slice A1 (k + 1) c1', ?_, ?_, ?_, ?_, ?_⟩
              · have := own_only ho1 ((Only.refl [p] w1).setCell (p := ⟨p, 7, none⟩) (.inl (by simp)) (.slice A1 (k + 1) c1')) (by intro x hx; have := (own_lt ho1 hx).1; simp; omega)
                rw [nats_snoc]
                exact this
              · exact (Rdr.row ⟨rv, hb, hv⟩ hop (by decide) hO1).put 4 _
              · exact hD.only (hT _) (by intro hx; simp at hx; exact hx.elim (by omega) (fun e => (hpv _ e).2 rfl))
              · exact own_only hod (hT _) (by
                  intro x hx hxx; simp at hxx
                  rcases hxx with e | e
                  · exact (hdv x hx).1 e
                  · exact own_apart hod hop (by decide) hx e)
              · exact hO.trans' (hT _) (by
                  intro x hx; simp at hx
                  rcases hx with rfl | e
                  · exact .inl (by simp)
                  · exact .inr (own_lt hop e).1)
        case rest =>
          obtain ⟨pv1, hop1, hrd1, hD1, hod1, hOx⟩ := hcut
          clear hop hod hb hv hD c3 c1 f3 c3a hpv hdv hbz hO
          have hbz : Wk2.heap.size ≤ wc.heap.size := hOx.size
          have hdv : ∀ x, dv.ownBlock = some x → x ≠ p ∧ x ≠ h2 + 1 := fun x hx => by have := (own_lt hod1 hx).1; omega
          have hpv : ∀ x, pv1.ownBlock = some x → x ≠ p ∧ x ≠ h2 + 1 := fun x hx => by have := (own_lt hop1 hx).1; omega
          have c0 : wc.cell? ⟨h2 + 1, 4, none⟩ = some dv := hD1.cell 4
          have GN := fun W (s' : RS) (h : Only [p] wc W) (hs' : s'.at_ ≤ n) (hr : Rdr W p (.slice A n c) s' [q0, q1, q2, q3, pv1, .int .i64 (S2.at_ : Int), .int .i64 (S3.at_ : Int), .int .i64 (S4.at_ : Int)]) => number_any W p B A n c f Hl.out ((HR5.out.only hOx (by simp; omega)).only h (by simp; omega)) hBp hn hnc s' hs' q0 q1 q2 q3 pv1 (.int .i64 (S2.at_ : Int)) (.int .i64 (S3.at_ : Int)) (.int .i64 (S4.at_ : Int)) 1114111 14 (by omega) hr
          obtain ⟨⟨x1, t1⟩, hX1⟩ : ∃ z, z = numS f 1114111 14 s := ⟨_, rfl⟩
          have ha1 : t1.at_ ≤ n ∧ x1 ≤ 1114111 := by have := numS_at f 1114111 14 s (by rw [Hl.out]; omega); rw [← hX1, Hl.out] at this; exact this
          have G1 := Lib.hid (fun W (h : Only [] wc W) => GN W s (h.mono (by simp)) hSa (hrd1.only h (by simp) (by simp)))
          rw [← hX1] at G1
          obtain ⟨⟨x2, t2⟩, hX2⟩ : ∃ z, z = numS f 1114111 14 t1 := ⟨_, rfl⟩
          have ha2 : t2.at_ ≤ n ∧ x2 ≤ 1114111 := by have := numS_at f 1114111 14 t1 (by rw [Hl.out]; omega); rw [← hX2, Hl.out] at this; exact this
          have G2 := Lib.hid (fun W (h : Only [p] wc W) (hr : Rdr W p (.slice A n c) t1 [q0, q1, q2, q3, pv1, .int .i64 (S2.at_ : Int), .int .i64 (S3.at_ : Int), .int .i64 (S4.at_ : Int)]) => GN W t1 h ha1.1 hr)
          rw [← hX2] at G2
          have HWW := Lib.hid (show ((((x1 : Int), (x2 : Int)) : Sp), t2) = spanS f s by unfold spanS; rw [← hX1]; simp only; rw [← hX2])
          have hw1 : IntKind.i32.wrap ((x1 : Nat) : Int) = (x1 : Int) := IntWalk.i32_in _ (by omega)
          have hw2 : IntKind.i32.wrap ((x2 : Nat) : Int) = (x2 : Int) := IntWalk.i32_in _ (by omega)
          clear GN hrd1 hX1 hX2
          go_upto_region 29 with (fail)
          go_region_law (first
            | (have hod2 := own_only hod1 hO2 (by intro x hx; simp; exact (hdv x hx).1)
               have hop2 := own_only hop1 hO2 (by intro x hx; simp; exact (hpv x hx).1)
               have hb1 := hO2.size
               refine step_append_row (v := dv) (by rfl) (.tmp 136) (.tmp 144) 36 (by rfl) Wk2.heap.size 70 (.agg #[.int .i32 0, .int .i32 0]) 2 8 Tryd.underlying36 spInfo6 rfl (by omega) (n := k) (xs := ses (L.map Prod.snd)) (by rfl)
                 (by first | exact own_only hod2 ((Only.refl [] w2).alloc _) (by simp) | exact own_only hod2 (((Only.refl [] w2).alloc _).drew) (by simp) | exact own_only hod2 (((Only.refl [] w2).drew).alloc _) (by simp)) 1 (by rfl)
                 (by first | exact Rd.whole (Blk.new' _ _ _ rfl rfl) rfl | exact (Rd.whole (Blk.new' _ _ _ rfl rfl) rfl).drew) (by simp [Value.oneCell']) (by simp only [maxLen]; omega) (by omega) (by simp; omega) ?_
               intro dv1 wz ho2 hOz hn2
               replace hOz : Only dv.ownBlock.toList w2 wz := by first | exact ((Only.refl _ w2).alloc _).trans hOz | exact (((Only.refl _ w2).alloc _).drew).trans hOz | exact (((Only.refl _ w2).drew).alloc _).trans hOz
               have hD3 := (hD1.only hO2 (by simp; omega)).only hOz (by intro hx; exact (hdv (h2 + 1) (by simpa using hx)).2 rfl)
               have d3 : wz.frozen? ⟨h2 + 1, 4, none⟩ = false := hD3.frozen 4
               have d4 : wz.cell? ⟨h2 + 1, 4, none⟩ = some dv := hD3.cell 4
               obtain ⟨A2, c2', rfl, -⟩ := own_slice ho2)
            | (go_simp
               go_at_call 33
               first
               | (refine (G1.out _ ?_).mono ?_
                  exact (by first | exact Only.refl [] wc | exact (Only.refl [] wc).drew)
                  rintro e w1 ⟨rfl, hr1, hO1⟩
                  replace hO1 : Only [p] wc w1 := by first | exact hO1 | exact hO1.ofDrew
                  have hD2 := hD1.only hO1 (by simp; omega)
                  have d0 : w1.cell? ⟨h2 + 1, 4, none⟩ = some dv := hD2.cell 4
                  have d0a : ∀ o, (w1.alloc o).cell? ⟨h2 + 1, 4, none⟩ = some dv := fun o => (hD2.alloc o).cell 4
                  clear G1)
               | (refine (G2.out _ hO1 hr1).mono ?_
                  rintro e w2 ⟨rfl, hr2, hO2⟩
                  replace hO2 := hO1.trans hO2
                  have hD2 := hD1.only hO2 (by simp; omega)
                  have d0 : w2.cell? ⟨h2 + 1, 4, none⟩ = some dv := hD2.cell 4
                  have d0a : ∀ o, (w2.alloc o).cell? ⟨h2 + 1, 4, none⟩ = some dv := fun o => (hD2.alloc o).cell 4
                  clear G2)))
          all_goals
            go_wp2
            go_roundw
            case rel =>
              have hT : ∀ u, Only ((h2 + 1) :: dv.ownBlock.toList) w2 (wz.setCell ⟨h2 + 1, 4, none⟩ u) := fun u => (hOz.mono (fun x hx => .inl (List.mem_cons_of_mem _ hx))).setCell (.inl (by simp)) _
              refine ⟨k + 1, by go_num, by omega, ?_⟩
              rw [HS1.out, ← HWW.out]
              refine ⟨pv1, .slice A2 (k + 1) c2', ?_, ?_, ?_, ?_, ?_⟩
              · exact (Rdr.row hr2 hod2 (by decide) hOz).far hD3 (by decide) _
              · exact hD3.set 4 _
              · have := own_only hop2 (hT (.slice A2 (k + 1) c2')) (by
                  intro x hx hxx; simp at hxx
                  rcases hxx with e | e
                  · exact (hpv x hx).2 e
                  · exact own_apart hop2 hod2 (by decide) hx e)
                simpa using this
              · have := own_only ho2 ((Only.refl [h2 + 1] wz).setCell (p := ⟨h2 + 1, 4, none⟩) (.inl (by simp)) (.slice A2 (k + 1) c2')) (by intro x hx; have := (own_lt ho2 hx).1; simp; omega)
                simpa [ses, spv] using this
              · exact (hOx.trans' hO2 (by simp)).trans' (hT _) (by
                  intro x hx; simp at hx
                  rcases hx with rfl | e
                  · exact .inl (by simp)
                  · exact .inr (own_lt hod2 e).1)
            case measure => simp [intOf]; omega
      · obtain rfl : k = K2 := by omega
        go_wp2_with (fail)
        go_meet
        case rel => exact ⟨_, hzk2, HOk2.out, by rw [HpX.out, HpK.out]; exact hW⟩
  case rest =>
  obtain ⟨Wk, hzk, hOk, q4, v4, hrd6, hD6, hq6, hv6, hO6⟩ := hcut
  obtain ⟨W9, rfl⟩ : ∃ z : World, z = wc := ⟨_, rfl⟩
  replace hO6 := hOk.trans hO6
  obtain ⟨S5, hS6⟩ : ∃ z, z = (pD f).2 := ⟨_, rfl⟩
  rw [← hS6] at hrd6
  simp only at hrd6 hD6
  clear hrdL hDL
  have hrdL := hrd6
  have hDL := hD6
  replace hEL := hEL.only hO6 (by simp; omega)
  replace hRL := hRL.only hO6 (by simp; omega)
  have hzL : h2 + 2 ≤ W9.heap.size := Nat.le_trans hzL hO6.size
  have Hs6 := Lib.hid (show S5.at_ ≤ f.length by rw [hS6]; exact (pD_at f H4.out).1)
  have HS5e := Lib.hid hS6
  have Hq4 := Lib.hid hq6
  have Hv4 := Lib.hid hv6
  have HOb2 := Lib.hid hO6
  have Hzk2 := Lib.hid hzk
  clear hS6 hrd6 hD6 hq6 hv6 hO6 hOk hzk
  go_wp2_with (fail)
  obtain ⟨B0, y0, rfl, -⟩ := own_slice Hv0.out
  obtain ⟨B1, y1, rfl, -⟩ := own_slice Hv1.out
  obtain ⟨B2, y2, rfl, -⟩ := own_slice Hv2.out
  obtain ⟨B3, y3, rfl, -⟩ := own_slice Hv3.out
  obtain ⟨B4, y4, rfl, -⟩ := own_slice Hv4.out
  have d0 : W9.cell? ⟨h2 + 1, 0, none⟩ = some _ := hDL.cell 0
  have d1 : W9.cell? ⟨h2 + 1, 1, none⟩ = some _ := hDL.cell 1
  have d2 : W9.cell? ⟨h2 + 1, 2, none⟩ = some _ := hDL.cell 2
  have d3 : W9.cell? ⟨h2 + 1, 3, none⟩ = some _ := hDL.cell 3
  have d4 : W9.cell? ⟨h2 + 1, 4, none⟩ = some _ := hDL.cell 4
  have e0 : W9.cell? ⟨h2, 0, none⟩ = some _ := hEL.cell 0
  have e1 : W9.cell? ⟨h2, 1, none⟩ = some _ := hEL.cell 1
  have e2 : W9.cell? ⟨h2, 2, none⟩ = some _ := hEL.cell 2
  have e3 : W9.cell? ⟨h2, 3, none⟩ = some _ := hEL.cell 3
  have e4 : W9.cell? ⟨h2, 4, none⟩ = some _ := hEL.cell 4
  have z0 := hEL.frozen 0
  have z1 := hEL.frozen 1
  have z2 := hEL.frozen 2
  have z3 := hEL.frozen 3
  have z4 := hEL.frozen 4
  have HrdL := Lib.hid hrdL
  have HE := Lib.hid hEL
  have hNw := HNN.out
  have HNw := Lib.hid (show N = (pN f).1 by rw [← hNw])
  clear hrdL hDL hEL hRL hNw ix0 ix1 ix2
  rw [rounds_succ]
  go_wp2_with (fail)
  (try simp only [Exit.inBlock, Exit.then])
  have hb9 := ((((HE.out.set 0 (.slice B0 N y0)).set 1 (.slice B1 N y1)).set 2 (.slice B2 (pKa f).1 y2)).set 3 (.slice B3 (pKb f).1 y3)).set 4 (.slice B4 (pKd f).1 y4)
  obtain ⟨WE, hWE⟩ : ∃ z, z = ((((W9.setCell ⟨h2, 0, none⟩ (.slice B0 N y0)).setCell ⟨h2, 1, none⟩ (.slice B1 N y1)).setCell ⟨h2, 2, none⟩ (.slice B2 (pKa f).1 y2)).setCell ⟨h2, 3, none⟩ (.slice B3 (pKb f).1 y3)).setCell ⟨h2, 4, none⟩ (.slice B4 (pKd f).1 y4) := ⟨_, rfl⟩
  have hO9 : Only [h2] W9 WE := by
    rw [hWE]; exact (((((Only.refl [h2] W9).setCell (.inl (by simp)) _).setCell (.inl (by simp)) _).setCell (.inl (by simp)) _).setCell (.inl (by simp)) _).setCell (.inl (by simp)) _
  rw [← hWE] at hb9 ⊢
  have t9 : Only [p, h2 + 1, h2] W9 WE := hO9.mono (by simp)
  have t8 : Only [p, h2 + 1, h2] W8 WE := ((HOb2.out).mono (by simp)).trans t9
  have t7 : Only [p, h2 + 1, h2] W7 WE := ((HOb1.out).mono (by simp)).trans t8
  have t6 : Only [p, h2 + 1, h2] W6 WE := ((HOb0.out).mono (by simp)).trans t7
  have t5 : Only [p, h2 + 1, h2] W5 WE := ((HO6.out).mono (by simp)).trans t6
  have t4 : Only [p, h2 + 1, h2] W4 WE := ((HO5.out).mono (by simp)).trans t5
  have t3 : Only [p, h2 + 1, h2] W3 WE := ((HO4.out).mono (by simp)).trans t4
  have hws : w.heap.size ≤ h2 := by rw [Hh.out]; omega
  have hfar : ∀ {b : Nat} {W V : World} {te : TypeId} {sz m : Nat} {v : Value} {cs : List Value}, h2 + 2 ≤ b → Only [p, h2 + 1, h2] W V → W.ownsRow b te sz v m cs → V.ownsRow b te sz v m cs := by
    intro b W V te sz m v cs hb hO h
    exact own_only h hO (fun x hx => by have := (own_lt h hx).1; simp; omega)
  have hrd : ∀ {b : Nat} {te : TypeId} {sz m m' : Nat} {v : Value} {cs : List Value}, WE.ownsRow b te sz v m cs → w.heap.size ≤ b → m = m' → WE.ownsRow w.heap.size te sz v m' cs := by
    intro b te sz m m' v cs h hb e; subst e; exact own_base h hb
  have lw : N = (pWs f).length := by unfold pWs; rw [List.length_map, HNw.out]; exact (manyS_length _ _ _).symm
  have lm : N = (pMs f).length := by unfold pMs; rw [List.length_map, HNw.out]; exact (manyS_length _ _ _).symm
  have la : (pKa f).1 = (pAs f).length := by unfold pAs; rw [List.length_map]; exact (manyS_length _ _ _).symm
  have lb : (pKb f).1 = (pBs f).length := by unfold pBs; rw [List.length_map]; exact (manyS_length _ _ _).symm
  have ld : (pKd f).1 = (pDs f).length := by unfold pDs; rw [List.length_map]; exact (manyS_length _ _ _).symm
  refine bodyPost_ret (v := .agg #[.slice B0 N y0, .slice B1 N y1, .slice B2 (pKa f).1 y2, .slice B3 (pKb f).1 y3, .slice B4 (pKd f).1 y4]) ?_ rfl ⟨?_, .inr ⟨Hmb.out, _, _, _, _, _, q0, q1, q2, q3, q4, rfl, ?_, ?_, ?_, ?_, ?_, ?_, ?_⟩⟩
  · rw [results_cellD rfl]
    exact load5 hb9
  · exact HO3.out.trans' t3 (by
      intro x hx; simp at hx
      rcases hx with rfl | rfl | rfl
      · exact .inl (by simp)
      · exact .inr (by omega)
      · exact .inr (by omega))
  · have h9 := HrdL.out.only hO9 (by simp; omega) (by
      intro x hx cs hbx; simp at hx; subst hx
      exact absurd rfl (HE.out.ne hbx (by decide)))
    rw [HS2e.out, HS3e.out, HS4e.out, HS5e.out] at h9
    exact h9
  · exact ⟨hrd (hfar hz3 t4 Hv0.out) (by omega) lw, hrd (hfar hz4 t5 Hv1.out) (by omega) lm, hrd (hfar Hzk0.out t7 Hv2.out) (by have := Hzk0.out; omega) la, hrd (hfar Hzk1.out t8 Hv3.out) (by have := Hzk1.out; omega) lb, hrd (hfar Hzk2.out t9 Hv4.out) (by have := Hzk2.out; omega) ld⟩
  · exact RowN.of_own (hfar hz3 t4 Hq0.out)
  · exact RowN.of_own (hfar hz4 t5 Hq1.out)
  · exact RowN.of_own (hfar Hzk0.out t7 Hq2.out)
  · exact RowN.of_own (hfar Hzk1.out t8 Hq3.out)
  · exact RowN.of_own (hfar Hzk2.out t9 Hq4.out)
end Go.Proofs.YtgohinklnglgeaaDoor

set_option linter.unusedVariables false
set_option linter.unusedSimpArgs false
namespace Go.Proofs.YtgohinklnglgeaaDoor
open Go.RowKit

set_option maxRecDepth 100000 in
set_option maxHeartbeats 8000000 in
theorem check5_any (w : World) (v0 v1 v2 v3 v4 : Value) (ws : List ByteArray) (ms : List Mg) (a b d : List Sp) (hR : Rd5 w v0 v1 v2 v3 v4 ws ms a b d) (s0 : ws.length ≤ 17592186043904) (s1 : ms.length ≤ 17592186043904) (s2 : a.length ≤ 17592186043904) (s3 : b.length ≤ 17592186043904) (s4 : d.length ≤ 17592186043904)
    (hws : ∀ s ∈ ws, s.size ≤ maxLen) (hms : ∀ m ∈ ms, m.ok) :
    Calls Tryd.prog 42 #[.agg #[v0, v1, v2, v3, v4]] w fun e w' => e = .returned (faultV (faultW ws ms a b d)) ∧ Only [] w w' := by
  obtain ⟨T, hT⟩ : ∃ T, T = faultW ws ms a b d := ⟨_, rfl⟩
  rw [← hT]
  unfold faultW at hT
  obtain ⟨h, hh⟩ : ∃ h, h = w.heap.size := ⟨_, rfl⟩
  obtain ⟨W1, hW1⟩ : ∃ W1, W1 = (w.alloc (.cells #[v0, v1, v2, v3, v4] 38)).alloc (.cells #[.int .i64 0, .int .i64 0, .int .i64 0] 94) := ⟨_, rfl⟩
  have hb : Blk W1 h 38 [v0, v1, v2, v3, v4] := by rw [hW1]; exact (Blk.new' _ _ _ hh.symm rfl).alloc _
  have hb2 : Blk W1 (h + 1) 94 [.int .i64 0, .int .i64 0, .int .i64 0] := by rw [hW1]; exact Blk.new' _ _ _ (by simp; omega) rfl
  have hO : Only [] w W1 := by rw [hW1]; exact ((Only.refl _ _).alloc _).alloc _
  have hwh : w.heap.size ≤ h := by omega
  have hz1 : W1.heap.size = h + 2 := by rw [hW1]; simp; omega
  have hR1 := hR.only hO
  have HR5 := Lib.hid hR1
  obtain ⟨⟨A, c, rfl, -, -⟩, ⟨A1, c1, rfl, -, -⟩, ⟨A2, c2, rfl, -, r2⟩, ⟨A3, c3, rfl, -, r3⟩, ⟨A4, c4, rfl, -, r4⟩⟩ := hR1
  obtain ⟨n, hn⟩ : ∃ n, n = ws.length := ⟨_, rfl⟩
  obtain ⟨nm, hnm⟩ : ∃ n, n = ms.length := ⟨_, rfl⟩
  rw [← hn] at s0
  rw [← hnm] at s1
  have HT := Lib.hid hT
  have Hn := Lib.hid hn
  have Hnm := Lib.hid hnm
  have R2 := Lib.hid r2
  have R3 := Lib.hid r3
  have R4 := Lib.hid r4
  have Hh := Lib.hid hh
  have HW := Lib.hid hW1
  have Hb2 := Lib.hid hb2
  have Hws := Lib.hid hws
  have Hms := Lib.hid hms
  have kS : ∀ W, Only [] W1 W → (W.cell? ⟨h, 0, none⟩ = some (.slice A n c) ∧ W.cell? ⟨h, 1, none⟩ = some (.slice A1 nm c1) ∧ W.cell? ⟨h, 2, none⟩ = some (.slice A2 a.length c2) ∧ W.cell? ⟨h, 3, none⟩ = some (.slice A3 b.length c3) ∧ W.cell? ⟨h, 4, none⟩ = some (.slice A4 d.length c4)) := by
    intro W hw
    rw [hn, hnm]
    have k := hb.only hw (by simp)
    exact ⟨k.cell 0, k.cell 1, k.cell 2, k.cell 3, k.cell 4⟩
  have KS := Lib.hid kS
  have kQ : ∀ W, Only [] W1 W → (W.cell? ⟨h + 1, 0, none⟩ = some (.int .i64 0) ∧ W.cell? ⟨h + 1, 1, none⟩ = some (.int .i64 0) ∧ W.cell? ⟨h + 1, 2, none⟩ = some (.int .i64 0) ∧ W.frozen? ⟨h + 1, 0, none⟩ = false ∧ W.frozen? ⟨h + 1, 1, none⟩ = false ∧ W.frozen? ⟨h + 1, 2, none⟩ = false) := by
    intro W hw
    have k := hb2.only hw (by simp)
    exact ⟨k.cell 0, k.cell 1, k.cell 2, k.frozen 0, k.frozen 1, k.frozen 2⟩
  have KQ := Lib.hid kQ
  /- how it is left -/
  have hout : ∀ (W : World) (x y z : Nat), Only [] W1 W → T = (x, y, z) → Only [] w (((W.setCell ⟨h + 1, 0, none⟩ (.int .i64 (x : Int))).setCell ⟨h + 1, 1, none⟩ (.int .i64 (y : Int))).setCell ⟨h + 1, 2, none⟩ (.int .i64 (z : Int))) ∧
      Blk (((W.setCell ⟨h + 1, 0, none⟩ (.int .i64 (x : Int))).setCell ⟨h + 1, 1, none⟩ (.int .i64 (y : Int))).setCell ⟨h + 1, 2, none⟩ (.int .i64 (z : Int))) (h + 1) 94 [.int .i64 (T.1 : Int), .int .i64 (T.2.1 : Int), .int .i64 (T.2.2 : Int)] := by
    intro W x y z hw hTx
    have hg : w.heap.size ≤ h + 1 := by omega
    refine ⟨(((hO.trans hw).setCell (p := ⟨h + 1, 0, none⟩) (.inr hg) _).setCell (p := ⟨h + 1, 1, none⟩) (.inr hg) _).setCell (p := ⟨h + 1, 2, none⟩) (.inr hg) _, ?_⟩
    rw [hTx]
    exact (((hb2.only hw (by simp)).set 0 _).set 1 _).set 2 _
  have Hout := Lib.hid hout
  clear hT hh hW1 hn hnm hb hb2 hR hws hms hout r2 r3 r4 kS kQ
  obtain ⟨k0, k1, k2, k3, k4⟩ := KS.out W1 (.refl _ _)
  obtain ⟨q0, q1, q2, z0, z1, z2⟩ := KQ.out W1 (.refl _ _)
  go_enter Tryd.func42, Tryd.ntmps42
  go_upto_region 1 with (fail)
  rw [← Hh.out, ← HW.out]
  by_cases h1 : 4096 < nm
  · have hT2 : T = (4, 5, 4096) := by rw [HT.out, ← Hnm.out, if_pos h1]
    obtain ⟨hOn, hbn⟩ := Hout.out W1 4 5 4096 (.refl _ _) hT2
    have Hbn := Lib.hid hbn
    have h1' : (4096 : Int) < (nm : Int) := by omega
    clear hT2 hbn h1
    go_wp2_with (fail)
    (try simp only [Exit.inBlock, Exit.then])
    refine bodyPost_ret (v := faultV T) ?_ rfl ⟨rfl, hOn⟩
    rw [results_cellD rfl]
    exact loadF5 Hbn.out
  · have h1' : ¬ (4096 : Int) < (nm : Int) := by omega
    by_cases h2 : n = nm
    · have hT1 : T = if (checkW a b d).1 ≠ 0 then checkW a b d else if (wordsAt [] 0 ws).2 ≠ 0 then ((wordsAt [] 0 ws).2, 4, (wordsAt [] 0 ws).1) else if (pairsAt ws [] 0 ms).2 ≠ 0 then ((pairsAt ws [] 0 ms).2, 5, (pairsAt ws [] 0 ms).1) else (0, 0, 0) := by
        rw [HT.out, ← Hnm.out, ← Hn.out, if_neg h1, if_neg (by omega)]
      have h2' : ((n : Int) != (nm : Int)) = false := by simp; omega
      have HT1 := Lib.hid hT1
      have H2 := Lib.hid h2
      clear hT1 h1 h2
      go_wp2_with (fail)
      refine (refCheck_any W1 A2 A3 A4 a.length b.length d.length c2 c3 c4 a b d rfl rfl rfl s2 s3 s4 _ R2.out R3.out R4.out).mono ?_
      rintro e W2 ⟨rfl, hO2⟩
      obtain ⟨X, hX⟩ : ∃ X, X = checkW a b d := ⟨_, rfl⟩
      rw [← hX]
      have HX := Lib.hid hX
      clear hX
      obtain ⟨x, y, z⟩ := X
      simp only
      obtain ⟨g, hg⟩ : ∃ g, g = W2.heap.size := ⟨_, rfl⟩
      obtain ⟨W3, hW3⟩ : ∃ W3, W3 = W2.alloc (.cells #[.int .i64 (x : Int), .int .i64 (y : Int), .int .i64 (z : Int)] 129) := ⟨_, rfl⟩
      have bx : Blk W3 g 129 [.int .i64 (x : Int), .int .i64 (y : Int), .int .i64 (z : Int)] := by rw [hW3]; exact Blk.new' _ _ _ hg.symm rfl
      have hO13 : Only [] W1 W3 := by rw [hW3]; exact hO2.alloc _
      have x0 : W3.cell? ⟨g, 0, none⟩ = some (.int .i64 (x : Int)) := bx.cell 0
      have x1 : W3.cell? ⟨g, 1, none⟩ = some (.int .i64 (y : Int)) := bx.cell 1
      have x2 : W3.cell? ⟨g, 2, none⟩ = some (.int .i64 (z : Int)) := bx.cell 2
      have HW3 := Lib.hid hW3
      have Hg := Lib.hid hg
      clear k0 k1 k2 k3 k4 q0 q1 q2 z0 z1 z2 bx hW3 hg
      go_upto_region 9 with (fail)
      rw [← Hg.out, ← HW3.out]
      obtain ⟨k0, k1, k2, k3, k4⟩ := KS.out W3 hO13
      obtain ⟨q0, q1, q2, z0, z1, z2⟩ := KQ.out W3 hO13
      by_cases hx0 : x = 0
      · subst hx0
        have hT3 : T = if (wordsAt [] 0 ws).2 ≠ 0 then ((wordsAt [] 0 ws).2, 4, (wordsAt [] 0 ws).1) else if (pairsAt ws [] 0 ms).2 ≠ 0 then ((pairsAt ws [] 0 ms).2, 5, (pairsAt ws [] 0 ms).1) else (0, 0, 0) := by
          rw [HT1.out, ← HX.out, if_neg (by simp)]
        have HT3 := Lib.hid hT3
        have hwd := words5_any W3 _ _ _ _ _ ws ms a b d (HR5.out.only hO13) (by rw [← Hn.out]; exact s0) Hws.out
        rw [← Hn.out, ← Hnm.out] at hwd
        have Hwd := Lib.hid hwd
        clear hT3 hwd
        go_wp2_with (fail)
        refine Hwd.out.mono ?_
        rintro e W4 ⟨rfl, hO4⟩
        have hO14 := hO13.trans hO4
        obtain ⟨F, hF⟩ : ∃ F, F = wordsF ws := ⟨_, rfl⟩
        rw [← hF]
        have HF := Lib.hid hF
        unfold faultV
        obtain ⟨f1, f2, f3⟩ := F
        simp only
        obtain ⟨g5, hg5⟩ : ∃ g, g = W4.heap.size := ⟨_, rfl⟩
        obtain ⟨W5, hW5⟩ : ∃ W5, W5 = W4.alloc (.cells #[.int .i64 (f1 : Int), .int .i64 (f2 : Int), .int .i64 (f3 : Int)] 94) := ⟨_, rfl⟩
        have b5 : Blk W5 g5 94 [.int .i64 (f1 : Int), .int .i64 (f2 : Int), .int .i64 (f3 : Int)] := by rw [hW5]; exact Blk.new' _ _ _ hg5.symm rfl
        have hO15 : Only [] W1 W5 := by rw [hW5]; exact hO14.alloc _
        have y0 : W5.cell? ⟨g5, 0, none⟩ = some (.int .i64 (f1 : Int)) := b5.cell 0
        have y1 : W5.cell? ⟨g5, 1, none⟩ = some (.int .i64 (f2 : Int)) := b5.cell 1
        have y2 : W5.cell? ⟨g5, 2, none⟩ = some (.int .i64 (f3 : Int)) := b5.cell 2
        have HW5 := Lib.hid hW5
        have Hg5 := Lib.hid hg5
        clear k0 k1 k2 k3 k4 q0 q1 q2 z0 z1 z2 x0 x1 x2 hF b5 hW5 hg5
        go_upto_region 12 with (fail)
        rw [← Hg5.out, ← HW5.out]
        obtain ⟨k0, k1, k2, k3, k4⟩ := KS.out W5 hO15
        obtain ⟨q0, q1, q2, z0, z1, z2⟩ := KQ.out W5 hO15
        have hF1 := HF.out
        unfold wordsF at hF1
        by_cases hw0 : (wordsAt [] 0 ws).2 = 0
        · rw [if_neg (by simpa using hw0)] at hF1
          obtain ⟨rfl, rfl, rfl⟩ : f1 = 0 ∧ f2 = 0 ∧ f3 = 0 := by simpa using hF1
          have hT4 : T = mergesF ws ms := by rw [HT3.out, if_neg (by simpa using hw0)]; rfl
          have hmg := merges5_any W5 _ _ _ _ _ ws ms a b d (HR5.out.only hO15) (by rw [← Hn.out]; exact s0) (by rw [← Hnm.out]; exact s1) (fun s hs => (words_small ws [] 0 hw0 s hs).2) Hms.out
          rw [← Hn.out, ← Hnm.out, ← hT4] at hmg
          have Hmg := Lib.hid hmg
          clear hF1 hw0 hT4 hmg
          go_wp2_with (fail)
          refine Hmg.out.mono ?_
          rintro e W6 ⟨rfl, hO6⟩
          have hO16 := hO15.trans hO6
          obtain ⟨q0, q1, q2, z0, z1, z2⟩ := KQ.out W6 hO16
          obtain ⟨t1, t2, t3⟩ := T
          unfold faultV
          obtain ⟨hOn, hbn⟩ := Hout.out W6 t1 t2 t3 hO16 rfl
          have Hbn := Lib.hid hbn
          clear hbn k0 k1 k2 k3 k4 y0 y1 y2
          simp only
          go_wp2_with (fail)
          (try simp only [Exit.inBlock, Exit.then])
          refine bodyPost_ret (v := faultV (t1, t2, t3)) ?_ rfl ⟨rfl, hOn⟩
          rw [results_cellD rfl]
          exact loadF5 Hbn.out
        · rw [if_pos hw0] at hF1
          have hT4 : T = (f1, f2, f3) := by rw [HT3.out, if_pos hw0, hF1]
          have hf1 : ((f1 : Int) != 0) = true := by simp at hF1 ⊢; omega
          obtain ⟨hOn, hbn⟩ := Hout.out W5 f1 f2 f3 hO15 hT4
          have Hbn := Lib.hid hbn
          clear hF1 hw0 hT4 hbn
          go_wp2_with (fail)
          (try simp only [Exit.inBlock, Exit.then])
          refine bodyPost_ret (v := faultV T) ?_ rfl ⟨rfl, hOn⟩
          rw [results_cellD rfl]
          exact loadF5 Hbn.out
      · have hT2 : T = (x, y, z) := by rw [HT1.out, ← HX.out, if_pos hx0]
        have hx1 : ((x : Int) != 0) = true := by simp; omega
        obtain ⟨hOn, hbn⟩ := Hout.out W3 x y z hO13 hT2
        have Hbn := Lib.hid hbn
        clear hT2 hbn hx0
        go_wp2_with (fail)
        (try simp only [Exit.inBlock, Exit.then])
        refine bodyPost_ret (v := faultV T) ?_ rfl ⟨rfl, hOn⟩
        rw [results_cellD rfl]
        exact loadF5 Hbn.out
    · have h2' : ((n : Int) != (nm : Int)) = true := by simp; omega
      have hT2 : T = (4, 4, min n nm) := by rw [HT.out, ← Hnm.out, ← Hn.out, if_neg h1, if_pos h2]
      by_cases h3 : nm < n
      · rw [Nat.min_eq_right (by omega)] at hT2
        obtain ⟨hOn, hbn⟩ := Hout.out W1 4 4 nm (.refl _ _) hT2
        have Hbn := Lib.hid hbn
        clear hT2 hbn h1 h2
        go_wp2_with (fail)
        (try simp only [Exit.inBlock, Exit.then])
        refine bodyPost_ret (v := faultV T) ?_ rfl ⟨rfl, hOn⟩
        rw [results_cellD rfl]
        exact loadF5 Hbn.out
      · rw [Nat.min_eq_left (by omega)] at hT2
        obtain ⟨hOn, hbn⟩ := Hout.out W1 4 4 n (.refl _ _) hT2
        have Hbn := Lib.hid hbn
        clear hT2 hbn h1 h2
        go_wp2_with (fail)
        (try simp only [Exit.inBlock, Exit.then])
        refine bodyPost_ret (v := faultV T) ?_ rfl ⟨rfl, hOn⟩
        rw [results_cellD rfl]
        exact loadF5 Hbn.out
end Go.Proofs.YtgohinklnglgeaaDoor

set_option linter.unusedVariables false
set_option linter.unusedSimpArgs false
namespace Go.Proofs.YtgohinklnglgeaaDoor
open Go.RowKit

theorem bool_and (a b : Bool) : (Value.bool (a && b)) = Value.bool (a && b) := rfl
section
variable (w : World) (v0 v1 v2 v3 v4 : Value) (ws : List ByteArray) (ms : List Mg) (a b d : List Sp) (hR : Rd5 w v0 v1 v2 v3 v4 ws ms a b d)
include hR
set_option maxRecDepth 100000 in
set_option maxHeartbeats 4000000 in
theorem large_any (s1 : ms.length ≤ 17592186043904) :
    Calls Tryd.prog 41 #[.agg #[v0, v1, v2, v3, v4]] w fun e w' => e = .returned (.bool (decide (300 < ms.length ∧ ms.length ≤ 4096))) ∧ Only [] w w' := by
  obtain ⟨h, hh⟩ : ∃ h, h = w.heap.size := ⟨_, rfl⟩
  obtain ⟨W1, hW1⟩ : ∃ W1, W1 = w.alloc (.cells #[v0, v1, v2, v3, v4] 38) := ⟨_, rfl⟩
  have hb : Blk W1 h 38 [v0, v1, v2, v3, v4] := by rw [hW1]; exact Blk.new' _ _ _ hh.symm rfl
  have hO : Only [] w W1 := by rw [hW1]; exact (Only.refl _ _).alloc _
  obtain ⟨-, ⟨A, c, rfl, -, -⟩, -⟩ := hR
  obtain ⟨n, hn⟩ : ∃ n, n = ms.length := ⟨_, rfl⟩
  have c1 : W1.cell? ⟨h, 1, none⟩ = some (.slice A n c) := by rw [hn]; exact hb.cell 1
  obtain ⟨T, hT⟩ : ∃ T, T = decide (300 < ms.length ∧ ms.length ≤ 4096) := ⟨_, rfl⟩
  rw [← hT]
  rw [← hn] at hT s1
  have HT := Lib.hid hT
  have Hn := Lib.hid hn
  have Hh := Lib.hid hh
  have HW := Lib.hid hW1
  clear hb hT hh hW1 hn
  go_enter Tryd.func41, Tryd.ntmps41
  go_upto_region 1 with (fail)
  rw [← Hh.out, ← HW.out]
  by_cases h1 : 300 < n
  · have h1' : (300 : Int) < (n : Int) := by omega
    by_cases h2 : n ≤ 4096
    · have h2' : (n : Int) ≤ (4096 : Int) := by omega
      have e1 : T = true := by rw [HT.out]; exact decide_eq_true ⟨h1, h2⟩
      subst e1
      clear h1 h2
      go_wp2_with (fail)
      go_ret
      exact ⟨rfl, hO⟩
    · have h2' : ¬ (n : Int) ≤ (4096 : Int) := by omega
      have e1 : T = false := by rw [HT.out]; exact decide_eq_false (by omega)
      subst e1
      clear h1 h2
      go_wp2_with (fail)
      go_ret
      exact ⟨rfl, hO⟩
  · have h1' : ¬ (300 : Int) < (n : Int) := by omega
    have e1 : T = false := by rw [HT.out]; exact decide_eq_false (by omega)
    subst e1
    clear h1
    go_wp2_with (fail)
    go_ret
    exact ⟨rfl, hO⟩

def OfPost (w : World) (ws : List ByteArray) (ms : List Mg) (a b d : List Sp) (e : Ending) (w' : World) : Prop :=
  ∃ v up, e = .returned (.tuple #[v, .bool up, .bool true]) ∧ Only [] w w' ∧
    ((up = false ∧ v = .pointer none ∧ ((300 < ms.length ∧ ms.length ≤ 4096) ∨ (faultW ws ms a b d).1 ≠ 0)) ∨
     (up = true ∧ ¬ (300 < ms.length ∧ ms.length ≤ 4096) ∧ (faultW ws ms a b d).1 = 0 ∧ ∃ g base, w.heap.size ≤ base ∧ v = .pointer (some ⟨g, 0, none⟩) ∧ MdAt w' base g ws ms a b d ms.length (lookM 0 ms) (lgF ws)))
omit hR in
theorem faultW_zero {ws : List ByteArray} {ms : List Mg} {a b d : List Sp} (h : (faultW ws ms a b d).1 = 0) : faultW ws ms a b d = (0, 0, 0) := by
  unfold faultW at h ⊢
  split
  · rename_i h1; rw [if_pos h1] at h; cases h
  · rename_i h1; rw [if_neg h1] at h
    split
    · rename_i h2; rw [if_pos h2] at h; cases h
    · rename_i h2; rw [if_neg h2] at h
      split
      · rename_i h3; rw [if_pos h3] at h; exact absurd h h3
      · rename_i h3; rw [if_neg h3] at h
        split
        · rename_i h4; rw [if_pos h4] at h; exact absurd h h4
        · rename_i h4; rw [if_neg h4] at h
          split
          · rename_i h5; rw [if_pos h5] at h; exact absurd h h5
          · rfl
set_option maxRecDepth 100000 in
set_option maxHeartbeats 8000000 in
theorem ofM_any (s0 : ws.length ≤ 17592186043904) (s1 : ms.length ≤ 17592186043904) (s2 : a.length ≤ 17592186043904) (s3 : b.length ≤ 17592186043904) (s4 : d.length ≤ 17592186043904) (hws : ∀ s ∈ ws, s.size ≤ maxLen) (hms : ∀ m ∈ ms, m.ok) :
    Calls Tryd.prog 14 #[.agg #[v0, v1, v2, v3, v4]] w (OfPost w ws ms a b d) := by
  obtain ⟨F, hF⟩ : ∃ F, F = faultW ws ms a b d := ⟨_, rfl⟩
  obtain ⟨h, hh⟩ : ∃ h, h = w.heap.size := ⟨_, rfl⟩
  obtain ⟨W1, hW1⟩ : ∃ W1, W1 = w.alloc (.cells #[v0, v1, v2, v3, v4] 38) := ⟨_, rfl⟩
  have hb : Blk W1 h 38 [v0, v1, v2, v3, v4] := by rw [hW1]; exact Blk.new' _ _ _ hh.symm rfl
  have hO : Only [] w W1 := by rw [hW1]; exact (Only.refl _ _).alloc _
  have hR1 := hR.only hO
  have HR5 := Lib.hid hR1
  obtain ⟨⟨A0, c0, e0, -⟩, ⟨A1, c1, e1, -⟩, ⟨A2, c2, e2, -⟩, ⟨A3, c3, e3, -⟩, ⟨A4, c4, e4, -⟩⟩ := hR1
  obtain ⟨n0, hn0⟩ : ∃ n, n = ws.length := ⟨_, rfl⟩
  obtain ⟨n1, hn1⟩ : ∃ n, n = ms.length := ⟨_, rfl⟩
  obtain ⟨n2, hn2⟩ : ∃ n, n = a.length := ⟨_, rfl⟩
  obtain ⟨n3, hn3⟩ : ∃ n, n = b.length := ⟨_, rfl⟩
  obtain ⟨n4, hn4⟩ : ∃ n, n = d.length := ⟨_, rfl⟩
  rw [← hn0] at e0
  rw [← hn1] at e1
  rw [← hn2] at e2
  rw [← hn3] at e3
  rw [← hn4] at e4
  subst e0 e1 e2 e3 e4
  have kS : ∀ W, Only [] W1 W → (W.cell? ⟨h, 0, none⟩ = some (.slice A0 n0 c0) ∧ W.cell? ⟨h, 1, none⟩ = some (.slice A1 n1 c1) ∧ W.cell? ⟨h, 2, none⟩ = some (.slice A2 n2 c2) ∧ W.cell? ⟨h, 3, none⟩ = some (.slice A3 n3 c3) ∧ W.cell? ⟨h, 4, none⟩ = some (.slice A4 n4 c4)) := by
    intro W hw
    have k := hb.only hw (by simp)
    exact ⟨k.cell 0, k.cell 1, k.cell 2, k.cell 3, k.cell 4⟩
  have KS := Lib.hid kS
  have hlg := large_any W1 _ _ _ _ _ ws ms a b d HR5.out s1
  obtain ⟨L, hL⟩ : ∃ L, L = decide (300 < ms.length ∧ ms.length ≤ 4096) := ⟨_, rfl⟩
  rw [← hL] at hlg
  have HL := Lib.hid hL
  have Hlg := Lib.hid hlg
  have HF := Lib.hid hF
  have Hh := Lib.hid hh
  have HW := Lib.hid hW1
  have Hws := Lib.hid hws
  have Hms := Lib.hid hms
  have Hs1 := Lib.hid s1
  have Hs0 := Lib.hid s0
  have Hs2 := Lib.hid s2
  have Hs3 := Lib.hid s3
  have Hs4 := Lib.hid s4
  have hwh : w.heap.size ≤ h := by omega
  have hz1 : h + 1 ≤ W1.heap.size := by rw [hW1]; simp; omega
  obtain ⟨c0', c1', c2', c3', c4'⟩ := kS W1 (.refl _ _)
  clear hF hL hlg hh hW1 hb hR kS hws hms hn0 hn1 hn2 hn3 hn4 s0 s1 s2 s3 s4
  go_enter Tryd.func14, Tryd.ntmps14
  go_upto_region 1 with (fail)
  rw [← Hh.out, ← HW.out]
  go_wp2_with (fail)
  refine Hlg.out.mono ?_
  rintro e W2 ⟨rfl, hO2⟩
  clear c0' c1' c2' c3' c4'
  obtain ⟨c0', c1', c2', c3', c4'⟩ := KS.out W2 hO2
  cases L with
  | true =>
    go_wp2_with (fail)
    go_ret3
    exact ⟨_, _, rfl, hO.trans hO2, .inl ⟨rfl, rfl, .inl (of_decide_eq_true HL.out.symm)⟩⟩
  | false =>
    have hnl : ¬ (300 < ms.length ∧ ms.length ≤ 4096) := of_decide_eq_false HL.out.symm
    have Hnl := Lib.hid hnl
    have hnew := newM_any W2 _ _ _ _ _ ws ms a b d (HR5.out.only hO2) Hs0.out Hs1.out Hs2.out Hs3.out Hs4.out Hws.out Hms.out
    unfold NewPost at hnew
    rw [← HF.out] at hnew
    have Hnew := Lib.hid hnew
    clear hnl hnew
    go_wp2_with (fail)
    refine Hnew.out.mono ?_
    rintro e W3 ⟨v, rfl, hO3, hcase⟩
    obtain ⟨f1, f2, f3⟩ := F
    simp only at hcase
    simp only
    have Hcase := Lib.hid hcase
    have hO13 := hO2.trans hO3
    clear c0' c1' c2' c3' c4' hcase
    obtain ⟨x, hx⟩ : ∃ x, x = W3.heap.size := ⟨_, rfl⟩
    obtain ⟨W4, hW4⟩ : ∃ W4, W4 = W3.alloc (.cells #[.int .i64 (f1 : Int), .int .i64 (f2 : Int), .int .i64 (f3 : Int)] 66) := ⟨_, rfl⟩
    have bx : Blk W4 x 66 [.int .i64 (f1 : Int), .int .i64 (f2 : Int), .int .i64 (f3 : Int)] := by rw [hW4]; exact Blk.new' _ _ _ hx.symm rfl
    have hO34 : Only [] W3 W4 := by rw [hW4]; exact (Only.refl _ _).alloc _
    have hO14 := hO13.trans hO34
    have HW4 := Lib.hid hW4
    have Hx := Lib.hid hx
    have Bx := Lib.hid bx
    clear bx hW4 hx
    obtain ⟨u, hu⟩ : ∃ u, u = v := ⟨_, rfl⟩
    have Hu := Lib.hid hu
    rw [← hu]
    clear hu
    go_upto_region 4 with (fail)
    rw [← Hx.out, ← HW4.out]
    obtain ⟨c0', c1', c2', c3', c4'⟩ := KS.out W4 hO14
    have hck := check5_any W4 _ _ _ _ _ ws ms a b d (HR5.out.only hO14) Hs0.out Hs1.out Hs2.out Hs3.out Hs4.out Hws.out Hms.out
    rw [← HF.out] at hck
    unfold faultV at hck
    simp only at hck
    have Hck := Lib.hid hck
    clear hck
    go_wp2_with (fail)
    refine Hck.out.mono ?_
    rintro e W5 ⟨rfl, hO5⟩
    have hO15 := hO14.trans hO5
    clear c0' c1' c2' c3' c4'
    obtain ⟨y, hy⟩ : ∃ y, y = W5.heap.size := ⟨_, rfl⟩
    obtain ⟨W6, hW6⟩ : ∃ W6, W6 = W5.alloc (.cells #[.int .i64 (f1 : Int), .int .i64 (f2 : Int), .int .i64 (f3 : Int)] 94) := ⟨_, rfl⟩
    have by' : Blk W6 y 94 [.int .i64 (f1 : Int), .int .i64 (f2 : Int), .int .i64 (f3 : Int)] := by rw [hW6]; exact Blk.new' _ _ _ hy.symm rfl
    have hO46 : Only [] W4 W6 := by rw [hW6]; exact hO5.alloc _
    have hO16 := hO14.trans hO46
    have hO36 := hO34.trans hO46
    have bx := Bx.out.only hO46 (by simp)
    have x0 : W6.cell? ⟨x, 0, none⟩ = some (.int .i64 (f1 : Int)) := bx.cell 0
    have x1 : W6.cell? ⟨x, 1, none⟩ = some (.int .i64 (f2 : Int)) := bx.cell 1
    have x2 : W6.cell? ⟨x, 2, none⟩ = some (.int .i64 (f3 : Int)) := bx.cell 2
    have y0 : W6.cell? ⟨y, 0, none⟩ = some (.int .i64 (f1 : Int)) := by'.cell 0
    have y1 : W6.cell? ⟨y, 1, none⟩ = some (.int .i64 (f2 : Int)) := by'.cell 1
    have y2 : W6.cell? ⟨y, 2, none⟩ = some (.int .i64 (f3 : Int)) := by'.cell 2
    have HW6 := Lib.hid hW6
    have Hy := Lib.hid hy
    clear bx by' hW6 hy
    go_upto_region 5 with (fail)
    rw [← Hy.out, ← HW6.out]
    rcases Hcase.out with ⟨h0, g, base, hbase, hv, hM⟩ | ⟨h0, hv⟩
    · subst h0
      have h2 : f2 = 0 ∧ f3 = 0 := by
        have := faultW_zero (ws := ws) (ms := ms) (a := a) (b := b) (d := d) (by rw [← HF.out])
        rw [← HF.out] at this
        simpa using this
      obtain ⟨rfl, rfl⟩ := h2
      have hu := Hu.out
      rw [hv] at hu
      subst hu
      have HM := Lib.hid hM
      have Hbase := Lib.hid hbase
      clear hM hv hbase
      go_wp2_with (fail)
      go_ret3
      exact ⟨_, _, rfl, hO.trans hO16, .inr ⟨rfl, Hnl.out, by rw [← HF.out], g, base, by have := Hbase.out; have := hO2.size; omega, rfl, HM.out.only0 hO36⟩⟩
    · have hu := Hu.out
      rw [hv] at hu
      subst hu
      have hf1 : ((f1 : Int) != 0) = true := by simp; omega
      have H0 := Lib.hid h0
      clear hv h0
      go_wp2_with (fail)
      go_quiet (fail)
      go_wp2_with (fail)
      go_ret3
      exact ⟨_, _, rfl, (hO.trans hO16).drewN _, .inl ⟨rfl, rfl, .inr (by rw [← HF.out]; exact H0.out)⟩⟩
end
end Go.Proofs.YtgohinklnglgeaaDoor

set_option linter.unusedVariables false
set_option linter.unusedSimpArgs false
namespace Go.Proofs.YtgohinklnglgeaaDoor
open Go.RowKit

def hsW : List ByteArray := [⟨#[97, 98]⟩, ⟨#[32, 97]⟩, ⟨#[116, 104]⟩, ⟨#[116, 104, 101]⟩, ⟨#[104, 101]⟩, ⟨#[195, 169]⟩]
def hsM : List Mg := [⟨97, 98, 256⟩, ⟨32, 97, 257⟩, ⟨116, 104, 258⟩, ⟨258, 101, 259⟩, ⟨104, 101, 260⟩, ⟨195, 169, 261⟩]
def hsL : List Sp := [(97, 122), (233, 233)]
def hsN : List Sp := [(48, 57)]
def hsS : List Sp := [(9, 10), (32, 32)]
theorem house_fault : faultW hsW hsM hsL hsN hsS = (0, 0, 0) := by decide
theorem hsW_size : ∀ s ∈ hsW, s.size ≤ maxLen := by
  intro s hs
  have : s.size ≤ 3 := by revert s; decide
  unfold maxLen; omega
theorem hsM_ok : ∀ m ∈ hsM, m.ok := by
  intro m hm
  have : (-1000 ≤ m.l ∧ m.l ≤ 1000) ∧ (-1000 ≤ m.r ∧ m.r ≤ 1000) ∧ (-1000 ≤ m.id ∧ m.id ≤ 1000) := by revert m; decide
  unfold Mg.ok i64ok; omega

/-- the house's model -/
theorem houseM_any (w : World) (v0 v1 v2 v3 v4 : Value) (hR : Rd5 w v0 v1 v2 v3 v4 hsW hsM hsL hsN hsS) :
    Calls Tryd.prog 14 #[.agg #[v0, v1, v2, v3, v4]] w fun e w' => ∃ g base, e = .returned (.tuple #[.pointer (some ⟨g, 0, none⟩), .bool true, .bool true]) ∧ Only [] w w' ∧ w.heap.size ≤ base ∧ MdAt w' base g hsW hsM hsL hsN hsS 6 (lookM 0 hsM) 3 := by
  refine (ofM_any w v0 v1 v2 v3 v4 hsW hsM hsL hsN hsS hR (by decide) (by decide) (by decide) (by decide) (by decide) hsW_size hsM_ok).mono ?_
  rintro e w' ⟨v, up, rfl, hO, h | ⟨rfl, -, -, g, base, hb, rfl, hM⟩⟩
  · obtain ⟨-, -, h | h⟩ := h
    · exact absurd h (by decide)
    · rw [house_fault] at h; exact absurd rfl h
  · exact ⟨g, base, rfl, hO, hb, hM⟩

/-- what a law answers where there is no model -/
theorem OfPost.no {w w' : World} {ws : List ByteArray} {ms : List Mg} {a b d : List Sp} {e : Ending} (h : OfPost w ws ms a b d e w') :
    (e = .returned (.tuple #[.pointer none, .bool false, .bool true]) ∧ Only [] w w') ∨ ∃ g base, e = .returned (.tuple #[.pointer (some ⟨g, 0, none⟩), .bool true, .bool true]) ∧ Only [] w w' ∧ w.heap.size ≤ base ∧ (faultW ws ms a b d).1 = 0 ∧ MdAt w' base g ws ms a b d ms.length (lookM 0 ms) (lgF ws) ∧ ms.length ≤ 300 := by
  obtain ⟨v, up, rfl, hO, ⟨rfl, rfl, -⟩ | ⟨rfl, h1, h2, g, base, hb, rfl, hM⟩⟩ := h
  · exact .inl ⟨rfl, hO⟩
  · have := hM.small.2.1
    exact .inr ⟨g, base, rfl, hO, hb, h2, hM, by omega⟩

end Go.Proofs.YtgohinklnglgeaaDoor
