/- Chapter 6: Save (printed by gen_fi19.py). -/
import Derived.Test.YtgohinklnglgeaaDoorPk13
import Derived.Test.YtgohinklnglgeaaDoorPk9
set_option linter.unusedVariables false
set_option linter.unusedSimpArgs false
namespace Go.Proofs.YtgohinklnglgeaaDoor
open Go.RowKit
attribute [local go_sem] Oper.semAt_some

set_option maxRecDepth 100000 in
set_option maxHeartbeats 400000 in
theorem saveNil_any (w : World) : Calls Tryd.prog 10 #[.pointer none] w fun e w' => e = .returned (.slice none 0 0) ∧ w = w' := by
  go_enter Tryd.func10, Tryd.ntmps10
  go_wp2_with (fail)
  go_ret
  exact ⟨rfl, rfl⟩
set_option maxRecDepth 100000 in
set_option maxHeartbeats 16000000 in
theorem save_any (w : World) (base g : Nat) (ws : List ByteArray) (ms : List Mg) (a b d : List Sp) (NN : Nat) (f : Int × Int → Option (Nat × Int)) (lg : Nat) (hM : MdAt w base g ws ms a b d NN f lg) (hok : OkD ws ms a b d) :
    Calls Tryd.prog 10 #[.pointer (some ⟨g, 0, none⟩)] w fun e w' => Ex fun v => e = .returned v ∧ BRow w.heap.size w' v (saveF ws ms a b d) ∧ Only [] w w' := by
  have Hd := Lib.hid (data_any w base g ws ms a b d NN f lg hM)
  clear hM
  have kc := fun (w : World) (C : Array Value) (n c : Nat) => Lib.run_convert_bytes_const (P := Tryd.prog) w 22 5 C n c Tryd.underlying22 Tryd.underlying5
  go_enter Tryd.func10, Tryd.ntmps10
  go_wp2_with (fail)
  refine Hd.out.mono ?_
  rintro e w1 ⟨v0, v1, v2, v3, v4, rfl, h5, hO⟩
  have hR1 := h5.rd
  obtain ⟨h, hh⟩ : ∃ h, h = w1.heap.size := ⟨_, rfl⟩
  obtain ⟨⟨A0, c0, e0, hc0, g0⟩, ⟨A1, c1, e1, hc1, g1⟩, ⟨A2, c2, e2, hc2, g2⟩, ⟨A3, c3, e3, hc3, g3⟩, ⟨A4, c4, e4, hc4, g4⟩⟩ := hR1
  obtain ⟨n0, hn0⟩ : ∃ n, n = ws.length := ⟨_, rfl⟩
  obtain ⟨n1, hn1⟩ : ∃ n, n = ms.length := ⟨_, rfl⟩
  obtain ⟨n2, hn2⟩ : ∃ n, n = a.length := ⟨_, rfl⟩
  obtain ⟨n3, hn3⟩ : ∃ n, n = b.length := ⟨_, rfl⟩
  obtain ⟨n4, hn4⟩ : ∃ n, n = d.length := ⟨_, rfl⟩
  rw [← hn0] at e0 g0
  rw [← hn1] at e1 g1
  rw [← hn2] at e2 g2
  rw [← hn3] at e3 g3
  rw [← hn4] at e4 g4
  subst e0 e1 e2 e3 e4
  have Hn := Lib.hid (And.intro hn0 (And.intro hn1 (And.intro hn2 (And.intro hn3 hn4))))
  have HO := Lib.hid hO
  have Hh := Lib.hid hh
  have HG := Lib.hid (And.intro g0 (And.intro g1 (And.intro g2 (And.intro g3 g4))))
  have hbb0 : n0 ≤ 4096 := by have := hok.n; omega
  have hbb1 : n1 ≤ 4096 := by have := hok.n; have := hok.nm; omega
  have hbb2 : n2 ≤ 512 := by have := hok.la; omega
  have hbb3 : n3 ≤ 512 := by have := hok.lb; omega
  have hbb4 : n4 ≤ 512 := by have := hok.ld; omega
  clear h5 hh hO hn0 hn1 hn2 hn3 hn4 g0 g1 g2 g3 g4 Hd
  go_upto_region 4 with (fail)
  rw [← Hh.out]
  refine name_it (p := fun y => Code.wp _ _ _ _ y) ?_
  intro W1 HW1
  have hb : Blk W1 h 38 [.slice A0 n0 c0, .slice A1 n1 c1, .slice A2 n2 c2, .slice A3 n3 c3, .slice A4 n4 c4] := by rw [HW1.out]; exact Blk.new' _ _ _ Hh.out.symm rfl
  have hO1 : Only [] w1 W1 := by rw [HW1.out]; exact (Only.refl _ _).alloc _
  have KS := Lib.hid (show ∀ W, Only [] W1 W → (W.cell? ⟨h, 0, none⟩ = some (.slice A0 n0 c0) ∧ W.cell? ⟨h, 1, none⟩ = some (.slice A1 n1 c1) ∧ W.cell? ⟨h, 2, none⟩ = some (.slice A2 n2 c2) ∧ W.cell? ⟨h, 3, none⟩ = some (.slice A3 n3 c3) ∧ W.cell? ⟨h, 4, none⟩ = some (.slice A4 n4 c4)) by
    intro W hw
    have k := hb.only hw (by simp)
    exact ⟨k.cell 0, k.cell 1, k.cell 2, k.cell 3, k.cell 4⟩)
  have HR := Lib.hid (show ∀ W, Only [] W1 W → Rd W w1.heap.size 1 A0 n0 (wds ws) ∧ Rd W w1.heap.size 3 A1 n1 (mgs ms) ∧ Rd W w1.heap.size 2 A2 n2 (ses a) ∧ Rd W w1.heap.size 2 A3 n3 (ses b) ∧ Rd W w1.heap.size 2 A4 n4 (ses d) from
    fun W hW => ⟨(HG.out.1.only hO1 (by simp)).only hW (by simp), (HG.out.2.1.only hO1 (by simp)).only hW (by simp), (HG.out.2.2.1.only hO1 (by simp)).only hW (by simp), (HG.out.2.2.2.1.only hO1 (by simp)).only hW (by simp), (HG.out.2.2.2.2.only hO1 (by simp)).only hW (by simp)⟩)
  have HO1 := Lib.hid (HO.out.trans hO1)
  have Hbw := Lib.hid (show ∀ W, Only [] W1 W → w.heap.size ≤ W.heap.size from fun W hW => Nat.le_trans (HO.out.trans hO1).size hW.size)
  obtain ⟨k0, -⟩ := KS.out W1 (.refl _ _)
  have k0a : ∀ o, (W1.alloc o).cell? ⟨h, 0, none⟩ = some (.slice A0 n0 c0) := fun o => (KS.out _ ((Only.refl [] W1).alloc o)).1
  obtain ⟨gz, hgz⟩ : ∃ z, z = W1.heap.size := ⟨_, rfl⟩
  have Hput := Lib.hid (fun m => put_any (some ⟨gz, 0, none⟩) 4 4 n0 [66, 80, 69, 49] (W1.alloc (.cells #[.int .u8 66, .int .u8 80, .int .u8 69, .int .u8 49] 5 m)) (by exact rd_lit W1 5 [66, 80, 69, 49] m gz hgz.symm _ rfl _ (by simp [hgz])) (by omega) (by omega) (by omega))
  have Hgz := Lib.hid hgz
  have hwn0 : IntKind.u32.wrap (n0 : Int) = (n0 : Int) := by show (n0 : Int) % 4294967296 = _; omega
  clear hgz HW1 hb hO1 HG
  go_wp2_with (fail)
  rw [← Hgz.out]
  refine (Hput.out _).mono ?_
  rintro e W2 ⟨v5, rfl, hB2, hO2⟩
  replace hO2 : Only [] W1 W2 := ((Only.refl [] W1).alloc _).trans hO2
  replace hB2 : BRow w.heap.size W2 v5 ([66, 80, 69, 49] ++ be4 n0) := own_base hB2 (by have := HO1.out.size; simp; omega)
  obtain ⟨L0, hL0⟩ : ∃ z, z = [66, 80, 69, 49] ++ be4 n0 := ⟨_, rfl⟩
  rw [← hL0] at hB2
  have hl0 : L0.length = 8 := by rw [hL0]; simp [be4_length]
  have HL0 := Lib.hid hL0
  have HB2 := Lib.hid hB2
  have HO2 := Lib.hid hO2
  have Hl0 := Lib.hid hl0
  clear kc k0 k0a Hput hL0 hB2 hO2 hl0 hwn0
  obtain ⟨k0, -⟩ := KS.out W2 HO2.out
  go_upto_block 0 with (fail)
  go_cut [4] (fun vb wx => BRow w.heap.size wx vb (L0 ++ encs wEnc ws) ∧ Only [] W1 wx)
  case first =>
    go_wp2_with (fail)
    go_loopw [4, 29] (fun vb vi wr => ∃ k : Nat, vi = .int .i64 (k : Int) ∧ k ≤ n0 ∧ BRow w.heap.size wr vb (L0 ++ encs wEnc (ws.take k)) ∧ Only [] W1 wr) (fun _ vi _ => n0 - (intOf vi).toNat)
    case atStart => exact ⟨0, rfl, by omega, HB2.out.of (by simp [encs]), HO2.out⟩
    case round =>
      obtain ⟨k, rfl, hk, hB, hOr⟩ := hrel
      clear k0
      by_cases hlt : k < n0
      · obtain ⟨s, hs⟩ : ∃ s, ws[k]? = some s := ⟨_, List.getElem?_eq_getElem (by have := Hn.out.1; omega)⟩
        have hso := hok.w s (List.mem_of_getElem? hs)
        have hle := encs_take_le (enc := wEnc) (m := 260) ws (fun x hx => wEnc_le (hok.w x hx)) k 4096 (by have := Hn.out.1; omega)
        obtain ⟨g, o, rfl, -, hcell⟩ := (HR.out wr hOr).1.wd hs
        have G1 := Lib.hid (putTextB hB (by rw [List.length_append, Hl0.out]; omega) (Hbw.out wr hOr) s (by have := hso.2; omega))
        have Hs := Lib.hid hs
        have HOr := Lib.hid hOr
        clear hB hs hso hle hOr
        go_wp2_with (fail)
        refine G1.out.mono ?_
        rintro e w2 ⟨v2, rfl, hb2, hO2⟩
        clear hcell
        go_wp2_with (fail)
        go_roundw
        case rel =>
          refine ⟨k + 1, by go_num, by omega, hb2.of ?_, HOr.out.trans hO2⟩
          rw [encs_take wEnc ws k _ Hs.out, List.append_assoc]
        case measure => simp [intOf]; omega
      · obtain rfl : k = n0 := by omega
        go_wp2_with (fail)
        go_meet
        case rel =>
          refine ⟨hB.of ?_, hOr⟩
          rw [List.take_of_length_le (by have := Hn.out.1; omega)]
  case rest =>
  obtain ⟨hB3, hO3⟩ := hcut
  obtain ⟨W3, rfl⟩ : ∃ z : World, z = wc := ⟨_, rfl⟩
  have hw3 := encs_le (enc := wEnc) (m := 260) ws (fun x hx => wEnc_le (hok.w x hx))
  have hl3 : (L0 ++ encs wEnc ws).length ≤ 1100000 := by rw [List.length_append, Hl0.out]; have := Hn.out.1; omega
  obtain ⟨L1, hL1⟩ : ∃ z, z = L0 ++ encs wEnc ws := ⟨_, rfl⟩
  rw [← hL1] at hB3 hl3
  have HL1 := Lib.hid hL1
  have HB3 := Lib.hid hB3
  have HO3 := Lib.hid hO3
  clear hL1 hB3 hO3 hw3 k0
  obtain ⟨-, k1, -⟩ := KS.out W3 HO3.out
  go_upto_block 2 with (fail)
  go_cut [4] (fun vb wx => BRow w.heap.size wx vb (L1 ++ encs mEnc ms) ∧ Only [] W1 wx)
  case first =>
    go_wp2_with (fail)
    go_loopw [4, 40] (fun vb vi wr => ∃ k : Nat, vi = .int .i64 (k : Int) ∧ k ≤ n1 ∧ BRow w.heap.size wr vb (L1 ++ encs mEnc (ms.take k)) ∧ Only [] W1 wr) (fun _ vi _ => n1 - (intOf vi).toNat)
    case atStart => exact ⟨0, rfl, by omega, HB3.out.of (by simp [encs]), HO3.out⟩
    case round =>
      obtain ⟨k, rfl, hk, hB, hOr⟩ := hrel
      clear k1
      by_cases hlt : k < n1
      · obtain ⟨m, hm⟩ : ∃ m, ms[k]? = some m := ⟨_, List.getElem?_eq_getElem (by have := Hn.out.2.1; omega)⟩
        have hmo := hok.m m (List.mem_of_getElem? hm)
        have hle := encs_take_le (enc := mEnc) (m := 12) ms (fun x hx => by rw [mEnc_length]; omega) k 4096 (by have := Hn.out.2.1; omega)
        have hRm := (HR.out wr hOr).2.1
        obtain ⟨ml, mr, mid⟩ := m
        obtain ⟨x, hx, hx1⟩ := nat_of (m := 2147483647) hmo.1.1 hmo.1.2
        obtain ⟨y, hy, hy1⟩ := nat_of (m := 2147483647) hmo.2.1.1 hmo.2.1.2
        obtain ⟨z, hz, hz1⟩ := nat_of (m := 2147483647) hmo.2.2.1 hmo.2.2.2
        simp only at hx hy hz
        subst hx hy hz
        obtain ⟨g, o, rfl, -, q0, q1, q2⟩ := hRm.mg hm
        have hB1 : (L1 ++ encs mEnc (ms.take k)).length ≤ 1200000 := by rw [List.length_append]; omega
        have w1x : IntKind.u32.wrap (x : Int) = (x : Int) := by show (x : Int) % 4294967296 = _; omega
        have w1y : IntKind.u32.wrap (y : Int) = (y : Int) := by show (y : Int) % 4294967296 = _; omega
        have w1z : IntKind.u32.wrap (z : Int) = (z : Int) := by show (z : Int) % 4294967296 = _; omega
        have Hm := Lib.hid hm
        have HOr := Lib.hid hOr
        have HB := Lib.hid hB
        have HB1 := Lib.hid hB1
        obtain ⟨gr, hgr⟩ : ∃ z, z = wr.heap.size := ⟨_, rfl⟩
        have Hgr := Lib.hid hgr
        clear hB hm hmo hle hRm hB1 hOr hgr
        go_wp2_with (fail)
        rw [← Hgr.out]
        refine name_it (p := fun y => Code.wp _ _ _ _ y) ?_
        intro Wa Ha
        have hOa : Only [] wr Wa := by rw [Ha.out]; exact ((Only.refl _ _).alloc _).alloc _
        have hba : Blk Wa (gr + 1) 3 [.int .i64 (x : Int), .int .i64 (y : Int), .int .i64 (z : Int)] := by rw [Ha.out]; exact Blk.new' _ _ _ (by simp [Hgr.out]) rfl
        have KM := Lib.hid (fun W (hW : Only [] Wa W) => (show W.cell? ⟨gr + 1, 0, none⟩ = some (.int .i64 (x : Int)) ∧ W.cell? ⟨gr + 1, 1, none⟩ = some (.int .i64 (y : Int)) ∧ W.cell? ⟨gr + 1, 2, none⟩ = some (.int .i64 (z : Int)) from ⟨(hba.only hW (by simp)).cell 0, (hba.only hW (by simp)).cell 1, (hba.only hW (by simp)).cell 2⟩))
        have HOa := Lib.hid (HOr.out.trans hOa)
        have G1 := Lib.hid (putB (HB.out.only hOa) (by have := HB1.out; omega) (Hbw.out Wa HOa.out) x (by omega))
        have G2 := Lib.hid (fun W V (hV : BRow w.heap.size W V (L1 ++ encs mEnc (ms.take k) ++ be4 x)) (hW : Only [] Wa W) => putB hV (by rw [List.length_append, be4_length]; have := HB1.out; omega) (Hbw.out W (HOa.out.trans hW)) y (by omega))
        have G3 := Lib.hid (fun W V (hV : BRow w.heap.size W V (L1 ++ encs mEnc (ms.take k) ++ be4 x ++ be4 y)) (hW : Only [] Wa W) => putB hV (by rw [List.length_append, List.length_append, be4_length, be4_length]; have := HB1.out; omega) (Hbw.out W (HOa.out.trans hW)) z (by omega))
        clear q0 q1 q2 hba hOa Ha
        obtain ⟨q0, -⟩ := KM.out Wa (.refl _ _)
        refine wp_loop_rounds 4 ?_
        rw [rounds_succ]
        go_wp2_with (fail)
        refine G1.out.mono ?_
        rintro e w2 ⟨v2, rfl, hb2, hO2⟩
        obtain ⟨q0', q1', q2'⟩ := KM.out w2 hO2
        clear q0 G1
        go_wp2_with (fail)
        rw [rounds_succ]
        go_wp2_with (fail)
        refine (G2.out w2 v2 hb2 hO2).mono ?_
        rintro e w3 ⟨v3, rfl, hb3, hO3⟩
        replace hO3 := hO2.trans hO3
        clear q0' q1' q2' hO2 hb2 G2
        obtain ⟨q0', q1', q2'⟩ := KM.out w3 hO3
        go_wp2_with (fail)
        rw [rounds_succ]
        go_wp2_with (fail)
        refine (G3.out w3 v3 hb3 hO3).mono ?_
        rintro e w4 ⟨v4, rfl, hb4, hO4⟩
        replace hO4 := hO3.trans hO4
        clear q0' q1' q2' hO3 hb3 G3
        go_wp2_with (fail)
        rw [rounds_succ]
        go_wp2_with (fail)
        go_roundw
        case rel =>
          refine ⟨k + 1, by go_num, by omega, hb4.of ?_, HOa.out.trans hO4⟩
          rw [encs_take mEnc ms k _ Hm.out]
          simp [mEnc]
        case measure => simp [intOf]; omega
      · obtain rfl : k = n1 := by omega
        go_wp2_with (fail)
        go_meet
        case rel =>
          refine ⟨hB.of ?_, hOr⟩
          rw [List.take_of_length_le (by have := Hn.out.2.1; omega)]
  case rest =>
  obtain ⟨hB4, hO4⟩ := hcut
  obtain ⟨W4, rfl⟩ : ∃ z : World, z = wc := ⟨_, rfl⟩
  have hw4 := encs_le (enc := mEnc) (m := 12) ms (fun x hx => by rw [mEnc_length]; omega)
  have hl4 : (L1 ++ encs mEnc ms).length ≤ 1200000 := by rw [List.length_append]; have := Hn.out.2.1; omega
  obtain ⟨L2, hL2⟩ : ∃ z, z = L1 ++ encs mEnc ms := ⟨_, rfl⟩
  rw [← hL2] at hB4 hl4
  have HL2 := Lib.hid hL2
  have HB4 := Lib.hid hB4
  have HO4 := Lib.hid hO4
  have ha := spB_le hok.la
  have hbb := spB_le hok.lb
  have hd := spB_le hok.ld
  obtain ⟨-, -, k2, k3, k4⟩ := KS.out W4 hO4
  clear hL2 hB4 hw4 hO4 k1
  obtain ⟨gl, hgl⟩ : ∃ z, z = W4.heap.size := ⟨_, rfl⟩
  have Hgl := Lib.hid hgl
  clear hgl
  go_wp2_with (fail)
  rw [← Hgl.out]
  refine name_it (p := fun y => Code.wp _ _ _ _ y) ?_
  intro W5 HW5
  have hO5 : Only [] W4 W5 := by rw [HW5.out]; exact (Only.refl _ _).alloc _
  have hb5 : Blk W5 gl 36 [.slice A2 n2 c2, .slice A3 n3 c3, .slice A4 n4 c4] := by rw [HW5.out]; exact Blk.new' _ _ _ Hgl.out.symm rfl
  have KL := Lib.hid (fun W (hW : Only [] W5 W) => (show W.cell? ⟨gl, 0, none⟩ = some (.slice A2 n2 c2) ∧ W.cell? ⟨gl, 1, none⟩ = some (.slice A3 n3 c3) ∧ W.cell? ⟨gl, 2, none⟩ = some (.slice A4 n4 c4) from ⟨(hb5.only hW (by simp)).cell 0, (hb5.only hW (by simp)).cell 1, (hb5.only hW (by simp)).cell 2⟩))
  have HO15 := Lib.hid (HO4.out.trans hO5)
  have HBx := Lib.hid (HB4.out.only hO5)
  have HOx := Lib.hid (Only.refl [] W5)
  clear k2 k3 k4 hO5 hb5 HW5
  refine wp_loop_rounds 4 ?_
  rw [rounds_succ]
  go_upto_block 7 with (fail)
  go_cut [4] (fun vb wx => BRow w.heap.size wx vb (L2 ++ spB a) ∧ Only [] W5 wx)
  case first =>
    obtain ⟨LC, hLC⟩ : ∃ z, z = L2 := ⟨_, rfl⟩
    have hLl : LC.length ≤ 1250000 := by rw [hLC]; (try simp only [List.length_append]); omega
    have Hput := Lib.hid (putB HBx.out (by rw [← hLC]; omega) (Hbw.out W5 (HO15.out.trans HOx.out)) n2 (by omega))
    rw [← hLC] at Hput
    have HLC := Lib.hid hLC
    have HLl := Lib.hid hLl
    have hwn : IntKind.u32.wrap (n2 : Int) = (n2 : Int) := by show (n2 : Int) % 4294967296 = _; omega
    obtain ⟨k0, k1, k2⟩ := KL.out W5 HOx.out
    clear hLC hLl
    go_wp2_with (fail)
    refine Hput.out.mono ?_
    rintro e w1' ⟨v1', rfl, hb1', hO1'⟩
    have Hb1' := Lib.hid hb1'
    have HO1' := Lib.hid (HOx.out.trans hO1')
    clear Hput hb1' hO1' k0 k1 k2
    go_wp2_with (fail)
    go_loopw [4, 81] (fun vb vi wr => ∃ k : Nat, vi = .int .i64 (k : Int) ∧ k ≤ n2 ∧ BRow w.heap.size wr vb (LC ++ be4 n2 ++ encs sEnc (a.take k)) ∧ Only [] W5 wr) (fun _ vi _ => n2 - (intOf vi).toNat)
    case atStart => exact ⟨0, rfl, by omega, Hb1'.out.of (by simp [encs]), HO1'.out⟩
    case round =>
      obtain ⟨k, rfl, hk, hB, hOr⟩ := hrel
      by_cases hlt : k < n2
      · obtain ⟨q, hq⟩ : ∃ q, a[k]? = some q := ⟨_, List.getElem?_eq_getElem (by have := Hn.out.2.2.1; omega)⟩
        have hqo := hok.a q (List.mem_of_getElem? hq)
        obtain ⟨lo, hi⟩ := q
        obtain ⟨x, hx, hx1⟩ := nat_of (m := 1114111) hqo.1.1 hqo.1.2
        obtain ⟨y, hy, hy1⟩ := nat_of (m := 1114111) hqo.2.1 hqo.2.2
        simp only at hx hy
        subst hx hy
        have hle := encs_take_le (enc := sEnc) (m := 8) a (fun x _ => by rw [sEnc_length]; omega) k 512 (by have := Hn.out.2.2.1; omega)
        have hRr := (HR.out wr (HO15.out.trans hOr)).2.2.1
        obtain ⟨g, o, rfl, hgB, hc0, hc1⟩ := hRr.span hlt hq
        have hB1 : (LC ++ be4 n2 ++ encs sEnc (a.take k)).length ≤ 1300000 := by simp only [List.length_append, be4_length]; have := HLl.out; omega
        have w1x : IntKind.u32.wrap (x : Int) = (x : Int) := by show (x : Int) % 4294967296 = _; omega
        have w1y : IntKind.u32.wrap (y : Int) = (y : Int) := by show (y : Int) % 4294967296 = _; omega
        have Hq := Lib.hid hq
        have HOr := Lib.hid hOr
        have HB := Lib.hid hB
        have HB1 := Lib.hid hB1
        obtain ⟨gr, hgr⟩ : ∃ z, z = wr.heap.size := ⟨_, rfl⟩
        have Hgr := Lib.hid hgr
        clear hB hq hqo hle hRr hB1 hOr hgr
        go_upto_region 26 with (fail)
        rw [← Hgr.out]
        refine name_it (p := fun y => Code.wp _ _ _ _ y) ?_
        intro Wa Ha
        have hOa : Only [] wr Wa := by rw [Ha.out]; exact (Only.refl _ _).alloc _
        have hba : Blk Wa gr 70 [.int .i32 (x : Int), .int .i32 (y : Int)] := by rw [Ha.out]; exact Blk.new' _ _ _ (by simp [Hgr.out]) rfl
        have KM := Lib.hid (fun W (hW : Only [] Wa W) => (show W.cell? ⟨gr, 0, none⟩ = some (.int .i32 (x : Int)) ∧ W.cell? ⟨gr, 1, none⟩ = some (.int .i32 (y : Int)) from ⟨(hba.only hW (by simp)).cell 0, (hba.only hW (by simp)).cell 1⟩))
        have HOa := Lib.hid (HO15.out.trans (HOr.out.trans hOa))
        have HOa5 := Lib.hid (HOr.out.trans hOa)
        have G1 := Lib.hid (fun W (hW : Only [] Wa W) => putB (HB.out.only (hOa.trans hW)) (by have := HB1.out; omega) (Hbw.out W (HOa.out.trans hW)) x (by omega))
        have G2 := Lib.hid (fun W V (hV : BRow w.heap.size W V (LC ++ be4 n2 ++ encs sEnc (a.take k) ++ be4 x)) (hW : Only [] Wa W) => putB hV (by rw [List.length_append, be4_length]; have := HB1.out; omega) (Hbw.out W (HOa.out.trans hW)) y (by omega))
        clear hc0 hc1 hba hOa Ha
        go_region_held3 (fun V => (V.cell? ⟨gr, 0, none⟩ = some (.int .i32 (x : Int)) ∧ V.cell? ⟨gr, 1, none⟩ = some (.int .i32 (y : Int))) ∧ Only [] Wa V)
          (first | exact ⟨KM.out _ ((Only.refl _ _).drew), (Only.refl _ _).drew⟩ | exact ⟨KM.out _ (by assumption), (by assumption)⟩ | fail)
          (first
            | (go_at_call 29
               obtain ⟨-, hF⟩ := (by assumption : _ ∧ Only [] Wa _)
               first
               | (refine (G1.out _ hF).mono ?_
                  rintro e w2 ⟨v2, rfl, hb2, hF1⟩
                  replace hF1 := hF.trans hF1
                  clear G1 hF)
               | (refine (G2.out _ _ hb2 hF).mono ?_
                  rintro e w3 ⟨v3, rfl, hb3, hF2⟩
                  replace hF2 := hF.trans hF2
                  clear G2 hF)))
        all_goals
          go_wp2_with (fail)
          go_roundw
          case rel =>
            refine ⟨k + 1, by go_num, by omega, hb3.of ?_, HOa5.out.trans hF2⟩
            rw [encs_take sEnc a k _ Hq.out]
            simp [sEnc]
          case measure => simp [intOf]; omega
      · obtain rfl : k = n2 := by omega
        go_wp2_with (fail)
        go_meet
        case rel =>
          refine ⟨hB.of ?_, hOr⟩
          rw [List.take_of_length_le (by have := Hn.out.2.2.1; omega)]
          rw [← HLC.out]
          unfold spB
          rw [← Hn.out.2.2.1, List.append_assoc]
  case rest =>
  obtain ⟨hB6, hO6⟩ := hcut
  obtain ⟨W6, rfl⟩ : ∃ z : World, z = wc := ⟨_, rfl⟩
  replace HBx := Lib.hid hB6
  replace HOx := Lib.hid hO6
  clear hB6 hO6
  go_wp2_with (fail)
  rw [rounds_succ]
  go_upto_block 7 with (fail)
  go_cut [4] (fun vb wx => BRow w.heap.size wx vb (L2 ++ spB a ++ spB b) ∧ Only [] W5 wx)
  case first =>
    obtain ⟨LC, hLC⟩ : ∃ z, z = L2 ++ spB a := ⟨_, rfl⟩
    have hLl : LC.length ≤ 1250000 := by rw [hLC]; (try simp only [List.length_append]); omega
    have Hput := Lib.hid (putB HBx.out (by rw [← hLC]; omega) (Hbw.out W6 (HO15.out.trans HOx.out)) n3 (by omega))
    rw [← hLC] at Hput
    have HLC := Lib.hid hLC
    have HLl := Lib.hid hLl
    have hwn : IntKind.u32.wrap (n3 : Int) = (n3 : Int) := by show (n3 : Int) % 4294967296 = _; omega
    obtain ⟨k0, k1, k2⟩ := KL.out W6 HOx.out
    clear hLC hLl
    go_wp2_with (fail)
    refine Hput.out.mono ?_
    rintro e w1' ⟨v1', rfl, hb1', hO1'⟩
    have Hb1' := Lib.hid hb1'
    have HO1' := Lib.hid (HOx.out.trans hO1')
    clear Hput hb1' hO1' k0 k1 k2
    go_wp2_with (fail)
    go_loopw [4, 81] (fun vb vi wr => ∃ k : Nat, vi = .int .i64 (k : Int) ∧ k ≤ n3 ∧ BRow w.heap.size wr vb (LC ++ be4 n3 ++ encs sEnc (b.take k)) ∧ Only [] W5 wr) (fun _ vi _ => n3 - (intOf vi).toNat)
    case atStart => exact ⟨0, rfl, by omega, Hb1'.out.of (by simp [encs]), HO1'.out⟩
    case round =>
      obtain ⟨k, rfl, hk, hB, hOr⟩ := hrel
      by_cases hlt : k < n3
      · obtain ⟨q, hq⟩ : ∃ q, b[k]? = some q := ⟨_, List.getElem?_eq_getElem (by have := Hn.out.2.2.2.1; omega)⟩
        have hqo := hok.b q (List.mem_of_getElem? hq)
        obtain ⟨lo, hi⟩ := q
        obtain ⟨x, hx, hx1⟩ := nat_of (m := 1114111) hqo.1.1 hqo.1.2
        obtain ⟨y, hy, hy1⟩ := nat_of (m := 1114111) hqo.2.1 hqo.2.2
        simp only at hx hy
        subst hx hy
        have hle := encs_take_le (enc := sEnc) (m := 8) b (fun x _ => by rw [sEnc_length]; omega) k 512 (by have := Hn.out.2.2.2.1; omega)
        have hRr := (HR.out wr (HO15.out.trans hOr)).2.2.2.1
        obtain ⟨g, o, rfl, hgB, hc0, hc1⟩ := hRr.span hlt hq
        have hB1 : (LC ++ be4 n3 ++ encs sEnc (b.take k)).length ≤ 1300000 := by simp only [List.length_append, be4_length]; have := HLl.out; omega
        have w1x : IntKind.u32.wrap (x : Int) = (x : Int) := by show (x : Int) % 4294967296 = _; omega
        have w1y : IntKind.u32.wrap (y : Int) = (y : Int) := by show (y : Int) % 4294967296 = _; omega
        have Hq := Lib.hid hq
        have HOr := Lib.hid hOr
        have HB := Lib.hid hB
        have HB1 := Lib.hid hB1
        obtain ⟨gr, hgr⟩ : ∃ z, z = wr.heap.size := ⟨_, rfl⟩
        have Hgr := Lib.hid hgr
        clear hB hq hqo hle hRr hB1 hOr hgr
        go_upto_region 26 with (fail)
        rw [← Hgr.out]
        refine name_it (p := fun y => Code.wp _ _ _ _ y) ?_
        intro Wa Ha
        have hOa : Only [] wr Wa := by rw [Ha.out]; exact (Only.refl _ _).alloc _
        have hba : Blk Wa gr 70 [.int .i32 (x : Int), .int .i32 (y : Int)] := by rw [Ha.out]; exact Blk.new' _ _ _ (by simp [Hgr.out]) rfl
        have KM := Lib.hid (fun W (hW : Only [] Wa W) => (show W.cell? ⟨gr, 0, none⟩ = some (.int .i32 (x : Int)) ∧ W.cell? ⟨gr, 1, none⟩ = some (.int .i32 (y : Int)) from ⟨(hba.only hW (by simp)).cell 0, (hba.only hW (by simp)).cell 1⟩))
        have HOa := Lib.hid (HO15.out.trans (HOr.out.trans hOa))
        have HOa5 := Lib.hid (HOr.out.trans hOa)
        have G1 := Lib.hid (fun W (hW : Only [] Wa W) => putB (HB.out.only (hOa.trans hW)) (by have := HB1.out; omega) (Hbw.out W (HOa.out.trans hW)) x (by omega))
        have G2 := Lib.hid (fun W V (hV : BRow w.heap.size W V (LC ++ be4 n3 ++ encs sEnc (b.take k) ++ be4 x)) (hW : Only [] Wa W) => putB hV (by rw [List.length_append, be4_length]; have := HB1.out; omega) (Hbw.out W (HOa.out.trans hW)) y (by omega))
        clear hc0 hc1 hba hOa Ha
        go_region_held3 (fun V => (V.cell? ⟨gr, 0, none⟩ = some (.int .i32 (x : Int)) ∧ V.cell? ⟨gr, 1, none⟩ = some (.int .i32 (y : Int))) ∧ Only [] Wa V)
          (first | exact ⟨KM.out _ ((Only.refl _ _).drew), (Only.refl _ _).drew⟩ | exact ⟨KM.out _ (by assumption), (by assumption)⟩ | fail)
          (first
            | (go_at_call 29
               obtain ⟨-, hF⟩ := (by assumption : _ ∧ Only [] Wa _)
               first
               | (refine (G1.out _ hF).mono ?_
                  rintro e w2 ⟨v2, rfl, hb2, hF1⟩
                  replace hF1 := hF.trans hF1
                  clear G1 hF)
               | (refine (G2.out _ _ hb2 hF).mono ?_
                  rintro e w3 ⟨v3, rfl, hb3, hF2⟩
                  replace hF2 := hF.trans hF2
                  clear G2 hF)))
        all_goals
          go_wp2_with (fail)
          go_roundw
          case rel =>
            refine ⟨k + 1, by go_num, by omega, hb3.of ?_, HOa5.out.trans hF2⟩
            rw [encs_take sEnc b k _ Hq.out]
            simp [sEnc]
          case measure => simp [intOf]; omega
      · obtain rfl : k = n3 := by omega
        go_wp2_with (fail)
        go_meet
        case rel =>
          refine ⟨hB.of ?_, hOr⟩
          rw [List.take_of_length_le (by have := Hn.out.2.2.2.1; omega)]
          rw [← HLC.out]
          unfold spB
          rw [← Hn.out.2.2.2.1, List.append_assoc]
  case rest =>
  obtain ⟨hB6, hO6⟩ := hcut
  obtain ⟨W7, rfl⟩ : ∃ z : World, z = wc := ⟨_, rfl⟩
  replace HBx := Lib.hid hB6
  replace HOx := Lib.hid hO6
  clear hB6 hO6
  go_wp2_with (fail)
  rw [rounds_succ]
  go_upto_block 7 with (fail)
  go_cut [4] (fun vb wx => BRow w.heap.size wx vb (L2 ++ spB a ++ spB b ++ spB d) ∧ Only [] W5 wx)
  case first =>
    obtain ⟨LC, hLC⟩ : ∃ z, z = L2 ++ spB a ++ spB b := ⟨_, rfl⟩
    have hLl : LC.length ≤ 1250000 := by rw [hLC]; (try simp only [List.length_append]); omega
    have Hput := Lib.hid (putB HBx.out (by rw [← hLC]; omega) (Hbw.out W7 (HO15.out.trans HOx.out)) n4 (by omega))
    rw [← hLC] at Hput
    have HLC := Lib.hid hLC
    have HLl := Lib.hid hLl
    have hwn : IntKind.u32.wrap (n4 : Int) = (n4 : Int) := by show (n4 : Int) % 4294967296 = _; omega
    obtain ⟨k0, k1, k2⟩ := KL.out W7 HOx.out
    clear hLC hLl
    go_wp2_with (fail)
    refine Hput.out.mono ?_
    rintro e w1' ⟨v1', rfl, hb1', hO1'⟩
    have Hb1' := Lib.hid hb1'
    have HO1' := Lib.hid (HOx.out.trans hO1')
    clear Hput hb1' hO1' k0 k1 k2
    go_wp2_with (fail)
    go_loopw [4, 81] (fun vb vi wr => ∃ k : Nat, vi = .int .i64 (k : Int) ∧ k ≤ n4 ∧ BRow w.heap.size wr vb (LC ++ be4 n4 ++ encs sEnc (d.take k)) ∧ Only [] W5 wr) (fun _ vi _ => n4 - (intOf vi).toNat)
    case atStart => exact ⟨0, rfl, by omega, Hb1'.out.of (by simp [encs]), HO1'.out⟩
    case round =>
      obtain ⟨k, rfl, hk, hB, hOr⟩ := hrel
      by_cases hlt : k < n4
      · obtain ⟨q, hq⟩ : ∃ q, d[k]? = some q := ⟨_, List.getElem?_eq_getElem (by have := Hn.out.2.2.2.2; omega)⟩
        have hqo := hok.d q (List.mem_of_getElem? hq)
        obtain ⟨lo, hi⟩ := q
        obtain ⟨x, hx, hx1⟩ := nat_of (m := 1114111) hqo.1.1 hqo.1.2
        obtain ⟨y, hy, hy1⟩ := nat_of (m := 1114111) hqo.2.1 hqo.2.2
        simp only at hx hy
        subst hx hy
        have hle := encs_take_le (enc := sEnc) (m := 8) d (fun x _ => by rw [sEnc_length]; omega) k 512 (by have := Hn.out.2.2.2.2; omega)
        have hRr := (HR.out wr (HO15.out.trans hOr)).2.2.2.2
        obtain ⟨g, o, rfl, hgB, hc0, hc1⟩ := hRr.span hlt hq
        have hB1 : (LC ++ be4 n4 ++ encs sEnc (d.take k)).length ≤ 1300000 := by simp only [List.length_append, be4_length]; have := HLl.out; omega
        have w1x : IntKind.u32.wrap (x : Int) = (x : Int) := by show (x : Int) % 4294967296 = _; omega
        have w1y : IntKind.u32.wrap (y : Int) = (y : Int) := by show (y : Int) % 4294967296 = _; omega
        have Hq := Lib.hid hq
        have HOr := Lib.hid hOr
        have HB := Lib.hid hB
        have HB1 := Lib.hid hB1
        obtain ⟨gr, hgr⟩ : ∃ z, z = wr.heap.size := ⟨_, rfl⟩
        have Hgr := Lib.hid hgr
        clear hB hq hqo hle hRr hB1 hOr hgr
        go_upto_region 26 with (fail)
        rw [← Hgr.out]
        refine name_it (p := fun y => Code.wp _ _ _ _ y) ?_
        intro Wa Ha
        have hOa : Only [] wr Wa := by rw [Ha.out]; exact (Only.refl _ _).alloc _
        have hba : Blk Wa gr 70 [.int .i32 (x : Int), .int .i32 (y : Int)] := by rw [Ha.out]; exact Blk.new' _ _ _ (by simp [Hgr.out]) rfl
        have KM := Lib.hid (fun W (hW : Only [] Wa W) => (show W.cell? ⟨gr, 0, none⟩ = some (.int .i32 (x : Int)) ∧ W.cell? ⟨gr, 1, none⟩ = some (.int .i32 (y : Int)) from ⟨(hba.only hW (by simp)).cell 0, (hba.only hW (by simp)).cell 1⟩))
        have HOa := Lib.hid (HO15.out.trans (HOr.out.trans hOa))
        have HOa5 := Lib.hid (HOr.out.trans hOa)
        have G1 := Lib.hid (fun W (hW : Only [] Wa W) => putB (HB.out.only (hOa.trans hW)) (by have := HB1.out; omega) (Hbw.out W (HOa.out.trans hW)) x (by omega))
        have G2 := Lib.hid (fun W V (hV : BRow w.heap.size W V (LC ++ be4 n4 ++ encs sEnc (d.take k) ++ be4 x)) (hW : Only [] Wa W) => putB hV (by rw [List.length_append, be4_length]; have := HB1.out; omega) (Hbw.out W (HOa.out.trans hW)) y (by omega))
        clear hc0 hc1 hba hOa Ha
        go_region_held3 (fun V => (V.cell? ⟨gr, 0, none⟩ = some (.int .i32 (x : Int)) ∧ V.cell? ⟨gr, 1, none⟩ = some (.int .i32 (y : Int))) ∧ Only [] Wa V)
          (first | exact ⟨KM.out _ ((Only.refl _ _).drew), (Only.refl _ _).drew⟩ | exact ⟨KM.out _ (by assumption), (by assumption)⟩ | fail)
          (first
            | (go_at_call 29
               obtain ⟨-, hF⟩ := (by assumption : _ ∧ Only [] Wa _)
               first
               | (refine (G1.out _ hF).mono ?_
                  rintro e w2 ⟨v2, rfl, hb2, hF1⟩
                  replace hF1 := hF.trans hF1
                  clear G1 hF)
               | (refine (G2.out _ _ hb2 hF).mono ?_
                  rintro e w3 ⟨v3, rfl, hb3, hF2⟩
                  replace hF2 := hF.trans hF2
                  clear G2 hF)))
        all_goals
          go_wp2_with (fail)
          go_roundw
          case rel =>
            refine ⟨k + 1, by go_num, by omega, hb3.of ?_, HOa5.out.trans hF2⟩
            rw [encs_take sEnc d k _ Hq.out]
            simp [sEnc]
          case measure => simp [intOf]; omega
      · obtain rfl : k = n4 := by omega
        go_wp2_with (fail)
        go_meet
        case rel =>
          refine ⟨hB.of ?_, hOr⟩
          rw [List.take_of_length_le (by have := Hn.out.2.2.2.2; omega)]
          rw [← HLC.out]
          unfold spB
          rw [← Hn.out.2.2.2.2, List.append_assoc]
  case rest =>
  obtain ⟨hB6, hO6⟩ := hcut
  obtain ⟨W8, rfl⟩ : ∃ z : World, z = wc := ⟨_, rfl⟩
  replace HBx := Lib.hid hB6
  replace HOx := Lib.hid hO6
  clear hB6 hO6
  go_wp2_with (fail)
  rw [rounds_succ]
  go_wp2_with (fail)
  obtain ⟨X, hX⟩ : ∃ z, z = bodyF ws ms a b d := ⟨_, rfl⟩
  have hXe : L2 ++ spB a ++ spB b ++ spB d = X := by
    rw [hX, HL2.out, HL1.out, HL0.out, Hn.out.1]
    unfold bodyF
    simp only [List.append_assoc]
  have hXl : X.length ≤ 1200000 := by rw [hX]; exact body_le hok
  have hB7 := HBx.out.of hXe
  have G4 := Lib.hid (sumB hB7 (by omega) (Hbw.out W8 (HO15.out.trans HOx.out)))
  have G5 := Lib.hid (fun W (hW : Only [] W8 W) => putB (hB7.only hW) (by omega) (Hbw.out W ((HO15.out.trans HOx.out).trans hW)) (sumN X) (sumN_lt X))
  have HX := Lib.hid hX
  clear hX hXe hXl hB7 ha hbb hd
  refine G4.out.mono ?_
  rintro e w8 ⟨rfl, hO8⟩
  go_wp2_with (fail)
  refine (G5.out w8 hO8).mono ?_
  rintro e w9 ⟨v9, rfl, hB9, hO9⟩
  have H9 := Lib.hid (And.intro hB9 (hO8.trans hO9))
  clear hB9 hO9 hO8 G4 G5
  go_wp2_with (fail)
  go_ret
  refine ⟨_, rfl, H9.out.1.of ?_, HO1.out.trans ((HO15.out.trans HOx.out).trans H9.out.2)⟩
  rw [HX.out]; rfl
end Go.Proofs.YtgohinklnglgeaaDoor
