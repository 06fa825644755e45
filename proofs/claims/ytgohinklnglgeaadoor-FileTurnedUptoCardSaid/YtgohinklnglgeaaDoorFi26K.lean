/- FileTurned (printed by gen_fi21.py). -/
import Derived.Test.YtgohinklnglgeaaDoorFi20K
import Derived.Test.YtgohinklnglgeaaDoorPk18
import Derived.Test.YtgohinklnglgeaaDoorPk11
import Derived.Test.YtgohinklnglgeaaDoorOctBK
import Derived.Deep.RegionHeld3
set_option linter.unusedVariables false
set_option linter.unusedSimpArgs false
namespace Go.Proofs.YtgohinklnglgeaaDoor
open Go.RowKit
attribute [local go_sem] Oper.semAt_some

theorem load_cut {X : List UInt8} (h : loadE X = none) {j : Nat} (hj : j < X.length) : ∃ a y, loadE (X.take j) = some (a, y) := by
  cases hE : loadE (X.take j) with
  | some x => exact ⟨x.1, x.2, rfl⟩
  | none =>
    have := load_prefix (f := X.take j) (r := X.drop j) hE (by rw [List.take_append_drop]; exact h)
    have := congrArg List.length this
    rw [List.length_drop] at this
    simp at this; omega
theorem loadRef_any (w : World) (A : Option Addr) (n c : Nat) (f : List UInt8) (hl : f.length = n) (hR : Rd w w.heap.size 1 A n (bvs f)) (hn : n ≤ 140737488351232) (hnc : n ≤ c) (hE : loadE f ≠ none) :
    Calls Tryd.prog 11 #[.slice A n c] w fun e w' => ∃ b, e = .returned (.tuple #[.pointer none, .iface 78 (.pointer (some ⟨b, 0, none⟩))]) ∧ Only [] w w' := by
  refine (load_any w A n c f hl hR hn hnc).mono ?_
  rintro e w' ⟨hO, ⟨a', y', b, hE', -, rfl, hB⟩ | ⟨hE', -⟩⟩
  · exact ⟨b, rfl, hO⟩
  · exact absurd hE' hE
theorem loadOk_any (w : World) (A : Option Addr) (n c : Nat) (f : List UInt8) (hl : f.length = n) (hR : Rd w w.heap.size 1 A n (bvs f)) (hn : n ≤ 140737488351232) (hnc : n ≤ c) (hE : loadE f = none) :
    Calls Tryd.prog 11 #[.slice A n c] w fun e w' => ∃ g, e = .returned (.tuple #[.pointer (some ⟨g, 0, none⟩), .nilIface]) ∧ Only [] w w' := by
  refine (load_any w A n c f hl hR hn hnc).mono ?_
  rintro e w' ⟨hO, ⟨a', y', b, hE', -⟩ | ⟨-, g, base, -, rfl, -⟩⟩
  · rw [hE] at hE'; cases hE'
  · exact ⟨g, rfl, hO⟩
set_option maxRecDepth 100000 in
set_option maxHeartbeats 16000000 in
theorem fileTurned_walk (w : World) (v0 v1 v2 v3 v4 : Value) (ws : List ByteArray) (ms : List Mg) (a b d : List Sp) (hR : Rd5 w v0 v1 v2 v3 v4 ws ms a b d)
    (s0 : ws.length ≤ 8796093021952) (s1 : ms.length ≤ 5864062014634) (s2 : a.length ≤ 17592186043904) (s3 : b.length ≤ 17592186043904) (s4 : d.length ≤ 17592186043904) (hws : ∀ s ∈ ws, s.size ≤ maxLen) (hms : ∀ m ∈ ms, m.ok) (Ab : Option Addr) (nb cb : Nat) (lb : List Int) (hlb : lb.length = nb) (hrb : Rd w w.heap.size 1 Ab nb (lb.map (Value.int .i64))) (hcb : nb ≤ cb) (hbb : cb ≤ 1048576) (hwb : ∀ x ∈ lb, (Lit.int .i64 x).wf = true) (A : Option Addr) (n c : Nat) (f : List UInt8) (hl : f.length = n) (hr : Rd w w.heap.size 1 A n (bvs f)) (hc : n ≤ c) (hbz : c ≤ 1048576) (hT : Tabs w) :
    Calls Tryd.prog 6 #[.agg #[v0, v1, v2, v3, v4], .slice Ab nb cb, .slice A n c] w fun e w' => e = .returned (.bool true) ∧ Only [] w w' := by
  have Hl := Lib.hid hl
  have Hr := Lib.hid hr
  have Hlb := Lib.hid hlb
  have Hrb := Lib.hid hrb
  have Hwb := Lib.hid (show ∀ x ∈ lb, -9223372036854775808 ≤ x ∧ x ≤ 9223372036854775807 from fun x hx => by simpa [Lit.wf, IntKind.min, IntKind.max, IntKind.signed, IntKind.bits] using hwb x hx)
  clear hl hr hlb hrb hwb
  obtain ⟨h, hh⟩ : ∃ h, h = w.heap.size := ⟨_, rfl⟩
  obtain ⟨W1, hW1⟩ : ∃ W1, W1 = w.alloc (.cells #[v0, v1, v2, v3, v4] 38) := ⟨_, rfl⟩
  have hb : Blk W1 h 38 [v0, v1, v2, v3, v4] := by rw [hW1]; exact Blk.new' _ _ _ hh.symm rfl
  have hO : Only [] w W1 := by rw [hW1]; exact (Only.refl _ _).alloc _
  have hR1 := hR.only hO
  have HR5 := Lib.hid hR1
  obtain ⟨⟨A0, c0, e0, -⟩, ⟨A1, c1, e1, -⟩, ⟨A2, c2, e2, -⟩, ⟨A3, c3, e3, -⟩, ⟨A4, c4, e4, -⟩⟩ := hR1
  obtain ⟨n0, hn0⟩ : ∃ n, n = ws.length := ⟨_, rfl⟩
  obtain ⟨n1, hn1⟩ : ∃ n, n = ms.length := ⟨_, rfl⟩
  obtain ⟨n2, hn2⟩ : ∃ n, n = a.length := ⟨_, rfl⟩
  obtain ⟨n3, hn3⟩ : ∃ n, n = b.length := ⟨_, rfl⟩
  obtain ⟨n4, hn4⟩ : ∃ n, n = d.length := ⟨_, rfl⟩
  rw [← hn0] at e0
  rw [← hn1] at e1
  rw [← hn2] at e2
  rw [← hn3] at e3
  rw [← hn4] at e4
  subst e0 e1 e2 e3 e4
  have kS : ∀ W, Only [] W1 W → (W.cell? ⟨h, 0, none⟩ = some (.slice A0 n0 c0) ∧ W.cell? ⟨h, 1, none⟩ = some (.slice A1 n1 c1) ∧ W.cell? ⟨h, 2, none⟩ = some (.slice A2 n2 c2) ∧ W.cell? ⟨h, 3, none⟩ = some (.slice A3 n3 c3) ∧ W.cell? ⟨h, 4, none⟩ = some (.slice A4 n4 c4)) := by
    intro W hw
    have k := hb.only hw (by simp)
    exact ⟨k.cell 0, k.cell 1, k.cell 2, k.cell 3, k.cell 4⟩
  have KS := Lib.hid kS
  have hof := ofM_any W1 _ _ _ _ _ ws ms a b d HR5.out (by omega) (by omega) s2 s3 s4 hws hms
  have Hof := Lib.hid hof
  have Hs := Lib.hid (And.intro s0 (And.intro s1 (And.intro s2 (And.intro s3 s4))))
  have Hh := Lib.hid hh
  have HW := Lib.hid hW1
  have HO := Lib.hid hO
  have HT := Lib.hid hT
  obtain ⟨k0, k1, k2, k3, k4⟩ := kS W1 (.refl _ _)
  clear hh hW1 hb hR kS hof hws hms hn0 hn1 hn2 hn3 hn4 s0 s1 s2 s3 s4 hO hT
  go_enter Tryd.func6, Tryd.ntmps6
  go_upto_region 1 with (fail)
  rw [← Hh.out, ← HW.out]
  go_wp2_with (fail)
  refine Hof.out.mono ?_
  intro e W2 hpost
  rcases hpost.no with ⟨rfl, hO2⟩ | ⟨g, base, rfl, hO2, hbase, hfa, hM, -⟩
  · have HO2 := Lib.hid hO2
    clear hpost k0 k1 k2 k3 k4 hO2
    go_wp2_with (fail)
    refine (known6_any W2 (HT.out.only (HO.out.trans HO2.out))).mono ?_
    rintro e W3 ⟨rfl, hO3⟩
    have HO3 := Lib.hid hO3
    clear hO3
    go_wp2_with (fail)
    go_ret
    exact ⟨rfl, HO.out.trans (HO2.out.trans HO3.out)⟩
  · have hok := fault_ok hfa
    have HO2 := Lib.hid (HO.out.trans hO2)
    have G1 := Lib.hid (save_any W2 base g ws ms a b d _ _ _ hM hok)
    obtain ⟨X, hX⟩ : ∃ X, X = saveF ws ms a b d := ⟨_, rfl⟩
    have hXl : X.length ≤ 1300000 := by rw [hX]; unfold saveF; rw [List.length_append, be4_length]; have := body_le hok; omega
    have hX32 : 24 ≤ X.length := by
      rw [hX]; unfold saveF bodyF spB; simp only [List.length_append, be4_length, List.length_cons, List.length_nil]; omega
    have hls := (load_save hfa (by rw [← hX]; omega)).1
    rw [← hX] at G1 hls
    obtain ⟨N, hN⟩ : ∃ N, N = X.length := ⟨_, rfl⟩
    have HN := Lib.hid hN
    have hN1 : N ≤ 1300000 := by omega
    have hN32 : 32 ≤ N := by
      rw [hN, hX]; unfold saveF bodyF spB; simp only [List.length_append, be4_length, List.length_cons, List.length_nil]
      have hd0 : a.length + b.length + d.length ≠ 0 := by
        intro h0
        have ha : a = [] := List.eq_nil_of_length_eq_zero (by omega)
        have hb' : b = [] := List.eq_nil_of_length_eq_zero (by omega)
        have hd' : d = [] := List.eq_nil_of_length_eq_zero (by omega)
        subst ha hb' hd'
        unfold faultW at hfa
        split at hfa; · cases hfa
        split at hfa; · cases hfa
        split at hfa
        · rename_i h3; exact h3 hfa
        · rename_i h3; exact h3 (by decide)
      have e8 : ∀ l : List Sp, (encs sEnc l).length = l.length * 8 := by
        intro l; induction l with
        | nil => rfl
        | cons x l ih => simp only [encs, List.flatMap_cons, List.length_append, List.length_cons, sEnc_length] at ih ⊢; omega
      rw [e8, e8, e8]; omega
    have Hls := Lib.hid hls
    clear hpost k0 k1 k2 k3 k4 hM hok hfa hbase hO2 hX hXl hls hX32 hN
    go_wp2_with (fail)
    refine G1.out.mono ?_
    rintro e W3 ⟨u1, rfl, hB1, hO3⟩
    unfold BRow at hB1
    rw [← HN.out] at hB1
    obtain ⟨Au, cu, rfl, hcu, hRu, -⟩ := own_slice hB1
    have HO3 := Lib.hid (HO2.out.trans hO3)
    have HRu := Lib.hid (show ∀ W, Only [] W3 W → Rd W W.heap.size 1 Au N (bvs X) from fun W hW => (hRu.only hW (by simp)).more hW.size)
    have hlt32 : ¬ (N : Int) < 32 := by omega
    clear hB1 hO3 hRu G1
    go_upto_block 0 with (fail)
    go_cut [] (fun wx => Only [] W3 wx)
    case first =>
      go_wp2_with (fail)
      go_loopw [11] (fun vi wr => ∃ i : Nat, vi = .int .i64 (i : Int) ∧ i ≤ nb ∧ i ≤ 10 ∧ Only [] W3 wr) (fun vi _ => 10 - (intOf vi).toNat)
      case atStart => exact ⟨0, rfl, by omega, by omega, .refl _ _⟩
      case round =>
        obtain ⟨i, rfl, hi1, hi2, hO⟩ := hrel
        by_cases hlt1 : i < nb
        · by_cases hlt2 : i < 10
          · obtain ⟨q, hq⟩ : ∃ q, lb[i]? = some q := ⟨_, List.getElem?_eq_getElem (by rw [Hlb.out]; exact hlt1)⟩
            have hqb := Hwb.out q (List.mem_of_getElem? hq)
            obtain ⟨gq, oq, uq, rfl, -, huq, hcq⟩ := (Hrb.out.only (HO3.out.trans hO) (by simp)).at1 (k := i) hlt1
            obtain rfl : uq = .int .i64 q := by rw [List.getElem?_map, hq] at huq; simpa using huq.symm
            obtain ⟨k0, hk0, hk1⟩ : ∃ k0 : Nat, within q 0 (8 * (N : Int) - 1) = (k0 : Int) ∧ k0 < 8 * N := by
              have := within_bd q 0 (8 * (N : Int) - 1) (by omega)
              exact ⟨(within q 0 (8 * (N : Int) - 1)).toNat, by omega, by omega⟩
            have Hk0 := Lib.hid hk0
            have hk8 : k0 / 8 < N := by omega
            have HO := Lib.hid hO
            obtain ⟨vX, wX, hr1, hoX, hOX, -, -⟩ := run_append_row (P := Tryd.prog) (w := wr.alloc (.cells #[] 5)) wr.heap.size 22 22 5 (.int .u8 0) 1 1 Tryd.underlying22 byteInfo' rfl (by omega)
              (own_empty wr wr.heap.size 5 1 rfl (Nat.le_refl _)) cu ((HRu.out wr hO).alloc _) (bvs_one _) (by simp only [maxLen]; omega) (by omega) (by simp)
            simp only [Nat.zero_add, List.nil_append] at hoX
            have hOrX : Only [] wr wX := (((Only.refl [] wr).alloc _).trans' hOX (by simp [Value.ownBlock]))
            obtain ⟨gX, cX, spX, rfl, hgX, hbX, hspl, hcX, -⟩ := own_shape hoX (by omega)
            obtain ⟨bb, hbb'⟩ : ∃ bb, X[k0 / 8]? = some bb := ⟨_, List.getElem?_eq_getElem (by rw [← HN.out]; exact hk8)⟩
            have k31 : wX.cell? ⟨gX, k0 / 8, none⟩ = some (.int .u8 (bb.toNat : Int)) := by rw [hbX.cell, List.getElem?_append_left (by rw [bvs_length, ← HN.out]; exact hk8), bvs_get?, hbb']; rfl
            have f31 : wX.frozen? ⟨gX, k0 / 8, none⟩ = false := hbX.frozen _
            have hxor := Lib.hid (burst_bits 0 0 k0 bb (by omega)).2
            have Hr1 := Lib.hid hr1
            have HbX := Lib.hid hbX
            have HOrX := Lib.hid hOrX
            have Hg5 := Lib.hid (And.intro hgX hcX)
            have Hbb := Lib.hid hbb'
            have hw1 : IntKind.i64.wrap (8 * (N : Int)) = 8 * (N : Int) := IntWalk.i64_in _ (by omega)
            have hw2 : IntKind.i64.wrap (8 * (N : Int) - 1) = 8 * (N : Int) - 1 := IntWalk.i64_in _ (by omega)
            clear hr1 hoX hOX hbX hOrX hspl hgX hcX hq huq hk0 hbb' hO
            go_wp2_with (fail)
            refine (within_any q 0 (8 * (N : Int) - 1) _ hqb (by omega) (by omega) (by omega)).mono ?_
            rintro e w0 ⟨rfl, rfl⟩
            rw [Hk0.out]
            clear hcq hqb
            go_wp2_with (at_builtin; refine wpList_append_run (o := ⟨some 58, _, _, _, _, _⟩) (by rfl) (.tmp 56) (.tmp 57) 22 22 (by rfl) (by rfl) (by rfl) Hr1.out ?_)
            rw [hxor.out]
            refine name_it (p := fun y => Calls _ _ _ y _) ?_
            intro W6 H6
            have hb6 : Blk W6 gX 5 (bvs (flipB X k0) ++ spX) := by
              rw [H6.out]
              have := HbX.out.set (k0 / 8) (bv (bb ^^^ UInt8.ofNat (2 ^ (k0 % 8))))
              rw [List.set_append_left _ _ (by rw [bvs_length, ← HN.out]; exact hk8)] at this
              have e : (bvs X).set (k0 / 8) (bv (bb ^^^ UInt8.ofNat (2 ^ (k0 % 8)))) = bvs (flipB X k0) := by
                unfold flipB; rw [List.getD_eq_getElem?_getD, Hbb.out]; simp [bvs, List.map_set]
              rw [e] at this
              exact this
            have hO6 : Only [] wr W6 := by rw [H6.out]; exact HOrX.out.setCell (.inr Hg5.out.1) _
            have hlf : (flipB X k0).length = N := by rw [flipB_length, ← HN.out]
            have hR6 : Rd W6 W6.heap.size 1 (some ⟨gX, 0, none⟩) N (bvs (flipB X k0)) := by
              have := Rd.of_blk (B := W6.heap.size) (size := 1) (o := 0) (n := N) hb6 hb6.lt (by rw [List.length_append, bvs_length, hlf]; omega)
              rw [List.drop_zero, Nat.mul_one, List.take_append_of_le_length (by rw [bvs_length, hlf]; omega), List.take_of_length_le (by rw [bvs_length, hlf]; omega)] at this
              exact this
            have Hld := Lib.hid (loadRef_any W6 (some ⟨gX, 0, none⟩) N cX (flipB X k0) hlf hR6 (by omega) Hg5.out.2 (load_flip Hls.out k0 (by rw [← HN.out]; exact hk1)))
            have HO6 := Lib.hid (HO.out.trans hO6)
            clear H6 hb6 hO6 hR6 k31 f31 Hr1 hlf
            refine Hld.out.mono ?_
            rintro e w7 ⟨b5, rfl, hO7⟩
            have HO7 := Lib.hid (HO6.out.trans hO7)
            have hsl := run_slice_h (P := Tryd.prog) (A := Au) (n := N) (c := cu) (m := k0 / 8) (hi := (k0 : Int) / 8) Tryd.underlying22 (size := 1) (by kernel_rfl) (by omega) (by omega)
            have hRk : Rd w7 w7.heap.size 1 Au (k0 / 8) (bvs (X.take (k0 / 8))) := by have := (HRu.out w7 HO7.out).take (k := k0 / 8) (by omega); rwa [Nat.mul_one, bvs_take] at this
            obtain ⟨ya, yb, hyE⟩ := load_cut Hls.out (j := k0 / 8) (by rw [← HN.out]; exact hk8)
            have Hld2 := Lib.hid (loadRef_any w7 Au (k0 / 8) cu (X.take (k0 / 8)) (by rw [List.length_take, ← HN.out]; omega) hRk (by omega) (by omega) (by rw [hyE]; simp))
            have hne := refEq
            clear hO7 hRk hyE Hld
            go_wp2_with (fail)
            refine Hld2.out.mono ?_
            rintro e w8 ⟨b6, rfl, hO8⟩
            have HO8 := Lib.hid (HO7.out.trans hO8)
            clear hO8 hsl Hld2
            go_wp2_with (fail)
            go_roundw
            case rel => exact ⟨i + 1, by go_num, by omega, by omega, HO8.out⟩
            case measure => simp [intOf]; omega
          · go_wp2_with (fail)
            go_meet
            case rel => exact hO
        · go_wp2_with (fail)
          go_meet
          case rel => exact hO
    case rest =>
      have HOw := Lib.hid hcut
      clear hcut
      obtain ⟨vX, wX, hr1, hoX, hOX, -, -⟩ := run_append_row (P := Tryd.prog) (w := wc.alloc (.cells #[] 5)) wc.heap.size 22 22 5 (.int .u8 0) 1 1 Tryd.underlying22 byteInfo' rfl (by omega)
        (own_empty wc wc.heap.size 5 1 rfl (Nat.le_refl _)) cu ((HRu.out wc HOw.out).alloc _) (bvs_one _) (by simp only [maxLen]; omega) (by omega) (by simp)
      simp only [Nat.zero_add, List.nil_append] at hoX
      obtain ⟨Ax, cx, rfl, hcx, -, -⟩ := own_slice hoX
      have hO4X : Only [] wc wX := (((Only.refl [] wc).alloc _).trans' hOX (by simp [Value.ownBlock]))
      have hOwX := HO3.out.trans (HOw.out.trans hO4X)
      obtain ⟨vY, wY, hr2, hoY, hOY, -, -⟩ := run_append_row (P := Tryd.prog) (w := wX) wc.heap.size 22 22 5 (.int .u8 0) 1 1 Tryd.underlying22 byteInfo' rfl (by omega)
        hoX c (Hr.out.only hOwX (by simp)) (bvs_one _) (by simp only [maxLen]; omega) (by omega) (by have := hO4X.size; omega)
      rw [bvs_append] at hoY
      obtain ⟨Ay, cy, rfl, hcy, hRy, -⟩ := own_slice hoY
      have hO4Y : Only [] wc wY := hO4X.trans' hOY (by intro x hx; exact .inr (own_lt hoX (by simpa using hx)).1)
      have Hr1 := Lib.hid hr1
      have Hr2 := Lib.hid hr2
      have HOY := Lib.hid (HO3.out.trans (HOw.out.trans hO4Y))
      have hlY : (X ++ f).length = N + n := by rw [List.length_append, Hl.out, ← HN.out]
      by_cases hn0 : n = 0
      · have hf0 : f = [] := List.eq_nil_of_length_eq_zero (by rw [Hl.out]; exact hn0)
        have Hld := Lib.hid (loadOk_any wY Ay (N + n) cy (X ++ f) hlY hRy (by omega) hcy (by rw [hf0, List.append_nil]; exact Hls.out))
        have hne := nilEq
        have hz : ((n : Int) == 0) = true := by simp; exact hn0
        clear hr1 hoX hOX hO4X hOwX hr2 hoY hOY hRy hO4Y hlY hn0 hf0
        go_wp2_with (first
          | (at_builtin; refine wpList_append_run (o := ⟨some 92, _, _, _, _, _⟩) (by rfl) (.tmp 90) (.tmp 91) 22 22 (by rfl) (by rfl) (by rfl) Hr1.out ?_)
          | (at_builtin; refine wpList_append_run (o := ⟨some 94, _, _, _, _, _⟩) (by rfl) (.tmp 92) (.tmp 93) 22 22 (by rfl) (by rfl) (by rfl) Hr2.out ?_))
        refine Hld.out.mono ?_
        rintro e w5 ⟨g5, rfl, hO5⟩
        have HO5 := Lib.hid (HOY.out.trans hO5)
        clear hO5 Hr1 Hr2 Hld
        go_wp2_with (fail)
        refine (known6_any _ (HT.out.only HO5.out)).mono ?_
        rintro e w6 ⟨rfl, hO6⟩
        have HO6 := Lib.hid (HO5.out.trans hO6)
        clear hO6
        go_wp2_with (fail)
        go_ret
        exact ⟨rfl, HO6.out⟩
      · have Hld := Lib.hid (loadRef_any wY Ay (N + n) cy (X ++ f) hlY hRy (by omega) hcy (by
          intro hE
          have := load_prefix Hls.out hE
          have := congrArg List.length this
          rw [Hl.out] at this; exact hn0 this))
        have hne := refEq
        have hz : ((n : Int) == 0) = false := by simp; exact hn0
        clear hr1 hoX hOX hO4X hOwX hr2 hoY hOY hRy hO4Y hlY hn0
        go_wp2_with (first
          | (at_builtin; refine wpList_append_run (o := ⟨some 92, _, _, _, _, _⟩) (by rfl) (.tmp 90) (.tmp 91) 22 22 (by rfl) (by rfl) (by rfl) Hr1.out ?_)
          | (at_builtin; refine wpList_append_run (o := ⟨some 94, _, _, _, _, _⟩) (by rfl) (.tmp 92) (.tmp 93) 22 22 (by rfl) (by rfl) (by rfl) Hr2.out ?_))
        refine Hld.out.mono ?_
        rintro e w5 ⟨g5, rfl, hO5⟩
        have HO5 := Lib.hid (HOY.out.trans hO5)
        clear hO5 Hr1 Hr2 Hld
        go_wp2_with (fail)
        refine (known6_any _ (HT.out.only HO5.out)).mono ?_
        rintro e w6 ⟨rfl, hO6⟩
        have HO6 := Lib.hid (HO5.out.trans hO6)
        clear hO6
        go_wp2_with (fail)
        go_ret
        exact ⟨rfl, HO6.out⟩
end Go.Proofs.YtgohinklnglgeaaDoor
