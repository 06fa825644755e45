/- FileNumbers (printed by gen_fi24.py). -/
import Derived.Test.YtgohinklnglgeaaDoorFi20K
set_option linter.unusedVariables false
set_option linter.unusedSimpArgs false
namespace Go.Proofs.YtgohinklnglgeaaDoor
open Go.RowKit
attribute [local go_sem] Oper.semAt_some

theorem loadBad_any (w : World) (A : Option Addr) (n c : Nat) (f : List UInt8) (hl : f.length = n) (hR : Rd w w.heap.size 1 A n (bvs f)) (hn : n ≤ 140737488351232) (hnc : n ≤ c) (a y : Nat) (hE : loadE f = some (a, y)) :
    Calls Tryd.prog 11 #[.slice A n c] w fun e w' => ∃ b, e = .returned (.tuple #[.pointer none, .iface 78 (.pointer (some ⟨b, 0, none⟩))]) ∧ Blk w' b 80 [.int .i64 (a : Int), .int .i64 (y : Int)] ∧ Only [] w w' := by
  refine (load_any w A n c f hl hR hn hnc).mono ?_
  rintro e w' ⟨hO, ⟨a', y', b, hE', -, rfl, hB⟩ | ⟨hE', -⟩⟩
  · rw [hE] at hE'
    have ha : a' = a := by simpa using (congrArg (fun z => (z.getD (0,0)).1) hE').symm
    have hy : y' = y := by simpa using (congrArg (fun z => (z.getD (0,0)).2) hE').symm
    subst ha hy
    exact ⟨b, rfl, hB, hO⟩
  · rw [hE] at hE'; cases hE'
theorem lA : loadE [] = some (0, 11) := loadE_magic (by simp) (by decide)
theorem lB : loadE [66, 80] = some (2, 11) := loadE_magic (by simp) (by decide)
theorem lC : loadE (bareF.take 31) = some (31, 10) := by decide +kernel
theorem lD : loadE (bareF ++ [0]) = some (32, 13) := by decide +kernel
theorem lH (k : Nat) (hk : k = 4194305) : loadE (List.replicate k 0) = some (0, 3) := loadE_long (by rw [List.length_replicate, hk]; omega)
theorem bareF_31 : bareF[31]? = some 138 := by decide +kernel
theorem lE' : loadE (bareF.set 31 139) = some (28, 12) := by decide +kernel
theorem xor139 : bits .xor .u8 138 1 = 139 := by kernel_rfl
set_option maxRecDepth 100000 in
set_option maxHeartbeats 16000000 in
theorem fileNumbers_walk (w : World) (hT : Tabs w) : Calls Tryd.prog 3 #[] w fun e w' => e = .returned (.bool true) ∧ Only [] w w' := by
  have kc := fun (w : World) (C : Array Value) (n c : Nat) => Lib.run_convert_bytes_const (P := Tryd.prog) w 22 5 C n c Tryd.underlying22 Tryd.underlying5
  obtain ⟨ob, hob⟩ : ∃ ob, ob = Obj.cells (List.replicate 4194305 (Value.int .u8 0)).toArray 5 := ⟨_, rfl⟩
  have hmk : ∀ W : World, (Instr.makeSlice 22 (.int .i64 4194305) (.int .i64 4194305)).run Tryd.prog W = .ok (.slice (some ⟨W.heap.size, 0, none⟩) 4194305 4194305) (W.alloc ob) := fun W => by
    rw [hob]; exact run_make_rep1 22 5 (.int .u8 0) 1 Tryd.underlying22 byteInfo' rfl .i64 .i64 4194305 4194305 (by omega) (by omega) (by omega) W
  have Hob := Lib.hid hob
  have HT := Lib.hid hT
  have hx := xor139
  clear hT hob
  go_enter Tryd.func3, Tryd.ntmps3
  go_wp2_with (fail)
  refine (fiBare_any w).mono ?_
  rintro e w1 ⟨v, rfl, hB, hO1⟩
  have hlen := bareF_length
  unfold BRow at hB
  rw [hlen] at hB
  obtain ⟨A, c, rfl, hc, hR, -⟩ := own_slice hB
  have HRf := Lib.hid (show ∀ W, Only [] w1 W → Rd W W.heap.size 1 A 32 (bvs bareF) from fun W hW => (hR.only hW (by simp)).more hW.size)
  have hsl := run_slice_h (P := Tryd.prog) (A := A) (n := 32) (c := c) (m := 31) (hi := (31 : Int)) Tryd.underlying22 (size := 1) (by kernel_rfl) rfl (by omega)
  have HO1 := Lib.hid hO1
  have Hlen := Lib.hid hlen
  clear hB hR hO1 hlen
  go_wp2_with (fail)
  refine (saveNil_any w1).mono ?_
  rintro e w1' ⟨rfl, rfl⟩
  go_wp2_with (fail)
  refine (loadBad_any w1 none 0 0 [] rfl (Rd.zero _ _ _ _) (by omega) (by omega) 0 11 lA).mono ?_
  rintro e w2 ⟨b1, rfl, hb1, hO2⟩
  have Hb1 := Lib.hid hb1
  have HO12 := Lib.hid hO2
  have Hld := Lib.hid (fun m => loadBad_any (w2.alloc (.cells #[.int .u8 66, .int .u8 80] 5 m)) (some ⟨w2.heap.size, 0, none⟩) 2 2 [66, 80] rfl (by exact rd_lit w2 5 [66, 80] m _ rfl _ rfl _ (by simp)) (by omega) (by omega) 2 11 lB)
  clear hb1 hO2
  go_wp2_with (fail)
  refine (Hld.out _).mono ?_
  rintro e w3 ⟨b2, rfl, hb2, hO3⟩
  have hO23 : Only [] w2 w3 := ((Only.refl [] w2).alloc _).trans hO3
  have Hb2 := Lib.hid hb2
  have HO23 := Lib.hid hO23
  have HO13 := Lib.hid (HO12.out.trans hO23)
  clear kc Hld hb2 hO3 hO23
  have hR31 : Rd w3 w3.heap.size 1 A 31 (bvs (bareF.take 31)) := by have := (HRf.out w3 HO13.out).take (k := 31) (by omega); rwa [Nat.mul_one, bvs_take] at this
  have Hld := Lib.hid (loadBad_any w3 A 31 c (bareF.take 31) (by rw [List.length_take, Hlen.out]; rfl) hR31 (by omega) (by omega) 31 10 lC)
  clear hR31
  go_wp2_with (fail)
  refine Hld.out.mono ?_
  rintro e w4 ⟨b3, rfl, hb3, hO4⟩
  have Hb3 := Lib.hid hb3
  have HO34 := Lib.hid hO4
  have HO14 := Lib.hid (HO13.out.trans hO4)
  clear Hld hb3 hO4 hsl
  -- append(append([]byte{}, f...), 0)
  obtain ⟨vX, wX, hr1, hoX, hOX, -, -⟩ := run_append_row (P := Tryd.prog) (w := w4.alloc (.cells #[] 5)) w4.heap.size 22 22 5 (.int .u8 0) 1 1 Tryd.underlying22 byteInfo' rfl (by omega)
    (own_empty w4 w4.heap.size 5 1 rfl (Nat.le_refl _)) c ((HRf.out w4 HO14.out).alloc _) (bvs_one _) (by simp only [maxLen]; omega) (by omega) (by simp)
  simp only [Nat.zero_add, List.nil_append] at hoX
  obtain ⟨Ax, cx, rfl, hcx, -, hAx⟩ := own_slice hoX
  have hO4X : Only [] w4 wX := (((Only.refl [] w4).alloc _).trans' hOX (by simp [Value.ownBlock]))
  have hzX : w4.heap.size ≤ wX.heap.size := hO4X.size
  have hlit : Blk (wX.alloc (.cells #[.int .u8 0] 5)) wX.heap.size 5 (bvs [0]) := Blk.new' _ _ _ rfl rfl
  obtain ⟨vY, wY, hr2, hoY, hOY, -, -⟩ := run_append_row (P := Tryd.prog) (w := wX.alloc (.cells #[.int .u8 0] 5)) w4.heap.size 22 22 5 (.int .u8 0) 1 1 Tryd.underlying22 byteInfo' rfl (by omega)
    (own_only hoX ((Only.refl [] wX).alloc _) (by simp)) 1 (Rd.whole (n := 1) hlit rfl) (bvs_one _) (by simp only [maxLen]; omega) (by omega) (by simp; omega)
  rw [bvs_append] at hoY
  obtain ⟨Ay, cy, rfl, hcy, hRy, -⟩ := own_slice hoY
  have hO4Y : Only [] w4 wY := (hO4X.alloc _).trans' hOY (by intro x hx; exact .inr (own_lt hoX (by simpa using hx)).1)
  have Hr1 := Lib.hid hr1
  have Hr2 := Lib.hid hr2
  have HO4Y := Lib.hid hO4Y
  have HO1Y := Lib.hid (HO14.out.trans hO4Y)
  have Hld := Lib.hid (loadBad_any wY Ay 33 cy (bareF ++ [0]) (by rw [List.length_append, Hlen.out]; rfl) hRy (by omega) hcy 32 13 lD)
  clear hr1 hoX hOX hAx hO4X hzX hlit hr2 hoY hOY hRy hO4Y
  go_wp2_with (first
    | (at_builtin; refine wpList_append_run (o := ⟨some 43, _, _, _, _, _⟩) (by rfl) (.tmp 41) (.tmp 42) 22 22 (by rfl) (by rfl) (by rfl) Hr1.out ?_)
    | (at_builtin; refine wpList_append_run (o := ⟨some 45, _, _, _, _, _⟩) (by rfl) (.tmp 43) (.tmp 44) 22 22 (by rfl) (by rfl) (by rfl) Hr2.out ?_))
  refine Hld.out.mono ?_
  rintro e w5 ⟨b4, rfl, hb4, hO5⟩
  have Hb4 := Lib.hid hb4
  have HO45 := Lib.hid (HO4Y.out.trans hO5)
  have HO15 := Lib.hid (HO1Y.out.trans hO5)
  clear Hld hb4 hO5 Hr1 Hr2
  -- append([]byte{}, f...), one byte turned
  obtain ⟨vX, wX, hr1, hoX, hOX, -, -⟩ := run_append_row (P := Tryd.prog) (w := w5.alloc (.cells #[] 5)) w5.heap.size 22 22 5 (.int .u8 0) 1 1 Tryd.underlying22 byteInfo' rfl (by omega)
    (own_empty w5 w5.heap.size 5 1 rfl (Nat.le_refl _)) c ((HRf.out w5 HO15.out).alloc _) (bvs_one _) (by simp only [maxLen]; omega) (by omega) (by simp)
  simp only [Nat.zero_add, List.nil_append] at hoX
  have hO5X : Only [] w5 wX := (((Only.refl [] w5).alloc _).trans' hOX (by simp [Value.ownBlock]))
  obtain ⟨gX, cX, spX, rfl, hgX, hbX, hspl, hcX, -⟩ := own_shape hoX (by omega)
  have k31 : wX.cell? ⟨gX, 31, none⟩ = some (.int .u8 138) := by rw [hbX.cell 31, List.getElem?_append_left (by rw [bvs_length, Hlen.out]; omega), bvs_get?, bareF_31]; rfl
  have f31 : wX.frozen? ⟨gX, 31, none⟩ = false := hbX.frozen 31
  have hcX' : (31 : Int) < (32 : Int) := by omega
  have Hr1 := Lib.hid hr1
  have HbX := Lib.hid hbX
  have HO5X := Lib.hid hO5X
  have Hg5 := Lib.hid (And.intro hgX hcX)
  clear hr1 hoX hOX hbX hO5X hspl hgX hcX
  go_wp2_with (at_builtin; refine wpList_append_run (o := ⟨some 51, _, _, _, _, _⟩) (by rfl) (.tmp 49) (.tmp 50) 22 22 (by rfl) (by rfl) (by rfl) Hr1.out ?_)
  refine name_it (p := fun y => Calls _ _ _ y _) ?_
  intro W6 H6
  have hb6 : Blk W6 gX 5 (bvs (bareF.set 31 139) ++ spX) := by
    rw [H6.out]
    have := HbX.out.set 31 (.int .u8 139)
    rw [List.set_append_left _ _ (by rw [bvs_length, Hlen.out]; omega)] at this
    have e : (bvs bareF).set 31 (.int .u8 139) = bvs (bareF.set 31 139) := by simp [bvs, bv]
    rwa [e] at this
  have hO6 : Only [] w5 W6 := by rw [H6.out]; exact HO5X.out.setCell (.inr Hg5.out.1) _
  have hR6 : Rd W6 W6.heap.size 1 (some ⟨gX, 0, none⟩) 32 (bvs (bareF.set 31 139)) := by
    have := Rd.of_blk (B := W6.heap.size) (size := 1) (o := 0) (n := 32) hb6 hb6.lt (by rw [List.length_append, bvs_length, List.length_set, Hlen.out]; omega)
    rw [List.drop_zero, List.take_append_of_le_length (by rw [bvs_length, List.length_set, Hlen.out]; omega), List.take_of_length_le (by rw [bvs_length, List.length_set, Hlen.out]; omega)] at this
    exact this
  have Hld := Lib.hid (loadBad_any W6 (some ⟨gX, 0, none⟩) 32 cX (bareF.set 31 139) (by rw [List.length_set, Hlen.out]) hR6 (by omega) Hg5.out.2 28 12 lE')
  have HO56 := Lib.hid hO6
  clear H6 hb6 hO6 hR6 k31 f31 Hr1
  refine Hld.out.mono ?_
  rintro e w7 ⟨b5, rfl, hb5, hO7⟩
  have Hb5 := Lib.hid hb5
  have HO57 := Lib.hid (HO56.out.trans hO7)
  have HO17 := Lib.hid (HO15.out.trans (HO56.out.trans hO7))
  have hbo : Blk (w7.alloc ob) w7.heap.size 5 (bvs (List.replicate 4194305 0)) := by
    rw [Hob.out]; exact Blk.new' _ _ _ rfl (by rw [bvs_replicate]; rfl)
  have Hld := Lib.hid (loadBad_any (w7.alloc ob) (some ⟨w7.heap.size, 0, none⟩) 4194305 4194305 (List.replicate 4194305 0) (by rw [List.length_replicate]) ((Rd.whole hbo (by rw [bvs_length, List.length_replicate])).more (by simp)) (by omega) (by omega) 0 3 (lH _ rfl))
  clear hb5 hO7 hbo
  go_wp2_with (fail)
  refine Hld.out.mono ?_
  rintro e w8 ⟨b6, rfl, hb6, hO8⟩
  have HO78 := Lib.hid (((Only.refl [] w7).alloc ob).trans hO8)
  have HO8 := Lib.hid (HO1.out.trans (HO17.out.trans (((Only.refl [] w7).alloc ob).trans hO8)))
  have q5 := HO57.out
  have q4 := HO45.out
  have q3 := HO34.out
  have q2 := HO23.out
  have q78 := HO78.out
  have G1 := Lib.hid (fun W (hW : Only [] w8 W) => refused_some b1 0 11 (by omega) (by omega) (by omega) W (Hb1.out.only ((((q2.trans q3).trans q4).trans q5).trans (q78.trans hW)) (by simp)) (fun V hV => HT.out.only ((HO8.out.trans hW).trans hV)))
  have G2 := Lib.hid (fun W (hW : Only [] w8 W) => refused_some b2 2 11 (by omega) (by omega) (by omega) W (Hb2.out.only (((q3.trans q4).trans q5).trans (q78.trans hW)) (by simp)) (fun V hV => HT.out.only ((HO8.out.trans hW).trans hV)))
  have G3 := Lib.hid (fun W (hW : Only [] w8 W) => refused_some b3 31 10 (by omega) (by omega) (by omega) W (Hb3.out.only ((q4.trans q5).trans (q78.trans hW)) (by simp)) (fun V hV => HT.out.only ((HO8.out.trans hW).trans hV)))
  have G4 := Lib.hid (fun W (hW : Only [] w8 W) => refused_some b4 32 13 (by omega) (by omega) (by omega) W (Hb4.out.only (q5.trans (q78.trans hW)) (by simp)) (fun V hV => HT.out.only ((HO8.out.trans hW).trans hV)))
  have G5 := Lib.hid (fun W (hW : Only [] w8 W) => refused_some b5 28 12 (by omega) (by omega) (by omega) W (Hb5.out.only (q78.trans hW) (by simp)) (fun V hV => HT.out.only ((HO8.out.trans hW).trans hV)))
  have G6 := Lib.hid (fun W (hW : Only [] w8 W) => refused_some b6 0 3 (by omega) (by omega) (by omega) W (hb6.only hW (by simp)) (fun V hV => HT.out.only ((HO8.out.trans hW).trans hV)))
  clear q2 q3 q4 q5 q78 hb6 hO8 Hld hmk hx
  go_wp2_with (fail)
  refine (G1.out w8 (.refl _ _)).mono ?_
  rintro e x1 ⟨rfl, o1⟩
  go_wp2_with (fail)
  refine (G2.out x1 o1).mono ?_
  rintro e x2 ⟨rfl, o2⟩
  replace o2 := o1.trans o2
  clear o1
  go_wp2_with (fail)
  refine (G3.out x2 o2).mono ?_
  rintro e x3 ⟨rfl, o3⟩
  replace o3 := o2.trans o3
  clear o2
  go_wp2_with (fail)
  refine (G4.out x3 o3).mono ?_
  rintro e x4 ⟨rfl, o4⟩
  replace o4 := o3.trans o4
  clear o3
  go_wp2_with (fail)
  refine (G5.out x4 o4).mono ?_
  rintro e x5 ⟨rfl, o5⟩
  replace o5 := o4.trans o5
  clear o4
  go_wp2_with (fail)
  refine (G6.out x5 o5).mono ?_
  rintro e x6 ⟨rfl, o6⟩
  replace o6 := o5.trans o6
  clear o5
  go_wp2_with (fail)
  refine (known6_any x6 (HT.out.only (HO8.out.trans o6))).mono ?_
  rintro e x7 ⟨rfl, o7⟩
  replace o7 := o6.trans o7
  clear o6
  go_wp2_with (fail)
  go_ret
  exact ⟨rfl, HO8.out.trans o7⟩
end Go.Proofs.YtgohinklnglgeaaDoor
