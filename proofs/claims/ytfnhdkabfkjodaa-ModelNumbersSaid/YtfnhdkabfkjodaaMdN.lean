/- ModelNumbers. -/
import Derived.Test.YtfnhdkabfkjodaaMdN0
import Derived.Test.YtfnhdkabfkjodaaMgBk
set_option linter.unusedVariables false
set_option linter.unusedSimpArgs false
namespace Go.Proofs.Ytfnhdkabfkjodaa
open Go.RowKit

def abM : Mg := ⟨97, 98, 256⟩
def abcM : Mg := ⟨256, 99, 257⟩
theorem small_size {ws : List ByteArray} (h : (ws.all fun s => decide (s.size ≤ 300)) = true) : ∀ s ∈ ws, s.size ≤ maxLen := by
  intro s hs
  have := of_decide_eq_true (List.all_eq_true.1 h s hs)
  unfold maxLen; omega
theorem small_ok {ms : List Mg} (h : (ms.all fun m => decide ((-1000 ≤ m.l ∧ m.l ≤ 1000) ∧ (-1000 ≤ m.r ∧ m.r ≤ 1000) ∧ (-1000 ≤ m.id ∧ m.id ≤ 1000))) = true) : ∀ m ∈ ms, m.ok := by
  intro m hm
  have := of_decide_eq_true (List.all_eq_true.1 h m hm)
  unfold Mg.ok i64ok; omega
theorem long_fault {s : ByteArray} (hs : s.size = 257) : faultW [s] [abM] [] [] blank1 = (21, 4, 0) := by
  have hc : checkW [] [] blank1 = (0, 0, 0) := by decide
  have hw : wordsAt [] 0 [s] = (0, 21) := by rw [wordsAt, if_pos (.inr (by omega))]
  unfold faultW
  rw [if_neg (by simp), if_neg (by simp), if_neg (by rw [hc]; simp), if_pos (by rw [hw]; simp), hw]
theorem many_fault : faultW [] (List.replicate 4097 ⟨0, 0, 0⟩) [] [] blank1 = (4, 5, 4096) := by
  unfold faultW
  rw [if_pos (by rw [List.length_replicate]; omega)]

theorem agg3 (x y z : Nat) : faultV (x, y, z) = .agg #[.int .i64 (x : Int), .int .i64 (y : Int), .int .i64 (z : Int)] := rfl
set_option maxRecDepth 100000 in
set_option maxHeartbeats 16000000 in
theorem modelNumbers_walk (w : World) : Calls Try.prog 8 #[] w fun e w' => e = .returned (.bool true) ∧ Only [] w w' := by
  have hmk1 : ∀ W, (Instr.makeSlice 80 (.int .i64 257) (.int .i64 257)).run Try.prog W = _ := fun W =>
    run_make_rep (P := Try.prog) 80 5 (.int .u8 0) 1 1 (by kernel_rfl) (by kernel_rfl) rfl (by omega) .i64 .i64 257 257 (Nat.le_refl _) (by omega) (by omega) W
  have hbl : Blk (w.alloc (.cells (rep 257 [.int .u8 0]).toArray 5)) w.heap.size 5 (bvs (List.replicate 257 0)) := Blk.new' _ _ _ rfl (by rw [bvs_replicate]; rfl)
  have hcv := run_string_rd (P := Try.prog) 80 9 5 (by kernel_rfl) (by kernel_rfl) (by kernel_rfl) 257 (Rd.whole (t := 5) (n := 257) (size := 1) hbl (by rw [bvs_length, List.length_replicate]))
  obtain ⟨S, hS⟩ : ∃ S, S = str (List.replicate 257 0) := ⟨_, rfl⟩
  have hSz : S.size = 257 := by rw [hS, str_size, List.length_replicate]
  rw [← hS] at hcv
  have HSz := Lib.hid hSz
  obtain ⟨W1, hW1⟩ : ∃ W1, W1 = w.alloc (.cells (rep 257 [.int .u8 0]).toArray 5) := ⟨_, rfl⟩
  have hO1 : Only [] w W1 := by rw [hW1]; exact (Only.refl _ _).alloc _
  have HO1 := Lib.hid hO1
  have HW1 := Lib.hid hW1
  clear hbl hS hSz hO1 hW1
  go_enter Try.func8, Try.ntmps8
  go_upto_region 2 with (fail)
  rw [← HW1.out]
  clear hmk1 hcv
  obtain ⟨q, hq⟩ : ∃ q, q = W1.heap.size := ⟨_, rfl⟩
  obtain ⟨W2, hW2⟩ : ∃ W2, W2 = W1.alloc (.cells #[.int .i32 32, .int .i32 32] 67) := ⟨_, rfl⟩
  have hs : Blk W2 q 67 (ses blank1) := by rw [hW2]; exact Blk.new' _ _ _ hq.symm rfl
  have hO12 : Only [] W1 W2 := by rw [hW2]; exact (Only.refl _ _).alloc _
  have hbare := bare_any W2 none none (some ⟨q, 0, none⟩) 0 0 1 [] [] blank1 (Nat.le_refl _) (Nat.le_refl _) (Nat.le_refl _) (Rd.zero _ _ _ _) (Rd.zero _ _ _ _) ((Rd.whole (t := 67) hs rfl).more hs.lt) (by simp) (by simp) (by decide)
  unfold NewPost at hbare
  rw [show faultW [] [] [] [] blank1 = (0, 0, 0) by decide] at hbare
  have Hbare := Lib.hid hbare
  have HW2 := Lib.hid hW2
  have Hq := Lib.hid hq
  have HO2 := Lib.hid (HO1.out.trans hO12)
  clear hs hbare hW2 hq hO12
  go_wp2_with (fail)
  rw [← Hq.out, ← HW2.out]
  refine Hbare.out.mono ?_
  rintro e W3 ⟨v, rfl, hO3, ⟨-, g, base, hbase, rfl, hM⟩ | ⟨h0, -⟩⟩
  rotate_left
  · exact absurd rfl h0
  have HM := Lib.hid hM
  have HO3 := Lib.hid (HO2.out.trans hO3)
  clear hM hO3 hbase Hbare
  obtain ⟨x, hx⟩ : ∃ x, x = W3.heap.size := ⟨_, rfl⟩
  obtain ⟨W4, hW4⟩ : ∃ W4, W4 = W3.alloc (.cells #[.int .i64 0, .int .i64 0, .int .i64 0] 41) := ⟨_, rfl⟩
  have bx : Blk W4 x 41 [.int .i64 0, .int .i64 0, .int .i64 0] := by rw [hW4]; exact Blk.new' _ _ _ hx.symm rfl
  have hO34 : Only [] W3 W4 := by rw [hW4]; exact (Only.refl _ _).alloc _
  have x0 : W4.cell? ⟨x, 0, none⟩ = some (.int .i64 0) := bx.cell 0
  have x1 : W4.cell? ⟨x, 1, none⟩ = some (.int .i64 0) := bx.cell 1
  have x2 : W4.cell? ⟨x, 2, none⟩ = some (.int .i64 0) := bx.cell 2
  have hM4 := HM.out.only0 hO34
  have HM4 := Lib.hid hM4
  have HO4 := Lib.hid (HO3.out.trans hO34)
  have HW4 := Lib.hid hW4
  have Hx := Lib.hid hx
  clear bx hW4 hx hM4 hO34
  go_upto_region 3 with (fail)
  rw [← Hx.out, ← HW4.out]
  go_wp2_with (fail)
  refine (size_any W4 base g _ _ _ _ _ _ _ _ HM4.out).mono ?_
  rintro e w5 ⟨rfl, rfl⟩
  rw [show ((256 + ([] : List ByteArray).length : Nat) : Int) = 256 by decide]
  go_wp2_with (fail)
  refine (longest_any W4 base g _ _ _ _ _ _ _ _ HM4.out).mono ?_
  rintro e w5 ⟨rfl, rfl⟩
  rw [show ((lgF [] : Nat) : Int) = 1 by decide]
  go_wp2_with (fail)
  refine (word_any W4 base g _ _ _ _ _ _ _ _ HM4.out 256 (by unfold i64ok; omega)).mono ?_
  rintro e W5 ⟨rfl, hO5⟩
  rw [show isWord [] 256 = false by decide]
  go_wp2_with (fail)
  refine (word_any W5 base g _ _ _ _ _ _ _ _ (HM4.out.only0 hO5) (-1) (by unfold i64ok; omega)).mono ?_
  rintro e W6 ⟨rfl, hO6⟩
  rw [show isWord [] (-1) = false by decide]
  have HO6 := Lib.hid ((HO4.out.trans hO5).trans hO6)
  have hbare := bare_any W6 none none none 0 0 0 [] [] [] (Nat.le_refl _) (Nat.le_refl _) (Nat.le_refl _) (Rd.zero _ _ _ _) (Rd.zero _ _ _ _) (Rd.zero _ _ _ _) (by simp) (by simp) (by simp)
  unfold NewPost at hbare
  rw [show faultW [] [] [] [] [] = (20, 3, 0) by decide] at hbare
  have Hbare := Lib.hid hbare
  clear hbare hO5 hO6 x0 x1 x2
  go_wp2_with (fail)
  refine Hbare.out.mono ?_
  rintro e W7 ⟨v, rfl, hO7, ⟨h0, -⟩ | ⟨-, rfl⟩⟩
  · exact absurd h0 (by decide)
  have HO7 := Lib.hid (HO6.out.trans hO7)
  clear hO7 Hbare
  obtain ⟨x, hx⟩ : ∃ x, x = W7.heap.size := ⟨_, rfl⟩
  obtain ⟨W8, hW8⟩ : ∃ W8, W8 = W7.alloc (.cells #[.int .i64 20, .int .i64 3, .int .i64 0] 41) := ⟨_, rfl⟩
  have bx : Blk W8 x 41 [.int .i64 20, .int .i64 3, .int .i64 0] := by rw [hW8]; exact Blk.new' _ _ _ hx.symm rfl
  have hO78 : Only [] W7 W8 := by rw [hW8]; exact (Only.refl _ _).alloc _
  have x0 : W8.cell? ⟨x, 0, none⟩ = some (.int .i64 20) := bx.cell 0
  have x1 : W8.cell? ⟨x, 1, none⟩ = some (.int .i64 3) := bx.cell 1
  have x2 : W8.cell? ⟨x, 2, none⟩ = some (.int .i64 0) := bx.cell 2
  have HO8 := Lib.hid (HO7.out.trans hO78)
  have HW8 := Lib.hid hW8
  have Hx := Lib.hid hx
  clear bx hW8 hx hO78
  go_upto_region 8 with (fail)
  rw [← Hx.out, ← HW8.out]
  obtain ⟨p, hp⟩ : ∃ p, p = W8.heap.size := ⟨_, rfl⟩
  obtain ⟨W9, hW9⟩ : ∃ W9, W9 = (W8.alloc (.cells #[.int .i64 97, .int .i64 98, .int .i64 256] 38)).alloc (.cells #[.int .i64 256, .int .i64 99, .int .i64 257] 38) := ⟨_, rfl⟩
  have b1 : Blk W9 p 38 [.int .i64 97, .int .i64 98, .int .i64 256] := by rw [hW9]; exact (Blk.new' _ _ _ hp.symm rfl).alloc _
  have b2 : Blk W9 (p + 1) 38 [.int .i64 256, .int .i64 99, .int .i64 257] := by rw [hW9]; exact Blk.new' _ _ _ (by simp; omega) rfl
  have hO89 : Only [] W8 W9 := by rw [hW9]; exact ((Only.refl _ _).alloc _).alloc _
  have kA : ∀ W, Only [] W9 W → (∀ o, (W.alloc o).cell? ⟨p, 0, none⟩ = some (.int .i64 97) ∧ (W.alloc o).cell? ⟨p, 1, none⟩ = some (.int .i64 98) ∧ (W.alloc o).cell? ⟨p, 2, none⟩ = some (.int .i64 256)) ∧ (∀ o, (W.alloc o).cell? ⟨p + 1, 0, none⟩ = some (.int .i64 256) ∧ (W.alloc o).cell? ⟨p + 1, 1, none⟩ = some (.int .i64 99) ∧ (W.alloc o).cell? ⟨p + 1, 2, none⟩ = some (.int .i64 257)) := fun W hw => by
    refine ⟨fun o => ?_, fun o => ?_⟩
    · have k := (b1.only hw (by simp)).alloc o
      exact ⟨k.cell 0, k.cell 1, k.cell 2⟩
    · have k := (b2.only hw (by simp)).alloc o
      exact ⟨k.cell 0, k.cell 1, k.cell 2⟩
  have KA := Lib.hid kA
  have HO9 := Lib.hid (HO8.out.trans hO89)
  have HW9 := Lib.hid hW9
  have Hp := Lib.hid hp
  obtain ⟨f1, f2⟩ := kA W9 (.refl _ _)
  have a0 := fun o => (f1 o).1
  have a1 := fun o => (f1 o).2.1
  have a2 := fun o => (f1 o).2.2
  have c0 := fun o => (f2 o).1
  have c1 := fun o => (f2 o).2.1
  have c2 := fun o => (f2 o).2.2
  clear b1 b2 kA hW9 hp hO89 f1 f2
  go_upto_region 12 with (fail)
  clear x0 x1 x2
  rw [← Hp.out, ← HW9.out]
  go_wp2_with (fail)
  refine (fault_lit W9 [⟨#[97, 98]⟩, ⟨#[97, 98, 99]⟩] [abM, abcM] (small_size (by decide)) (small_ok (by decide)) (by decide) (by decide) (0, 0, 0) (by decide)).mono ?_
  rintro e V1 ⟨rfl, hO⟩
  rw [agg3]
  have hOV1 : Only [] W9 V1 := hO
  clear a0 a1 a2 c0 c1 c2 hO
  obtain ⟨f1, f2⟩ := KA.out V1 hOV1
  have a0 := fun o => (f1 o).1
  have a1 := fun o => (f1 o).2.1
  have a2 := fun o => (f1 o).2.2
  have c0 := fun o => (f2 o).1
  have c1 := fun o => (f2 o).2.1
  have c2 := fun o => (f2 o).2.2
  clear f1 f2
  go_wp2_with (fail)
  refine (fault_lit V1 [⟨#[97, 98]⟩, ⟨#[97, 98, 99]⟩] [abcM, abM] (small_size (by decide)) (small_ok (by decide)) (by decide) (by decide) (23, 5, 0) (by decide)).mono ?_
  rintro e V2 ⟨rfl, hO⟩
  rw [agg3]
  have hOV2 : Only [] W9 V2 := hOV1.trans hO
  clear a0 a1 a2 c0 c1 c2 hO
  obtain ⟨f1, f2⟩ := KA.out V2 hOV2
  have a0 := fun o => (f1 o).1
  have a1 := fun o => (f1 o).2.1
  have a2 := fun o => (f1 o).2.2
  have c0 := fun o => (f2 o).1
  have c1 := fun o => (f2 o).2.1
  have c2 := fun o => (f2 o).2.2
  clear f1 f2
  go_wp2_with (fail)
  refine (fault_lit V2 [⟨#[97, 98]⟩] [⟨97, 99, 256⟩] (small_size (by decide)) (small_ok (by decide)) (by decide) (by decide) (25, 5, 0) (by decide)).mono ?_
  rintro e V3 ⟨rfl, hO⟩
  rw [agg3]
  have hOV3 : Only [] W9 V3 := hOV2.trans hO
  clear a0 a1 a2 c0 c1 c2 hO
  obtain ⟨f1, f2⟩ := KA.out V3 hOV3
  have a0 := fun o => (f1 o).1
  have a1 := fun o => (f1 o).2.1
  have a2 := fun o => (f1 o).2.2
  have c0 := fun o => (f2 o).1
  have c1 := fun o => (f2 o).2.1
  have c2 := fun o => (f2 o).2.2
  clear f1 f2
  go_wp2_with (fail)
  refine (fault_lit V3 [⟨#[97, 98]⟩] [⟨97, 98, 257⟩] (small_size (by decide)) (small_ok (by decide)) (by decide) (by decide) (24, 5, 0) (by decide)).mono ?_
  rintro e V4 ⟨rfl, hO⟩
  rw [agg3]
  have hOV4 : Only [] W9 V4 := hOV3.trans hO
  clear a0 a1 a2 c0 c1 c2 hO
  obtain ⟨f1, f2⟩ := KA.out V4 hOV4
  have a0 := fun o => (f1 o).1
  have a1 := fun o => (f1 o).2.1
  have a2 := fun o => (f1 o).2.2
  have c0 := fun o => (f2 o).1
  have c1 := fun o => (f2 o).2.1
  have c2 := fun o => (f2 o).2.2
  clear f1 f2
  go_wp2_with (fail)
  refine (fault_lit V4 [⟨#[97, 98]⟩] [⟨97, 98, 97⟩] (small_size (by decide)) (small_ok (by decide)) (by decide) (by decide) (24, 5, 0) (by decide)).mono ?_
  rintro e V5 ⟨rfl, hO⟩
  rw [agg3]
  have hOV5 : Only [] W9 V5 := hOV4.trans hO
  clear a0 a1 a2 c0 c1 c2 hO
  obtain ⟨f1, f2⟩ := KA.out V5 hOV5
  have a0 := fun o => (f1 o).1
  have a1 := fun o => (f1 o).2.1
  have a2 := fun o => (f1 o).2.2
  have c0 := fun o => (f2 o).1
  have c1 := fun o => (f2 o).2.1
  have c2 := fun o => (f2 o).2.2
  clear f1 f2
  go_wp2_with (fail)
  refine (fault_lit V5 [⟨#[97, 98]⟩, ⟨#[97, 98]⟩] [abM, abM] (small_size (by decide)) (small_ok (by decide)) (by decide) (by decide) (22, 4, 1) (by decide)).mono ?_
  rintro e V6 ⟨rfl, hO⟩
  rw [agg3]
  have hOV6 : Only [] W9 V6 := hOV5.trans hO
  clear a0 a1 a2 c0 c1 c2 hO
  obtain ⟨f1, f2⟩ := KA.out V6 hOV6
  have a0 := fun o => (f1 o).1
  have a1 := fun o => (f1 o).2.1
  have a2 := fun o => (f1 o).2.2
  have c0 := fun o => (f2 o).1
  have c1 := fun o => (f2 o).2.1
  have c2 := fun o => (f2 o).2.2
  clear f1 f2
  go_wp2_with (fail)
  refine (fault_lit V6 [⟨#[97]⟩] [abM] (small_size (by decide)) (small_ok (by decide)) (by decide) (by decide) (21, 4, 0) (by decide)).mono ?_
  rintro e V7 ⟨rfl, hO⟩
  rw [agg3]
  have hOV7 : Only [] W9 V7 := hOV6.trans hO
  clear a0 a1 a2 c0 c1 c2 hO
  obtain ⟨f1, f2⟩ := KA.out V7 hOV7
  have a0 := fun o => (f1 o).1
  have a1 := fun o => (f1 o).2.1
  have a2 := fun o => (f1 o).2.2
  have c0 := fun o => (f2 o).1
  have c1 := fun o => (f2 o).2.1
  have c2 := fun o => (f2 o).2.2
  clear f1 f2
  go_wp2_with (fail)
  refine (fault_lit V7 [S] [abM] (fun s hs => by rw [List.mem_singleton] at hs; subst hs; rw [HSz.out]; unfold maxLen; omega) (small_ok (by decide)) (by simp) (by decide) (21, 4, 0) (long_fault HSz.out)).mono ?_
  rintro e V8 ⟨rfl, hO⟩
  rw [agg3]
  have hOV8 : Only [] W9 V8 := hOV7.trans hO
  clear a0 a1 a2 c0 c1 c2 hO
  have w8 : Blk (V8.alloc (.cells #[.string ⟨#[97, 98]⟩] 9)) V8.heap.size 9 (wds [⟨#[97, 98]⟩]) := Blk.new' _ _ _ rfl rfl
  have hf9 := fault_any (V8.alloc (.cells #[.string ⟨#[97, 98]⟩] 9)) (some ⟨V8.heap.size, 0, none⟩) none 1 0 [⟨#[97, 98]⟩] [] (Nat.le_refl _) (Nat.le_refl _) ((Rd.whole (t := 9) w8 rfl).more w8.lt) (Rd.zero _ _ _ _) (by decide) (by decide) (small_size (by decide)) (small_ok (by decide)) (4, 4, 0) (by decide) 1 0 rfl rfl
  have Hf9 := Lib.hid hf9
  clear w8 hf9
  go_wp2_with (fail)
  refine Hf9.out.mono ?_
  rintro e V9 ⟨rfl, hO⟩
  rw [agg3]
  have hOV9 : Only [] W9 V9 := hOV8.trans (((Only.refl [] V8).alloc _).trans hO)
  obtain ⟨M4, hM4⟩ : ∃ M4 : List Mg, M4 = List.replicate 4097 ⟨0, 0, 0⟩ := ⟨_, rfl⟩
  obtain ⟨R4, hR4⟩ : ∃ R4 : Array Value, R4 = (rep 4097 [.int .i64 0, .int .i64 0, .int .i64 0]).toArray := ⟨_, rfl⟩
  have hmk2 : ∀ W, (Instr.makeSlice 23 (.int .i64 4097) (.int .i64 4097)).run Try.prog W = .ok (.slice (some ⟨W.heap.size, 0, none⟩) 4097 4097) (W.alloc (.cells R4 38)) := fun W => by
    rw [hR4]
    exact run_make_rep (P := Try.prog) 23 38 (.agg #[.int .i64 0, .int .i64 0, .int .i64 0]) 3 24 (by kernel_rfl) (by kernel_rfl) rfl (by omega) .i64 .i64 4097 4097 (Nat.le_refl _) (by omega) (by omega) W
  have w9 : Blk (V9.alloc (.cells R4 38)) V9.heap.size 38 (mgs M4) := Blk.new' _ _ _ rfl (by rw [hR4, hM4, mgs_replicate])
  have hl4 : M4.length = 4097 := by rw [hM4, List.length_replicate]
  have hf10 := fault_any (V9.alloc (.cells R4 38)) none (some ⟨V9.heap.size, 0, none⟩) 0 4097 [] M4 (Nat.le_refl _) (by omega) (Rd.zero _ _ _ _) ((Rd.whole (t := 38) w9 (mgs_length M4)).more w9.lt) (by decide) (by omega) (by simp) (fun m hm => by rw [hM4] at hm; rw [List.eq_of_mem_replicate hm]; unfold Mg.ok i64ok; simp) (4, 5, 4096) (by rw [hM4]; exact many_fault) 0 4097 rfl hl4.symm
  have Hf10 := Lib.hid hf10
  clear w9 hf10 hM4 hR4 hl4 hO
  go_wp2_with (fail)
  refine Hf10.out.mono ?_
  rintro e V10 ⟨rfl, hO⟩
  rw [agg3]
  have hOV10 : Only [] W9 V10 := hOV9.trans (((Only.refl [] V9).alloc _).trans hO)
  clear hmk2 hO
  go_wp2_with (fail)
  refine (known5_any V10).mono ?_
  rintro e V11 ⟨rfl, hO⟩
  go_wp2_with (fail)
  go_ret
  exact ⟨rfl, HO9.out.trans (hOV10.trans hO)⟩
end Go.Proofs.Ytfnhdkabfkjodaa
