/- OctetBursts: the walk. -/
import Derived.Test.YtjjfnepmnjjemaaOctK
import Derived.Test.YtjjfnepmnjjemaaTo
namespace Go.Proofs.Ytjjfnepmnjjemaa
open Go.RowKit

theorem turn_step (burst at_ : Nat) (l : List UInt8) (k : Nat) (h : burst / 2 ^ k % 2 = 1) {b : UInt8} (hb : (turn burst at_ l k)[(at_ + k) / 8]? = some b) :
    turn burst at_ l (k + 1) = (turn burst at_ l k).set ((at_ + k) / 8) (b ^^^ UInt8.ofNat (2 ^ ((at_ + k) % 8))) := by
  rw [turn, if_pos h, List.getD_eq_getElem?_getD, hb]; rfl
theorem turn_still (burst at_ : Nat) (l : List UInt8) (k : Nat) (h : ¬ burst / 2 ^ k % 2 = 1) : turn burst at_ l (k + 1) = turn burst at_ l k := by rw [turn, if_neg h]
theorem mod_step (burst k : Nat) : burst % 2 ^ (k + 1) = 0 ↔ burst % 2 ^ k = 0 ∧ burst / 2 ^ k % 2 = 0 := by
  rw [Nat.pow_succ, Nat.mod_mul]
  have := Nat.two_pow_pos k
  constructor
  · intro h
    have h1 := Nat.eq_zero_of_add_eq_zero_right h
    have h2 := Nat.eq_zero_of_add_eq_zero_left h
    exact ⟨h1, (Nat.mul_eq_zero.1 h2).resolve_left (by omega)⟩
  · rintro ⟨h1, h2⟩; rw [h1, h2]; rfl

theorem burst_bits (x k j : Nat) (b : UInt8) (hx : x < 4294967296) : (bits .and .u32 ((x : Int) / 2 ^ k) 1 == 1) = decide (x / 2 ^ k % 2 = 1) ∧ bits .xor .u8 (b.toNat : Int) (2 ^ (j % 8) % 256) = ((b ^^^ UInt8.ofNat (2 ^ (j % 8))).toNat : Int) := by
  constructor
  · have hd : x / 2 ^ k ≤ x := Nat.div_le_self _ _
    have h2 : ((x : Int) / 2 ^ k) = ((x / 2 ^ k : Nat) : Int) := by simp
    rw [h2, show (1 : Int) = ((1 : Nat) : Int) from rfl, u32_and_nat _ 1 (by omega) (by omega), nat_mask1]
    rw [Bool.eq_iff_iff]
    simp
    omega
  · have h8 : 2 ^ (j % 8) < 256 := show 2 ^ (j % 8) < 2 ^ 8 from Nat.pow_lt_pow_right (by omega) (Nat.mod_lt _ (by omega))
    have h1 : ((2 : Int) ^ (j % 8) % 256) = ((2 ^ (j % 8) : Nat) : Int) := by
      have : ((2 : Int) ^ (j % 8)) = ((2 ^ (j % 8) : Nat) : Int) := by simp
      rw [this]
      generalize 2 ^ (j % 8) = y at h8 ⊢
      omega
    have hb := b.toNat_lt
    rw [h1, u8_xor_nat _ _ (by omega) h8, UInt8.toNat_xor, UInt8.toNat_ofNat_of_lt' h8]

set_option maxRecDepth 100000 in
set_option maxHeartbeats 2000000 in
theorem octetBursts_walk (w : World) (A : Option Addr) (n c : Nat) (l : List UInt8) (hl : l.length = n) (hr : Rd w w.heap.size 1 A n (bvs l)) (hc : n ≤ c) (hb : c ≤ 140737488351232)
    (at_ : Int) (hat : -9223372036854775808 ≤ at_ ∧ at_ ≤ 9223372036854775807) (x : Int) (hx : 0 ≤ x ∧ x ≤ 4294967295) :
    Calls Try.prog 8 #[.slice A n c, .int .i64 at_, .int .u32 x] w fun e w' => e = .returned (.bool true) ∧ Only [] w w' := by
  obtain ⟨x, rfl⟩ := Int.eq_ofNat_of_zero_le hx.1
  have hx' : x < 4294967296 := by omega
  have Hl := Lib.hid hl
  clear hx hl
  by_cases hn0 : n = 0
  · subst hn0
    go_enter Try.func8, Try.ntmps8
    go_wp2_with (fail)
    refine (octetKnown _).mono ?_
    rintro e w9 ⟨rfl, hO9⟩
    go_wp2
    go_ret
    exact ⟨rfl, hO9⟩
  by_cases hx0 : x = 0
  · subst hx0
    go_enter Try.func8, Try.ntmps8
    go_wp2_with (fail)
    refine (octetKnown _).mono ?_
    rintro e w9 ⟨rfl, hO9⟩
    go_wp2
    go_ret
    exact ⟨rfl, hO9⟩
  obtain ⟨n', l', hl', hr', hnn, hn2, hn1, -, hcase⟩ := hr.cutTo Hl.out 3000
  replace hn1 := hn1 (by omega) (by omega)
  have Hl' := Lib.hid hl'
  obtain ⟨k0, hk0⟩ : ∃ k0 : Nat, within at_ 0 (8 * (n' : Int) - 1) = (k0 : Int) ∧ k0 < 8 * n' := by
    have := within_bd at_ 0 (8 * (n' : Int) - 1) (by omega)
    exact ⟨(within at_ 0 (8 * (n' : Int) - 1)).toNat, by omega, by omega⟩
  obtain ⟨hk0, hk1⟩ := hk0
  have Hk0 := Lib.hid hk0
  clear hk0 hl' hr
  have hz : ∀ w : World, w.heap.size = w.heap.size := fun _ => rfl
  obtain ⟨v1, w1, hr1, hown1, hO1, _, _⟩ := run_append_row (P := Try.prog) (w := w.alloc (.cells #[] 5)) w.heap.size 26 26 5 (.int .u8 0) 1 1 Try.underlying26 byteInfo' rfl (by omega)
    (own_empty w w.heap.size 5 1 rfl (Nat.le_refl _)) c (hr'.alloc _) (bvs_one _) (by simp only [maxLen]; omega) (by omega) (by simp)
  simp only [Nat.zero_add, List.nil_append] at hown1
  have hOw1 : Only [] w w1 := ((Only.refl [] w).alloc _).trans' hO1 (by intro k hk; simp [Value.ownBlock] at hk; omega)
  obtain ⟨h, cap, sp, rfl, hwh, hb1, hsp, hnc, _⟩ := own_shape hown1 hn1
  have Hr1 := Lib.hid hr1
  clear hr1 hown1 hO1 hz
  have hcond : ((n : Int) == 0 || (x : Int) == 0) = false := by simp; omega
  have hfin : ∀ k, k ≤ 32 → k0 + k ≤ 8 * n' → (((~~~(sumOf l')).toNat : Int) = ((~~~(sumOf (turn x k0 l' k))).toNat : Int) ↔ x % 2 ^ k = 0) := by
    intro k h1 h2
    rw [← burst_seen x k0 l' k h1 (by rw [Hl'.out]; exact h2)]
    constructor
    · intro e
      have e2 : (~~~(sumOf l')).toNat = (~~~(sumOf (turn x k0 l' k))).toNat := by omega
      have e3 := UInt32.toNat_inj.1 e2
      exact by simpa using congrArg (fun y => ~~~y) e3
    · intro e; rw [e]
  have Hfin := Lib.hid hfin
  clear hfin
  by_cases h3 : n ≤ 3000
  case' pos =>
    obtain rfl : n' = n := by omega
    go_enter Try.func8, Try.ntmps8
    go_wp2_with (fail)
  case' neg =>
    have hsh := run_slice_h (P := Try.prog) (A := A) (n := n) (c := c) (m := n') (hi := (3000 : Int)) Try.underlying26 (size := 1) (by kernel_rfl) (by omega) (by omega)
    go_enter Try.func8, Try.ntmps8
    go_wp2_with (fail)
    clear hsh
  all_goals
    refine (within_any at_ 0 (8 * (n' : Int) - 1) _ hat (by omega) (by omega) (by omega)).mono ?_
    rintro e w0 ⟨rfl, hw0⟩
    rw [Hk0.out]
    subst hw0
    go_wp2_with ((at_builtin; refine wpList_append_run (o := ⟨some 31, _, _, _, _, _⟩) (by rfl) (.tmp 29) (.tmp 30) 26 26 (by rfl) (by rfl) (by rfl) Hr1.out ?_))
    clear hcase h3 hcond
    go_loopw [8, 9] (fun t i wr => ∃ k : Nat, k ≤ 32 ∧ k0 + k ≤ 8 * n' ∧ i = .int .i64 (k : Int) ∧ t = .bool (!decide (x % 2 ^ k = 0)) ∧ Blk wr h 5 (bvs (turn x k0 l' k) ++ sp) ∧ Only [] w wr) (fun _ i _ => 32 - (intOf i).toNat)
    case atStart => exact ⟨0, by omega, by omega, rfl, by simp [Nat.mod_one], hb1, hOw1⟩
    case round =>
      obtain ⟨k, hk, hk2, rfl, rfl, hb, hO⟩ := hrel
      have hln : (turn x k0 l' k).length = n' := by rw [turn_length, Hl'.out]
      have Hln := Lib.hid hln
      clear hln
      by_cases hlt : k < 32 ∧ k0 + k < 8 * n'
      · obtain ⟨hlt, hlt2⟩ := hlt
        obtain ⟨j, hj⟩ : ∃ j, j = k0 + k := ⟨_, rfl⟩
        have hj1 : ((k0 : Int) + (k : Int)) = (j : Int) := by omega
        have hj8 : j / 8 < n' := by omega
        obtain ⟨b, hbk⟩ : ∃ b, (turn x k0 l' k)[j / 8]? = some b := ⟨_, List.getElem?_eq_getElem (by rw [Hln.out]; exact hj8)⟩
        have hcell : wr.cell? ⟨h, j / 8, none⟩ = some (.int .u8 (b.toNat : Int)) := by
          rw [hb.cell, List.getElem?_append_left (by rw [bvs_length, Hln.out]; exact hj8), bvs_get?, hbk]; rfl
        have hfz : wr.frozen? ⟨h, j / 8, none⟩ = false := hb.frozen _
        have Hj := Lib.hid hj
        have Hbk := Lib.hid hbk
        clear hj hbk
        obtain ⟨hbt, hxor⟩ := burst_bits x k j b hx'
        have Hxor := Lib.hid hxor
        clear hxor
        by_cases hbit : x / 2 ^ k % 2 = 1
        · rw [decide_eq_true hbit] at hbt
          go_wp2
          go_roundw
          case rel =>
            rw [Hxor.out]
            refine ⟨k + 1, by omega, by omega, by go_num, ?_, ?_, hO.setCell (.inr hwh) _⟩
            · have : ¬ x % 2 ^ (k + 1) = 0 := by rw [mod_step]; omega
              rw [decide_eq_false this]; rfl
            · have h2 := hb.set (j / 8) (bv (b ^^^ UInt8.ofNat (2 ^ (j % 8))))
              rw [List.set_append_left _ _ (by rw [bvs_length, Hln.out]; exact hj8)] at h2
              rw [turn_step x k0 l' k hbit (b := b) (by rw [← Hj.out]; exact Hbk.out), ← Hj.out]
              have e2 : bvs ((turn x k0 l' k).set (j / 8) (b ^^^ UInt8.ofNat (2 ^ (j % 8)))) = (bvs (turn x k0 l' k)).set (j / 8) (bv (b ^^^ UInt8.ofNat (2 ^ (j % 8)))) := by simp [bvs, List.map_set]
              rw [e2]
              exact h2
          case measure => simp [intOf]; omega
        · rw [decide_eq_false hbit] at hbt
          go_wp2
          go_roundw
          case rel =>
            refine ⟨k + 1, by omega, by omega, by go_num, ?_, ?_, hO⟩
            · have : x % 2 ^ (k + 1) = 0 ↔ x % 2 ^ k = 0 := by rw [mod_step]; omega
              rw [decide_eq_decide.2 this]
            · rw [turn_still x k0 l' k hbit]; exact hb
          case measure => simp [intOf]; omega
      · have hR : Rd wr wr.heap.size 1 (some ⟨h, 0, none⟩) n' (bvs (turn x k0 l' k)) := by
          have h2 := Rd.of_blk (o := 0) (n := n') (size := 1) hb hb.lt (by rw [List.length_append, bvs_length, Hln.out]; omega)
          rw [List.drop_zero, Nat.mul_one, List.take_left' (by rw [bvs_length, Hln.out])] at h2
          exact h2
        have hrr : Rd wr wr.heap.size 1 A n' (bvs l') := hr'.on hO (Nat.le_refl _)
        have hfin := Hfin.out k hk hk2
        obtain ⟨q, hq⟩ : ∃ q, q = decide (x % 2 ^ k = 0) := ⟨_, rfl⟩
        have hab : (((~~~(sumOf l')).toNat : Int) == ((~~~(sumOf (turn x k0 l' k))).toNat : Int)) = q := by
          rw [hq, Bool.eq_iff_iff, beq_iff_eq, decide_eq_true_iff]; exact hfin
        rw [← hq]
        obtain ⟨y1, hy1⟩ : ∃ y1 : Int, y1 = ((~~~(sumOf (turn x k0 l' k))).toNat : Int) := ⟨_, rfl⟩
        obtain ⟨y2, hy2⟩ : ∃ y2 : Int, y2 = ((~~~(sumOf l')).toNat : Int) := ⟨_, rfl⟩
        rw [← hy1, ← hy2] at hab
        have Hy1 := Lib.hid hy1
        have Hy2 := Lib.hid hy2
        clear hr' hb hb1 hfin hq hy1 hy2
        have Hlt := Lib.hid hlt
        clear hlt
        by_cases hk32 : k < 32
        case' pos =>
          have hke : ¬ (k0 : Int) + (k : Int) < 8 * (n' : Int) := by have := Hlt.out; omega
          go_wp2_with (fail)
        case' neg =>
          go_wp2_with (fail)
        all_goals
          refine (sum_any A n' c 0 l' _ hrr (by omega)).mono ?_
          rintro e w2 ⟨rfl, hO2⟩
          rw [← Hy2.out]
          have hR2 := hR.on hO2 (Nat.le_refl _)
          go_wp2_with (fail)
          refine (sum_any _ n' cap 0 _ _ hR2 (by omega)).mono ?_
          rintro e w3 ⟨rfl, hO3⟩
          rw [← Hy1.out]
          go_wp2_with (fail)
          refine (octetKnown _).mono ?_
          rintro e w9 ⟨rfl, hO9⟩
          go_wp2
          go_ret
          exact ⟨rfl, ((hO.trans hO2).trans hO3).trans hO9⟩
end Go.Proofs.Ytjjfnepmnjjemaa
