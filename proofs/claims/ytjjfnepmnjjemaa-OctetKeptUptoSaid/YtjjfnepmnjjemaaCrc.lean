/- CRC-32, plainly: over natural numbers without bound the sum is a shift of one number; the table's way and the bitwise way agree; a burst within 32 bits is seen. -/
import Derived.Test.YtjjfnepmnjjemaaSum
namespace Go.Proofs.Ytjjfnepmnjjemaa

def cs (n : Nat) : Nat := if n % 2 = 1 then n / 2 ^^^ 0xedb88320 else n / 2
def csN : Nat → Nat → Nat
  | 0, n => n
  | k + 1, n => cs (csN k n)
theorem csN_succ' (k n : Nat) : csN (k + 1) n = csN k (cs n) := by
  induction k with
  | zero => rfl
  | succ k ih => rw [csN, ih, csN]
theorem csN_add (j k n : Nat) : csN (j + k) n = csN j (csN k n) := by
  induction j with
  | zero => rw [Nat.zero_add]; rfl
  | succ j ih => rw [Nat.succ_add, csN, ih, csN]
theorem xor_half (a b : Nat) : (a ^^^ b) / 2 = a / 2 ^^^ b / 2 := by
  have := Nat.shiftRight_xor_distrib (a := a) (b := b) (i := 1)
  simpa [Nat.shiftRight_succ] using this
theorem xor_par (a b : Nat) : (a ^^^ b) % 2 = (a + b) % 2 := by
  have h := Nat.testBit_xor a b 0
  simp only [Nat.testBit_zero] at h
  rcases Nat.mod_two_eq_zero_or_one a with ha | ha <;> rcases Nat.mod_two_eq_zero_or_one b with hb | hb <;> rcases Nat.mod_two_eq_zero_or_one (a ^^^ b) with hx | hx <;> simp [ha, hb, hx] at h ⊢ <;> omega
theorem eq_of_xor {a b : Nat} (h : a ^^^ b = 0) : a = b := by
  have := congrArg (· ^^^ b) h
  simpa [Nat.xor_assoc] using this
theorem cs_xor (a b : Nat) : cs (a ^^^ b) = cs a ^^^ cs b := by
  unfold cs
  rw [xor_par, xor_half]
  rcases Nat.mod_two_eq_zero_or_one a with ha | ha <;> rcases Nat.mod_two_eq_zero_or_one b with hb | hb
  · rw [if_neg (by omega), if_neg (by omega), if_neg (by omega)]
  · rw [if_pos (by omega), if_neg (by omega), if_pos (by omega)]; ac_rfl
  · rw [if_pos (by omega), if_pos (by omega), if_neg (by omega)]; ac_rfl
  · rw [if_neg (by omega), if_pos (by omega), if_pos (by omega)]
    have : a / 2 ^^^ 0xedb88320 ^^^ (b / 2 ^^^ 0xedb88320) = (a / 2 ^^^ b / 2) ^^^ (0xedb88320 ^^^ 0xedb88320) := by ac_rfl
    rw [this, Nat.xor_self, Nat.xor_zero]
theorem csN_xor (k a b : Nat) : csN k (a ^^^ b) = csN k a ^^^ csN k b := by
  induction k with
  | zero => rfl
  | succ k ih => rw [csN, ih, cs_xor]; rfl
theorem cs_double (n : Nat) : cs (2 * n) = n := by unfold cs; rw [if_neg (by omega)]; omega
theorem csN_shift (k n : Nat) : csN k (2 ^ k * n) = n := by
  induction k with
  | zero => simp [csN]
  | succ k ih => rw [csN_succ', show 2 ^ (k + 1) * n = 2 * (2 ^ k * n) by rw [Nat.pow_succ]; ac_rfl, cs_double, ih]
theorem cs_lt (n : Nat) (h : n < 4294967296) : cs n < 4294967296 := by
  unfold cs
  split
  · exact Nat.xor_lt_two_pow (n := 32) (by omega) (by omega)
  · omega
theorem csN_lt (k n : Nat) (h : n < 4294967296) : csN k n < 4294967296 := by
  induction k with
  | zero => exact h
  | succ k ih => exact cs_lt _ ih
theorem cs_ne (n : Nat) (h : n < 4294967296) (h0 : n ≠ 0) : cs n ≠ 0 := by
  unfold cs
  split
  · intro e
    have e2 : (n / 2 ^^^ 0xedb88320).testBit 31 = (0 : Nat).testBit 31 := by rw [e]
    rw [Nat.testBit_xor, Nat.testBit_lt_two_pow (show n / 2 < 2 ^ 31 by omega)] at e2
    revert e2
    decide
  · omega
theorem csN_ne (k n : Nat) (h : n < 4294967296) (h0 : n ≠ 0) : csN k n ≠ 0 := by
  induction k with
  | zero => exact h0
  | succ k ih => exact cs_ne _ (csN_lt k n h) ih

/-- bytes as one number, the first byte the lowest -/
def numOf : List UInt8 → Nat
  | [] => 0
  | b :: l => b.toNat ^^^ 256 * numOf l
def crcNat (r : Nat) (l : List UInt8) : Nat := csN (8 * l.length) (r ^^^ numOf l)
theorem crcNat_cons (r : Nat) (b : UInt8) (l : List UInt8) : crcNat r (b :: l) = crcNat (csN 8 (r ^^^ b.toNat)) l := by
  unfold crcNat
  rw [show numOf (b :: l) = b.toNat ^^^ 256 * numOf l from rfl, List.length_cons, Nat.mul_succ, csN_add, show r ^^^ (b.toNat ^^^ 256 * numOf l) = (r ^^^ b.toNat) ^^^ 2 ^ 8 * numOf l by rw [Nat.xor_assoc], csN_xor, csN_shift]
theorem foldl_crc (f : UInt32 → UInt8 → UInt32) (hf : ∀ r c, (f r c).toNat = csN 8 (r.toNat ^^^ c.toNat)) : ∀ (l : List UInt8) (r : UInt32), (l.foldl f r).toNat = crcNat r.toNat l
  | [], r => by simp [crcNat, numOf, csN]
  | b :: l, r => by rw [List.foldl_cons, foldl_crc f hf l, hf, crcNat_cons]

/-! ### the machine's step is 'cs' -/
theorem mask_eq (x : UInt32) : (0xedb88320 &&& (0 - (x &&& 1))).toNat = if x.toNat % 2 = 1 then 0xedb88320 else 0 := by
  have h : x &&& 1 = 0 ∨ x &&& 1 = 1 := by
    have h1 : (x &&& 1).toNat = x.toNat % 2 := by rw [UInt32.toNat_and, show (1 : UInt32).toNat = 1 from rfl, nat_mask1]
    rcases Nat.mod_two_eq_zero_or_one x.toNat with h2 | h2
    · left; apply UInt32.toNat_inj.1; rw [h1, h2]; rfl
    · right; apply UInt32.toNat_inj.1; rw [h1, h2]; rfl
  have h1 : (x &&& 1).toNat = x.toNat % 2 := by rw [UInt32.toNat_and, show (1 : UInt32).toNat = 1 from rfl, nat_mask1]
  rcases h with h | h
  · rw [h] at h1 ⊢
    rw [if_neg (by rw [← h1]; decide)]
    rfl
  · rw [h] at h1 ⊢
    rw [if_pos (by rw [← h1]; rfl)]
    rfl
theorem crcStep_cs (x : UInt32) : (crcStep x).toNat = cs x.toNat := by
  unfold crcStep cs
  rw [UInt32.toNat_xor, mask_eq, UInt32.toNat_shiftRight]
  simp only [Nat.shiftRight_eq_div_pow]
  split
  · rfl
  · simp
theorem crcSteps_cs (n : Nat) (x : UInt32) : (crcSteps n x).toNat = csN n x.toNat := by
  induction n with
  | zero => rfl
  | succ n ih => rw [crcSteps, crcStep_cs, ih]; rfl
theorem sumStep_cs (r : UInt32) (c : UInt8) : (sumStep r c).toNat = csN 8 (r.toNat ^^^ c.toNat) := by
  have hc := c.toNat_lt
  unfold sumStep tabVal
  rw [UInt32.toNat_xor, crcSteps_cs, UInt32.toNat_shiftRight]
  have h1 : (UInt32.ofNat (r.toUInt8 ^^^ c).toNat).toNat = (r.toNat ^^^ c.toNat) % 256 := by
    rw [UInt32.toNat_ofNat_of_lt' (by have := (r.toUInt8 ^^^ c).toNat_lt; exact Nat.lt_trans this (by decide)), UInt8.toNat_xor]
    rw [show (256 : Nat) = 2 ^ 8 from rfl, Nat.xor_mod_two_pow, show c.toNat % 2 ^ 8 = c.toNat from Nat.mod_eq_of_lt hc]
    rfl
  have h3 : (r.toNat ^^^ c.toNat) / 256 = r.toNat / 256 := by
    have := Nat.shiftRight_xor_distrib (a := r.toNat) (b := c.toNat) (i := 8)
    simp only [Nat.shiftRight_eq_div_pow] at this
    rw [show (256 : Nat) = 2 ^ 8 from rfl, this, Nat.div_eq_of_lt hc, Nat.xor_zero]
  have h4 : r.toNat ^^^ c.toNat = ((r.toNat ^^^ c.toNat) % 256) ^^^ 2 ^ 8 * ((r.toNat ^^^ c.toNat) / 256) := by
    generalize r.toNat ^^^ c.toNat = y
    apply Nat.eq_of_testBit_eq
    intro i
    rw [Nat.testBit_xor, show (256 : Nat) = 2 ^ 8 from rfl, Nat.testBit_mod_two_pow, Nat.testBit_two_pow_mul, Nat.testBit_div_two_pow]
    by_cases hi : i < 8
    · simp [hi, Nat.not_le.2 hi]
    · have hi' : 8 ≤ i := by omega
      simp [hi, hi']
  rw [h1]
  conv => rhs; rw [h4]
  rw [csN_xor, csN_shift, h3, Nat.xor_comm]
  simp [Nat.shiftRight_eq_div_pow]
theorem refBit_cs (c : UInt8) (k : Nat) (r : UInt32) : (refBit c k r).toNat = cs (r.toNat ^^^ (c.toNat / 2 ^ k % 2)) := by
  unfold refBit cs
  have h0 : (r &&& 1).toNat = r.toNat % 2 := by rw [UInt32.toNat_and, show (1 : UInt32).toNat = 1 from rfl, nat_mask1]
  rw [h0, xor_par, xor_half]
  have h1 : (c.toNat / 2 ^ k % 2) / 2 = 0 := by omega
  rw [h1, Nat.xor_zero]
  by_cases h : r.toNat % 2 ≠ c.toNat / 2 ^ k % 2
  · rw [if_pos h, if_pos (by omega), UInt32.toNat_xor, UInt32.toNat_shiftRight]
    simp [Nat.shiftRight_eq_div_pow]
  · rw [if_neg h, if_neg (by omega), UInt32.toNat_shiftRight]
    simp [Nat.shiftRight_eq_div_pow]
theorem refBits_cs (c : UInt8) (r : UInt32) : ∀ n, n ≤ 8 → (refBits c n r).toNat = csN n (r.toNat ^^^ (c.toNat % 2 ^ n))
  | 0, _ => by simp [refBits, csN, Nat.mod_one]
  | n + 1, h => by
    rw [refBits, refBit_cs, refBits_cs c r n (by omega)]
    have h1 : c.toNat % 2 ^ (n + 1) = (c.toNat % 2 ^ n) ^^^ 2 ^ n * (c.toNat / 2 ^ n % 2) := by
      apply Nat.eq_of_testBit_eq
      intro i
      rw [Nat.testBit_xor, Nat.testBit_mod_two_pow, Nat.testBit_mod_two_pow, Nat.testBit_two_pow_mul]
      rw [show c.toNat / 2 ^ n % 2 = c.toNat / 2 ^ n % 2 ^ 1 from rfl, Nat.testBit_mod_two_pow, Nat.testBit_div_two_pow]
      by_cases h2 : i < n
      · simp [h2, Nat.not_le.2 h2, Nat.lt_succ_of_lt h2]
      · by_cases h3 : i = n
        · subst h3; simp
        · have h4 : ¬ i < n + 1 := by omega
          have h5 : ¬ i - n < 1 := by omega
          simp [h2, h4, h5]
    rw [h1, ← Nat.xor_assoc, csN, csN_xor n (r.toNat ^^^ _) (2 ^ n * _), csN_shift]
theorem refStep_cs (r : UInt32) (c : UInt8) : (refBits c 8 r).toNat = csN 8 (r.toNat ^^^ c.toNat) := by
  rw [refBits_cs c r 8 (by omega), Nat.mod_eq_of_lt c.toNat_lt]
theorem sumOf_nat (l : List UInt8) : (sumOf l).toNat = crcNat 0xffffffff l := foldl_crc sumStep sumStep_cs l 0xffffffff
theorem refOf_nat (l : List UInt8) : (refOf l).toNat = crcNat 0xffffffff l := foldl_crc (fun r c => refBits c 8 r) refStep_cs l 0xffffffff
theorem sumOf_eq_refOf (l : List UInt8) : sumOf l = refOf l := UInt32.toNat_inj.1 (by rw [sumOf_nat, refOf_nat])

/-! ### bursts -/
theorem sum_eq_iff (l m : List UInt8) (h : l.length = m.length) : sumOf l = sumOf m ↔ csN (8 * l.length) (numOf l ^^^ numOf m) = 0 := by
  rw [← UInt32.toNat_inj, sumOf_nat, sumOf_nat]
  unfold crcNat
  rw [h, csN_xor, csN_xor, csN_xor]
  constructor
  · intro e
    have e2 := congrArg (fun x => csN (8 * m.length) 0xffffffff ^^^ x) e
    simp only [← Nat.xor_assoc, Nat.xor_self, Nat.zero_xor] at e2
    rw [e2, Nat.xor_self]
  · intro e
    rw [eq_of_xor e]
theorem numOf_test : ∀ (l : List UInt8) (i j : Nat), j < 8 → (numOf l).testBit (8 * i + j) = (l.getD i 0).toNat.testBit j
  | [], i, j, _ => by simp [numOf]
  | b :: l, 0, j, hj => by
    simp only [numOf, Nat.mul_zero, Nat.zero_add, List.getD_cons_zero, Nat.testBit_xor]
    rw [show (256 : Nat) = 2 ^ 8 from rfl, Nat.testBit_two_pow_mul]
    simp [Nat.not_le.2 hj]
  | b :: l, i + 1, j, hj => by
    simp only [numOf, List.getD_cons_succ, Nat.testBit_xor]
    rw [show (256 : Nat) = 2 ^ 8 from rfl, Nat.testBit_two_pow_mul, Nat.testBit_lt_two_pow (show b.toNat < 2 ^ (8 * (i + 1) + j) from Nat.lt_of_lt_of_le b.toNat_lt (Nat.pow_le_pow_right (by omega) (by omega))),
      show 8 * (i + 1) + j - 8 = 8 * i + j by omega, numOf_test l i j hj]
    simp; omega
theorem numOf_flip (l : List UInt8) (p : Nat) (h : p < 8 * l.length) : numOf (l.set (p / 8) (l.getD (p / 8) 0 ^^^ UInt8.ofNat (2 ^ (p % 8)))) = numOf l ^^^ 2 ^ p := by
  apply Nat.eq_of_testBit_eq
  intro q
  have hq := Nat.div_add_mod q 8
  have hp := Nat.div_add_mod p 8
  rw [Nat.testBit_xor, ← hq, numOf_test _ _ _ (Nat.mod_lt _ (by omega)), numOf_test _ _ _ (Nat.mod_lt _ (by omega)), hq, Nat.testBit_two_pow]
  have hm : (UInt8.ofNat (2 ^ (p % 8))).toNat = 2 ^ (p % 8) := by
    have h8 : p % 8 < 8 := Nat.mod_lt _ (by omega)
    exact UInt8.toNat_ofNat_of_lt' (show 2 ^ (p % 8) < 2 ^ 8 from Nat.pow_lt_pow_right (by omega) h8)
  by_cases e : p / 8 = q / 8
  · have hl : q / 8 < l.length := by omega
    rw [List.getD_eq_getElem?_getD, List.getElem?_set, if_pos e, if_pos (by omega), Option.getD_some, UInt8.toNat_xor, Nat.testBit_xor, hm, Nat.testBit_two_pow, e]
    congr 1
    by_cases h2 : p % 8 = q % 8
    · have : p = q := by omega
      simp [this]
    · have : ¬ p = q := by omega
      simp [this, h2]
  · have : ¬ p = q := by intro h2; rw [h2] at e; exact e rfl
    rw [List.getD_eq_getElem?_getD, List.getElem?_set, if_neg e, ← List.getD_eq_getElem?_getD]
    simp [this]
/-- the bytes with the bits of 'burst' turned from bit 'at' on, the first k of them -/
def turn (burst at_ : Nat) (l : List UInt8) : Nat → List UInt8
  | 0 => l
  | k + 1 => if burst / 2 ^ k % 2 = 1 then (turn burst at_ l k).set ((at_ + k) / 8) ((turn burst at_ l k).getD ((at_ + k) / 8) 0 ^^^ UInt8.ofNat (2 ^ ((at_ + k) % 8))) else turn burst at_ l k
theorem turn_length (burst at_ : Nat) (l : List UInt8) (k : Nat) : (turn burst at_ l k).length = l.length := by
  induction k with
  | zero => rfl
  | succ k ih => rw [turn]; split <;> simp [ih]
theorem turn_num (burst at_ : Nat) (l : List UInt8) : ∀ k, at_ + k ≤ 8 * l.length → numOf (turn burst at_ l k) = numOf l ^^^ 2 ^ at_ * (burst % 2 ^ k)
  | 0, _ => by simp [turn, Nat.mod_one]
  | k + 1, h => by
    have h1 : burst % 2 ^ (k + 1) = (burst % 2 ^ k) ^^^ 2 ^ k * (burst / 2 ^ k % 2) := by
      apply Nat.eq_of_testBit_eq
      intro i
      rw [Nat.testBit_xor, Nat.testBit_mod_two_pow, Nat.testBit_mod_two_pow, Nat.testBit_two_pow_mul]
      rw [show burst / 2 ^ k % 2 = burst / 2 ^ k % 2 ^ 1 from rfl, Nat.testBit_mod_two_pow, Nat.testBit_div_two_pow]
      by_cases h2 : i < k
      · simp [h2, Nat.not_le.2 h2, Nat.lt_succ_of_lt h2]
      · by_cases h3 : i = k
        · subst h3; simp
        · have h4 : ¬ i < k + 1 := by omega
          have h5 : ¬ i - k < 1 := by omega
          simp [h2, h4, h5]
    have hd : ∀ a b : Nat, 2 ^ at_ * (a ^^^ b) = 2 ^ at_ * a ^^^ 2 ^ at_ * b := by
      intro a b
      have := Nat.shiftLeft_xor_distrib (a := a) (b := b) (i := at_)
      simpa [Nat.shiftLeft_eq, Nat.mul_comm] using this
    rw [turn, h1, hd, ← Nat.xor_assoc]
    split
    · rename_i h2
      rw [numOf_flip _ _ (by rw [turn_length]; omega), turn_num burst at_ l k (by omega), h2, Nat.mul_one, ← Nat.pow_add]
    · rename_i h2
      rw [turn_num burst at_ l k (by omega), show burst / 2 ^ k % 2 = 0 by omega, Nat.mul_zero, Nat.mul_zero, Nat.xor_zero]
theorem burst_seen (burst at_ : Nat) (l : List UInt8) (k : Nat) (hk : k ≤ 32) (h : at_ + k ≤ 8 * l.length) : sumOf l = sumOf (turn burst at_ l k) ↔ burst % 2 ^ k = 0 := by
  rw [sum_eq_iff _ _ (turn_length _ _ _ _).symm, turn_num burst at_ l k h, ← Nat.xor_assoc, Nat.xor_self, Nat.zero_xor]
  obtain ⟨d, hd⟩ : ∃ d, 8 * l.length = d + at_ := ⟨8 * l.length - at_, by omega⟩
  rw [hd, csN_add, csN_shift]
  have hlt : burst % 2 ^ k < 4294967296 := Nat.lt_of_lt_of_le (Nat.mod_lt _ (Nat.two_pow_pos k)) (show 2 ^ k ≤ 2 ^ 32 from Nat.pow_le_pow_right (by omega) hk)
  constructor
  · intro e
    by_cases h0 : burst % 2 ^ k = 0
    · exact h0
    · exact absurd e (csN_ne _ _ hlt h0)
  · intro e
    rw [e]
    have : csN d 0 = 0 := by
      have := csN_shift d 0
      simpa using this
    exact this
end Go.Proofs.Ytjjfnepmnjjemaa
