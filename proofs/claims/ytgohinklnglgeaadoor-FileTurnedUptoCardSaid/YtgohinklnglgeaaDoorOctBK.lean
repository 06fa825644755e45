/- OctetBursts: the walk. -/
import Derived.Test.YtgohinklnglgeaaDoorPk12
import Derived.Test.YtgohinklnglgeaaDoorPk1
set_option linter.unusedVariables false
set_option linter.unusedSimpArgs false
namespace Go.Proofs.YtgohinklnglgeaaDoor
open Go.RowKit

theorem turn_step (burst at_ : Nat) (l : List UInt8) (k : Nat) (h : burst / 2 ^ k % 2 = 1) {b : UInt8} (hb : (turn burst at_ l k)[(at_ + k) / 8]? = some b) :
    turn burst at_ l (k + 1) = (turn burst at_ l k).set ((at_ + k) / 8) (b ^^^ UInt8.ofNat (2 ^ ((at_ + k) % 8))) := by
  rw [turn, if_pos h, List.getD_eq_getElem?_getD, hb]; rfl
theorem turn_still (burst at_ : Nat) (l : List UInt8) (k : Nat) (h : ¬ burst / 2 ^ k % 2 = 1) : turn burst at_ l (k + 1) = turn burst at_ l k := by rw [turn, if_neg h]
theorem mod_step (burst k : Nat) : burst % 2 ^ (k + 1) = 0 ↔ burst % 2 ^ k = 0 ∧ burst / 2 ^ k % 2 = 0 := by
  rw [Nat.pow_succ, Nat.mod_mul]
  have := Nat.two_pow_pos k
  constructor
  · intro h
    have h1 := Nat.eq_zero_of_add_eq_zero_right h
    have h2 := Nat.eq_zero_of_add_eq_zero_left h
    exact ⟨h1, (Nat.mul_eq_zero.1 h2).resolve_left (by omega)⟩
  · rintro ⟨h1, h2⟩; rw [h1, h2]; rfl

theorem burst_bits (x k j : Nat) (b : UInt8) (hx : x < 4294967296) : (bits .and .u32 ((x : Int) / 2 ^ k) 1 == 1) = decide (x / 2 ^ k % 2 = 1) ∧ bits .xor .u8 (b.toNat : Int) (2 ^ (j % 8) % 256) = ((b ^^^ UInt8.ofNat (2 ^ (j % 8))).toNat : Int) := by
  constructor
  · have hd : x / 2 ^ k ≤ x := Nat.div_le_self _ _
    have h2 : ((x : Int) / 2 ^ k) = ((x / 2 ^ k : Nat) : Int) := by simp
    rw [h2, show (1 : Int) = ((1 : Nat) : Int) from rfl, u32_and_nat _ 1 (by omega) (by omega), nat_mask1]
    rw [Bool.eq_iff_iff]
    simp
    omega
  · have h8 : 2 ^ (j % 8) < 256 := show 2 ^ (j % 8) < 2 ^ 8 from Nat.pow_lt_pow_right (by omega) (Nat.mod_lt _ (by omega))
    have h1 : ((2 : Int) ^ (j % 8) % 256) = ((2 ^ (j % 8) : Nat) : Int) := by
      have : ((2 : Int) ^ (j % 8)) = ((2 ^ (j % 8) : Nat) : Int) := by simp
      rw [this]
      generalize 2 ^ (j % 8) = y at h8 ⊢
      omega
    have hb := b.toNat_lt
    rw [h1, u8_xor_nat _ _ (by omega) h8, UInt8.toNat_xor, UInt8.toNat_ofNat_of_lt' h8]

end Go.Proofs.YtgohinklnglgeaaDoor
