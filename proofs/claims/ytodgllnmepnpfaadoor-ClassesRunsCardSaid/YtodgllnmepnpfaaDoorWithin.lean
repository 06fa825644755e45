/- tesserabook.Within. -/
import Derived.Test.YtodgllnmepnpfaaDoorWd
import Derived.Test.YtodgllnmepnpfaaDoorRows
import Derived.WalkKit
set_option linter.unusedVariables false
set_option linter.unusedSimpArgs false
namespace Go.Proofs.YtodgllnmepnpfaaDoor
open Go.RowKit

def within (n lo hi : Int) : Int := lo + n % (hi - lo + 1)
theorem within_bd (n lo hi : Int) (h : lo ≤ hi) : lo ≤ within n lo hi ∧ within n lo hi ≤ hi := by
  have h1 := Int.emod_nonneg n (show hi - lo + 1 ≠ 0 by omega)
  have h2 := Int.emod_lt_of_pos n (show 0 < hi - lo + 1 by omega)
  unfold within
  omega
set_option maxRecDepth 100000 in
set_option maxHeartbeats 1000000 in
theorem within_any (n lo hi : Int) (w : World) (hn : -9223372036854775808 ≤ n ∧ n ≤ 9223372036854775807) (h : lo ≤ hi) (hlo : -1000000000000 ≤ lo) (hhi : hi ≤ 1000000000000) :
    Calls Tryd.prog 13 #[.int .i64 n, .int .i64 lo, .int .i64 hi] w fun e w' => e = .returned (.int .i64 (within n lo hi)) ∧ w = w' := by
  obtain ⟨d, hd⟩ : ∃ d, d = hi - lo + 1 := ⟨_, rfl⟩
  have hd0 : 0 < d := by omega
  have hd1 : d ≤ 2000000000001 := by omega
  have e1 := Int.tmod_lt_of_pos n hd0
  have e2 : -d < n.tmod d := Int.lt_tmod_of_pos n hd0
  have hspec : within n lo hi = lo + n % d := by rw [hd]; rfl
  have hmod : n % d = if n.tmod d < 0 then n.tmod d + d else n.tmod d := by
    split
    · rename_i h0
      have h1 : n < 0 := by
        by_cases h1 : n < 0
        · exact h1
        · have := Int.tmod_nonneg d (show 0 ≤ n by omega); omega
      have := Int.emod_eq_tmod (a := n) (b := d)
      rw [this, if_neg (by
        rintro (h2 | h2)
        · omega
        · rw [Int.dvd_iff_tmod_eq_zero] at h2; omega)]
      omega
    · rename_i h0
      have := Int.emod_eq_tmod (a := n) (b := d)
      rw [this]
      by_cases h1 : 0 ≤ n
      · rw [if_pos (.inl h1)]; omega
      · have : n.tmod d ≤ 0 := by
          have h2 := Int.tmod_nonneg d (show 0 ≤ -n by omega)
          rw [Int.neg_tmod] at h2; omega
        rw [if_pos (.inr (by rw [Int.dvd_iff_tmod_eq_zero]; omega))]; omega
  obtain ⟨m, hm⟩ : ∃ m, m = n.tmod d := ⟨_, rfl⟩
  rw [← hm] at hmod e1 e2
  have htm : n.tmod (hi - lo + 1) = m := by rw [← hd]; exact hm.symm
  rw [hspec, hmod]
  have Hd := Lib.hid hd
  clear hspec hmod hm
  by_cases h0 : m < 0
  · rw [if_pos h0]
    have hd2 : hi - lo + 1 ≤ 2000000000001 := by omega
    go_enter Tryd.func13, Tryd.ntmps13
    go_wp2
    go_ret
    exact ⟨ret_int (by have := Hd.out; omega), rfl⟩
  · rw [if_neg h0]
    have hd2 : hi - lo + 1 ≤ 2000000000001 := by omega
    go_enter Tryd.func13, Tryd.ntmps13
    go_wp2
    go_ret
    exact ⟨ret_int (by omega), rfl⟩
end Go.Proofs.YtodgllnmepnpfaaDoor
