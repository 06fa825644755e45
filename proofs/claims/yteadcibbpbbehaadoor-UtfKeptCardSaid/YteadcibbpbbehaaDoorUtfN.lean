/- UtfTails: the walk. -/
import Derived.Test.YteadcibbpbbehaaDoorUtfE
import Derived.Test.YteadcibbpbbehaaDoorUtfT
import Derived.Test.YteadcibbpbbehaaDoorLaid
set_option linter.unusedVariables false
set_option linter.unusedSimpArgs false
namespace Go.Proofs.YteadcibbpbbehaaDoor
open Go.RowKit

set_option maxRecDepth 100000 in
set_option maxHeartbeats 4000000 in
theorem utfTails_walk (w : World) (s : ByteArray) (hs : s.size ≤ 1048576) (hT : Tabs w) :
    Calls Tryd.prog 5 #[.string s] w fun e w' => e = .returned (.bool true) ∧ Only [] w w' := by
  go_enter Tryd.func5, Tryd.ntmps5
  go_wp2_with (fail)
  refine (tail_any s (by omega) w hT).mono ?_
  rintro e w1 ⟨rfl, hO1⟩
  rw [tailU_eq]
  obtain ⟨k, hk⟩ : ∃ k, k = s.size - (complS s).2 := ⟨_, rfl⟩
  rw [← hk]
  have Hk := Lib.hid hk
  clear hk
  go_wp2_with (fail)
  have hT1 := hT.only hO1 (by simp) (by simp)
  refine (refTail_any s hs w1).mono ?_
  rintro e w2 ⟨rfl, hO2⟩
  rw [← Hk.out]
  have hO2 := hO1.trans hO2
  have hT2 := hT.only hO2 (by simp) (by simp)
  go_wp2_with (fail)
  obtain ⟨R, hR⟩ : ∃ k, k = replS s := ⟨_, rfl⟩
  have Hk := Lib.hid hR
  clear hR
  refine (replace_any s hs w2 hT2).mono ?_
  rintro e w3 ⟨rfl, hO3⟩
  rw [← Hk.out]
  have hO3 := hO2.trans hO3
  have hT3 := hT.only hO3 (by simp) (by simp)
  go_wp2_with (fail)
  refine (refReplace_any s hs w3).mono ?_
  rintro e w4 ⟨rfl, hO4⟩
  rw [← Hk.out]
  have hO4 := hO3.trans hO4
  have hT4 := hT.only hO4 (by simp) (by simp)
  go_wp2_with (fail)
  refine (known_any w4 hT4 hT4.size).mono ?_
  rintro e w5 ⟨rfl, hO5⟩
  have hO5 := hO4.trans hO5
  go_wp2_with (fail)
  go_ret
  exact ⟨by first | rfl | simp, hO5⟩
end Go.Proofs.YteadcibbpbbehaaDoor
