/- The known runs. -/
import Derived.Test.YtodgllnmepnpfaaDoorKnow
set_option linter.unusedVariables false
set_option linter.unusedSimpArgs false
namespace Go.Proofs.YtodgllnmepnpfaaDoor
open Go.RowKit

set_option maxRecDepth 100000 in
set_option maxHeartbeats 4000000 in
theorem known_any (w : World) :
    Calls Tryd.prog 9 #[] w fun e w' => e = .returned (.bool true) ∧ Only [] w w' := by
  have K1 : kindOf ltr nmb spc 97 = 1 := by decide
  have K2 : kindOf ltr nmb spc 48 = 2 := by decide
  have K3 : kindOf ltr nmb spc 8364 = 4 := by decide
  have K4 : kindOf ltr nmb spc (-1) = 4 := by decide
  go_enter Tryd.func9, Tryd.ntmps9
  go_wp2_with (fail)
  refine (table_any w).mono ?_
  rintro e w1 ⟨g, rfl, hO1, hT⟩
  go_wp2_with (fail)
  refine (new_any w1 none none none 0 0 0 0 0 0 [] [] [] rfl rfl rfl (by omega) (by omega) (by omega) 0 (Rd.zero _ _ _ _) (Rd.zero _ _ _ _) (Rd.zero _ _ _ _)).mono ?_
  rintro e w2 ⟨t, rfl, hO2, ht⟩
  rw [empty_check]
  rcases ht with ⟨_, _, hz, _⟩ | ⟨rfl, _⟩
  · rw [empty_check] at hz; cases hz
  · obtain ⟨h0, hh0⟩ : ∃ h, h = w2.heap.size := ⟨_, rfl⟩
    have hb : Blk (w2.alloc (.cells #[.int .i64 20, .int .i64 3, .int .i64 0] 25)) h0 25 [.int .i64 20, .int .i64 3, .int .i64 0] := Blk.new' _ _ _ hh0.symm rfl
    have hOa := hO2.trans ((Only.refl [] w2).alloc (.cells #[.int .i64 20, .int .i64 3, .int .i64 0] 25))
    replace hT := hT.only hOa (by simp)
    replace hO1 := hO1.trans hOa
    go_wp2_with (fail)
    rw [← hh0]
    refine name_it (p := fun y => Calls _ _ _ y _) ?_
    intro w3 H3
    rw [← H3.out] at hT hO1 hb
    clear H3 hh0 hOa
    refine (of_any w3 _ g _ _ _ hT 97).mono ?_
    rintro e w4 ⟨rfl, hO4⟩
    rw [K1]
    replace hT := hT.only hO4 (by simp)
    replace hb := hb.only hO4 (by simp)
    replace hO1 := hO1.trans hO4
    go_wp2_with (fail)
    refine (of_any w4 _ g _ _ _ hT 48).mono ?_
    rintro e w5 ⟨rfl, hO5⟩
    rw [K2]
    replace hT := hT.only hO5 (by simp)
    replace hb := hb.only hO5 (by simp)
    replace hO1 := hO1.trans hO5
    go_wp2_with (fail)
    refine (of_any w5 _ g _ _ _ hT 8364).mono ?_
    rintro e w6 ⟨rfl, hO6⟩
    rw [K3]
    replace hT := hT.only hO6 (by simp)
    replace hb := hb.only hO6 (by simp)
    replace hO1 := hO1.trans hO6
    go_wp2_with (fail)
    refine (of_any w6 _ g _ _ _ hT (-1)).mono ?_
    rintro e w7 ⟨rfl, hO7⟩
    rw [K4]
    replace hb := hb.only hO7 (by simp)
    replace hO1 := hO1.trans hO7
    have q0 := hb.cell 0
    have q1 := hb.cell 1
    have q2 := hb.cell 2
    clear hT hb
    go_wp2_with (fail)
    go_ret
    exact ⟨rfl, hO1⟩
end Go.Proofs.YtodgllnmepnpfaaDoor
