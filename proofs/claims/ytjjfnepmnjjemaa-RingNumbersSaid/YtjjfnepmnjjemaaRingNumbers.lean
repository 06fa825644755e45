/- RingNumbers: the walk. -/
import Derived.Test.YtjjfnepmnjjemaaRingK
namespace Go.Proofs.Ytjjfnepmnjjemaa
open Go.RowKit

set_option maxHeartbeats 1000000 in
theorem ringNumbers_walk (w : World) : Calls Try.prog 3 #[] w fun e w' => e = .returned (.bool true) ∧ Only [] w w' := by
  go_enter Try.func3, Try.ntmps3
  go_wp2_with (fail)
  refine (ringNew_no 0 _ (by omega)).mono ?_
  rintro e w1 ⟨rfl, rfl⟩
  go_wp2_with (fail)
  refine (ringNew_no 1048577 _ (by omega)).mono ?_
  rintro e w1 ⟨rfl, rfl⟩
  go_wp2_with (fail)
  refine (ringNew_yes 1 _ (by omega) (by omega)).mono ?_
  rintro e w1 ⟨g, rfl, hg, hR1, hO1⟩
  obtain ⟨g2, hg2⟩ : ∃ g2, g2 = w.heap.size := ⟨_, rfl⟩
  rw [← hg2] at hR1
  have hgg := hR1.lt
  have Hg := Lib.hid hg2; clear hg2
  go_wp2_with (fail)
  refine (ringTake_any g g2 1 0 5 _ _ _ hR1 0 (by simp)).mono ?_
  rintro e w3 ⟨o3, a3, rfl, ho3, hb3, hR3, hO3⟩
  replace hR3 : RingAt w3 g g2 1 a3 (List.replicate 1 0) [] := by simpa using hR3
  have hOw3 : Only [] w w3 := hO1.trans' hO3 (by intro x hx; have := Hg.out; simp at hx; omega)
  go_wp2_with (fail)
  refine (ringPut_any g g2 1 a3 0 0 none _ [] [] _ hR3 0 (Rd.zero _ _ _ _) (fun _ e => by cases e) (by omega) (by omega)).mono ?_
  rintro e w4 ⟨arr4, rfl, hR4, hO4⟩
  replace hR4 : RingAt w4 g g2 1 a3 arr4 [] := by simpa using hR4
  have hOw4 : Only [] w w4 := hOw3.trans' hO4 (by intro x hx; have := Hg.out; simp at hx; omega)
  go_wp2_with (fail)
  refine (ringPeek_any g g2 1 a3 (-1) _ _ _ hR4 0 (by simp)).mono ?_
  rintro e w5 ⟨o5, rfl, ho5, hb5, hO5⟩
  replace hR4 : RingAt w5 g g2 1 a3 arr4 [] := hR4.only hO5 (by simp) (by simp)
  have hrow := hR4.row
  have hlen := hR4.len
  have hOw5 : Only [] w w5 := hOw4.trans hO5
  go_wp2_with (fail)
  refine (ringRoom_any g (some ⟨g2, 0, none⟩) 1 1 0 _ hrow hlen (by omega) (by omega)).mono ?_
  rintro e w6 ⟨rfl, n5, rfl⟩
  clear hrow hlen
  go_wp2_with (fail)
  refine (ringKnown _).mono ?_
  rintro e w7 ⟨rfl, hO7⟩
  go_wp2_with (fail)
  go_ret
  exact ⟨rfl, (hOw5.drewN _).trans hO7⟩
end Go.Proofs.Ytjjfnepmnjjemaa
