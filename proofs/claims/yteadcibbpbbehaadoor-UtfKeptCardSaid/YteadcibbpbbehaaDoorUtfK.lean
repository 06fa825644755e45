/- chapter 2's runs: known; same. -/
import Derived.Test.YteadcibbpbbehaaDoorUtfZ
import Derived.Test.YteadcibbpbbehaaDoorUtfL
set_option linter.unusedVariables false
set_option linter.unusedSimpArgs false
namespace Go.Proofs.YteadcibbpbbehaaDoor
open Go.RowKit

def kS1 : ByteArray := ⟨#[97, 226, 130, 172, 255]⟩
theorem kI1 : itemsU ⟨#[97, 226, 130, 172, 255]⟩ = [⟨0, 1, 97, false⟩, ⟨1, 3, 8364, false⟩, ⟨4, 1, 65533, true⟩] := by kernel_rfl
theorem kT1 : tailU ⟨#[97, 226, 130]⟩ = 2 := by kernel_rfl
theorem kR1 : replS ⟨#[240, 159, 152, 97]⟩ = [239, 191, 189, 97] := by kernel_rfl

set_option maxRecDepth 100000 in
set_option maxHeartbeats 4000000 in
theorem known_any (w : World) (hT : Tabs w) (h2 : 2 ≤ w.heap.size) :
    Calls Tryd.prog 16 #[] w fun e w' => e = .returned (.bool true) ∧ Only [] w w' := by
  go_enter Tryd.func16, Tryd.ntmps16
  go_wp2_with (fail)
  refine (list_any ⟨#[97, 226, 130, 172, 255]⟩ (by decide) w hT h2).mono ?_
  rintro e w1 ⟨v, rfl, hown, hO⟩
  rw [kI1] at hown
  obtain ⟨g, c, sp, rfl, hb, hblk, hsp, hnc, hcm⟩ := own_shape hown (by decide)
  have hT1 := hT.only hO (by simp) (by simp)
  have q4 : w1.cell? ⟨g, 4, none⟩ = some (.int .i64 1) := hblk.cell 4
  have q5 : w1.cell? ⟨g, 5, none⟩ = some (.int .i64 3) := hblk.cell 5
  have q6 : w1.cell? ⟨g, 6, none⟩ = some (.int .i32 8364) := hblk.cell 6
  have q7 : w1.cell? ⟨g, 7, none⟩ = some (.bool false) := hblk.cell 7
  have q8 : w1.cell? ⟨g, 8, none⟩ = some (.int .i64 4) := hblk.cell 8
  have q9 : w1.cell? ⟨g, 9, none⟩ = some (.int .i64 1) := hblk.cell 9
  have q10 : w1.cell? ⟨g, 10, none⟩ = some (.int .i32 65533) := hblk.cell 10
  have q11 : w1.cell? ⟨g, 11, none⟩ = some (.bool true) := hblk.cell 11
  clear hown hblk hsp hcm
  rw [show (List.length [(⟨0, 1, 97, false⟩ : It), ⟨1, 3, 8364, false⟩, ⟨4, 1, 65533, true⟩]) = 3 from rfl] at hnc ⊢
  go_wp2_with (fail)
  refine (tail_any ⟨#[97, 226, 130]⟩ (by decide) w1 hT1).mono ?_
  rintro e w2 ⟨rfl, hO2⟩
  rw [kT1]
  have hOw2 := hO.trans hO2
  have hT2 := hT.only hOw2 (by simp) (by simp)
  clear q4 q5 q6 q7 q8 q9 q10 q11
  go_wp2_with (fail)
  refine (replace_any ⟨#[240, 159, 152, 97]⟩ (by decide) w2 hT2).mono ?_
  rintro e w3 ⟨rfl, hO3⟩
  rw [kR1]
  have hOw3 := hOw2.trans hO3
  go_wp2_with (fail)
  go_ret
  exact ⟨by first | rfl | simp, hOw3⟩
end Go.Proofs.YteadcibbpbbehaaDoor
