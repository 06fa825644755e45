/- House, the small table, the known runs. -/
import Derived.Test.YtodgllnmepnpfaaDoorRight
set_option linter.unusedVariables false
set_option linter.unusedSimpArgs false
namespace Go.Proofs.YtodgllnmepnpfaaDoor
open Go.RowKit

set_option maxRecDepth 100000 in
set_option maxHeartbeats 4000000 in
theorem house_any (w : World) :
    Calls Tryd.prog 20 #[] w fun e w' => ∃ X Y A1 A2 A3, e = .returned (.agg #[.slice X 6 6, .slice Y 6 6, .slice A1 2 2, .slice A2 1 1, .slice A3 2 2]) ∧ Only [] w w' ∧ Rd w' w'.heap.size 2 A1 2 (ses [(97, 122), (233, 233)]) ∧ Rd w' w'.heap.size 2 A2 1 (ses [(48, 57)]) ∧ Rd w' w'.heap.size 2 A3 2 (ses [(9, 10), (32, 32)]) := by
  go_enter Tryd.func20, Tryd.ntmps20
  go_wp2_with (fail)
  (try simp only [Exit.inBlock, Exit.then])
  refine bodyPost_ret (v := .agg #[.slice (some ⟨w.heap.size + 1, 0, none⟩) 6 6, .slice (some ⟨w.heap.size + 1 + 1, 0, none⟩) 6 6, .slice (some ⟨w.heap.size + 1 + 1 + 1, 0, none⟩) 2 2, .slice (some ⟨w.heap.size + 1 + 1 + 1 + 1, 0, none⟩) 1 1, .slice (some ⟨w.heap.size + 1 + 1 + 1 + 1 + 1, 0, none⟩) 2 2]) ?_ rfl ⟨_, _, _, _, _, rfl, ((((((Only.refl [] w).alloc _).alloc _).alloc _).alloc _).alloc _).alloc _, ?_, ?_, ?_⟩
  · rw [results_cell1 rfl]
    go_simp
  · exact (Rd.whole (t := 29) (((Blk.new' _ _ _ (by simp) rfl).alloc _).alloc _) rfl).more (by simp)
  · exact (Rd.whole (t := 29) ((Blk.new' _ _ _ (by simp) rfl).alloc _) rfl).more (by simp)
  · exact (Rd.whole (t := 29) (Blk.new' _ _ _ (by simp) rfl) rfl).more (by simp)

def ltr : List Sp := [(97, 122), (233, 233)]
def nmb : List Sp := [(48, 57)]
def spc : List Sp := [(9, 10), (32, 32)]
theorem house_check : checkW ltr nmb spc = (0, 0, 0) := by decide
theorem empty_check : checkW [] [] [] = (20, 3, 0) := by decide

set_option maxRecDepth 100000 in
set_option maxHeartbeats 4000000 in
theorem table_any (w : World) :
    Calls Tryd.prog 7 #[] w fun e w' => ∃ g, e = .returned (.pointer (some ⟨g, 0, none⟩)) ∧ Only [] w w' ∧ Tab w' w.heap.size g ltr nmb spc := by
  go_enter Tryd.func7, Tryd.ntmps7
  go_wp2_with (fail)
  refine (house_any w).mono ?_
  rintro e w1 ⟨X, Y, A1, A2, A3, rfl, hO, r1, r2, r3⟩
  obtain ⟨h0, hh0⟩ : ∃ h, h = w1.heap.size := ⟨_, rfl⟩
  have hb : Blk (w1.alloc (.cells #[.slice X 6 6, .slice Y 6 6, .slice A1 2 2, .slice A2 1 1, .slice A3 2 2] 44)) h0 44 [.slice X 6 6, .slice Y 6 6, .slice A1 2 2, .slice A2 1 1, .slice A3 2 2] := Blk.new' _ _ _ hh0.symm rfl
  have hO1 := (Only.refl [] w1).alloc (.cells #[.slice X 6 6, .slice Y 6 6, .slice A1 2 2, .slice A2 1 1, .slice A3 2 2] 44)
  replace r1 := r1.only hO1 (by simp)
  replace r2 := r2.only hO1 (by simp)
  replace r3 := r3.only hO1 (by simp)
  have q2 := hb.cell 2
  have q3 := hb.cell 3
  have q4 := hb.cell 4
  clear hb hh0
  go_wp2_with (fail)
  refine (new_any _ A1 A2 A3 2 1 2 2 1 2 ltr nmb spc rfl rfl rfl (by omega) (by omega) (by omega) _ r1 r2 r3).mono ?_
  rintro e w3 ⟨t, rfl, hO3, ht⟩
  rw [house_check]
  rcases ht with ⟨g, rfl, _, hT⟩ | ⟨_, hne⟩
  · have hOa := (Only.refl [] w3).alloc (.cells #[.int .i64 0, .int .i64 0, .int .i64 0] 25)
    replace hT := (hT.only hOa (by simp)).base (base' := w.heap.size) (hO.trans hO1).size
    replace hO3 := ((hO.trans hO1).trans hO3).trans hOa
    go_wp2_with (fail)
    go_ret
    exact ⟨g, rfl, hO3, hT⟩
  · exact absurd (by rw [house_check]) hne
end Go.Proofs.YtodgllnmepnpfaaDoor
