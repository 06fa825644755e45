/- The marks that books of strings, merges and spans are written over with. -/
import Derived.Test.YtfnhdkabfkjodaaBook1
import Derived.Test.YtfnhdkabfkjodaaMgBk
import Derived.Test.YtfnhdkabfkjodaaWdBk
import Derived.Test.YtfnhdkabfkjodaaMd2
set_option linter.unusedVariables false
set_option linter.unusedSimpArgs false
namespace Go.Proofs.Ytfnhdkabfkjodaa
open Go.RowKit

def mkM (i j : Nat) : Mg := ⟨-100 - (i : Int), -(j : Int), 0⟩
def mkS (i j : Nat) : Sp := (-100 - (i : Int), wrap32 (-(j : Int)))
/-- "mark ", and three bytes that tell the list -/
def mkW (i j : Nat) : ByteArray := ⟨#[109, 97, 114, 107, 32, UInt8.ofNat i, UInt8.ofNat (i / 256), UInt8.ofNat (i / 65536)]⟩
theorem loadMg {w : World} {h0 : Nat} {v0 v1 v2 : Value} (hb : Blk w h0 38 [v0, v1, v2]) :
    (((asAddr (.pointer (some ⟨h0, 0, none⟩))).run Try.prog w).andThen fun a w₁ => (loadVar 38 a).run Try.prog w₁) = Result.ok (Value.agg #[v0, v1, v2]) w := by
  have c0 : w.cell? ⟨h0, 0, none⟩ = some v0 := hb.cell 0
  have c1 : w.cell? ⟨h0, 1, none⟩ = some v1 := hb.cell 1
  have c2 : w.cell? ⟨h0, 2, none⟩ = some v2 := hb.cell 2
  go_simp
theorem loadSp {w : World} {h0 : Nat} {v0 v1 : Value} (hb : Blk w h0 67 [v0, v1]) :
    (((asAddr (.pointer (some ⟨h0, 0, none⟩))).run Try.prog w).andThen fun a w₁ => (loadVar 67 a).run Try.prog w₁) = Result.ok (Value.agg #[v0, v1]) w := by
  have c0 : w.cell? ⟨h0, 0, none⟩ = some v0 := hb.cell 0
  have c1 : w.cell? ⟨h0, 1, none⟩ = some v1 := hb.cell 1
  go_simp

set_option maxRecDepth 100000 in
set_option maxHeartbeats 1000000 in
theorem markM_any (i j : Nat) (w : World) (hi : i ≤ 5000) (hj : j ≤ 9223372036854775807) : Calls Try.prog 28 #[.int .i64 (i : Int), .int .i64 (j : Int)] w fun e w' => e = .returned (.agg #[.int .i64 (mkM i j).l, .int .i64 (mkM i j).r, .int .i64 (mkM i j).id]) ∧ Only [] w w' := by
  obtain ⟨h, hh⟩ : ∃ h, h = w.heap.size := ⟨_, rfl⟩
  go_enter Try.func28, Try.ntmps28
  go_wp2_with (fail)
  refine bodyPost_ret (v := .agg #[.int .i64 (-100 - (i : Int)), .int .i64 (-(j : Int)), .int .i64 0]) ?_ rfl ⟨rfl, (Only.refl _ _).alloc _⟩
  rw [results_cellD rfl]
  exact loadMg (Blk.new' _ _ _ rfl rfl)

set_option maxRecDepth 100000 in
set_option maxHeartbeats 1000000 in
theorem markS_any (i j : Nat) (w : World) (hi : i ≤ 5000) (hj : j ≤ 9223372036854775807) : Calls Try.prog 30 #[.int .i64 (i : Int), .int .i64 (j : Int)] w fun e w' => e = .returned (.agg #[.int .i32 (mkS i j).1, .int .i32 (mkS i j).2]) ∧ Only [] w w' := by
  obtain ⟨h, hh⟩ : ∃ h, h = w.heap.size := ⟨_, rfl⟩
  go_enter Try.func30, Try.ntmps30
  go_wp2_with (fail)
  refine bodyPost_ret (v := .agg #[.int .i32 (-100 - (i : Int)), .int .i32 (wrap32 (-(j : Int)))]) ?_ rfl ⟨rfl, (Only.refl _ _).alloc _⟩
  rw [results_cellD rfl]
  exact loadSp (Blk.new' _ _ _ rfl rfl)

set_option maxRecDepth 100000 in
set_option maxHeartbeats 1000000 in
theorem markW_any (i j : Nat) (w : World) (hi : i ≤ 5000) (hj : j ≤ 9223372036854775807) : Calls Try.prog 26 #[.int .i64 (i : Int), .int .i64 (j : Int)] w fun e w' => e = .returned (.string (mkW i j)) ∧ Only [] w w' := by
  have e0 : (i : Int) % 256 = ((UInt8.ofNat i).toNat : Int) := by simp
  have e1 : (i : Int) / 256 = ((UInt8.ofNat (i / 256)).toNat : Int) := by simp; omega
  have e2 : (i : Int) / 65536 = ((UInt8.ofNat (i / 65536)).toNat : Int) := by simp; omega
  have hcv : ∀ W, Blk W w.heap.size 5 [.int .u8 ((i : Int) % 256), .int .u8 ((i : Int) / 256), .int .u8 ((i : Int) / 65536)] → (convert 80 9 (.slice (some ⟨w.heap.size, 0, none⟩) 3 3)).run Try.prog W = .ok (.string ⟨#[UInt8.ofNat i, UInt8.ofNat (i / 256), UInt8.ofNat (i / 65536)]⟩) W := by
    intro W hb
    rw [e0, e1, e2] at hb
    exact run_string_blk (P := Try.prog) 80 9 5 Try.underlying80 Try.underlying5 Try.underlying9 3 (l := [UInt8.ofNat i, UInt8.ofNat (i / 256), UInt8.ofNat (i / 65536)]) hb rfl
  clear e0 e1 e2
  have hc1 := hcv (w.alloc (.cells #[.int .u8 ((i : Int) % 256), .int .u8 ((i : Int) / 256), .int .u8 ((i : Int) / 65536)] 5)) (Blk.new' _ _ _ rfl rfl)
  clear hcv
  go_enter Try.func26, Try.ntmps26
  go_wp2_with (fail)
  go_ret
  exact ⟨rfl, (Only.refl _ _).alloc _⟩
end Go.Proofs.Ytfnhdkabfkjodaa
