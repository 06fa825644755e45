/- refused: is an error the refusal that is wanted? -/
import Derived.Test.YtgohinklnglgeaaDoorFi1K
import Derived.Deep.RegionHeld3
set_option linter.unusedVariables false
set_option linter.unusedSimpArgs false
namespace Go.Proofs.YtgohinklnglgeaaDoor
open Go.RowKit Go.Stop
attribute [local go_sem] Oper.semAt_some

set_option maxRecDepth 100000 in
set_option maxHeartbeats 4000000 in
theorem refused_none (at_ : Int) (w : World) :
    Calls Tryd.prog 12 #[.nilIface, .agg #[.int .i64 at_, .int .i64 0]] w fun e w' => e = .returned (.bool true) ∧ Only [] w w' := by
  have hn : ∀ w, (binOp .eql 27 .nilIface .nilIface).run Tryd.prog w = .ok (.bool true) w := fun w => by
    have h : ∀ d : Nat, (Op.equalIn (d + 1) 27 .nilIface .nilIface).run Tryd.prog w = .ok true w := fun d => by simp [Op.equalIn, run_underlying Tryd.underlying27]
    have h2 : (Op.equal 27 .nilIface .nilIface).run Tryd.prog w = .ok true w := h 9999
    simp [binOp, h2]
  go_enter Tryd.func12, Tryd.ntmps12
  go_wp2
  go_ret
  exact ⟨rfl, (Only.refl _ _).alloc _⟩
theorem fi_str_ne (s : ByteArray) (h : 0 < s.size) : s.toList.isEmpty = false := by
  rw [Lib.toList_data]
  cases h' : s.data.toList with
  | nil =>
    rw [Lib.size_eq s, h'] at h
    exact absurd h (by simp)
  | cons _ _ => rfl
theorem fiAssertR (v : Value) (w : World) : (Instr.typeAssert (.iface 78 v) 27 78 true).run Tryd.prog w = .ok (.tuple #[v, .bool true]) w := by kernel_rfl
set_option maxRecDepth 100000 in
set_option maxHeartbeats 8000000 in
theorem refused_some (b : Nat) (at_ why : Nat) (h0 : why ≠ 0) (hw : why ≤ 1000000) (ha : at_ ≤ 1000000000) (w : World) (hb : Blk w b 80 [.int .i64 (at_ : Int), .int .i64 (why : Int)]) (htab : ∀ W, Only [] w W → Lib.TabIs Tryd.prog W "internal/strconv.uint64pow10" .u64 Lib.pow10Tab) :
    Calls Tryd.prog 12 #[.iface 78 (.pointer (some ⟨b, 0, none⟩)), .agg #[.int .i64 (at_ : Int), .int .i64 (why : Int)]] w fun e w' => e = .returned (.bool true) ∧ Only [] w w' := by
  obtain ⟨g, hg⟩ : ∃ z, z = w.heap.size := ⟨_, rfl⟩
  obtain ⟨W, hW⟩ : ∃ z, z = w.alloc (.cells #[.int .i64 (at_ : Int), .int .i64 (why : Int)] 32) := ⟨_, rfl⟩
  have hk : Blk W g 32 [.int .i64 (at_ : Int), .int .i64 (why : Int)] := by rw [hW]; exact Blk.new' _ _ _ hg.symm rfl
  have hO : Only [] w W := by rw [hW]; exact (Only.refl _ _).alloc _
  have hb1 := hb.only hO (by simp)
  have g0 : W.cell? ⟨g, 0, none⟩ = some (.int .i64 (at_ : Int)) := hk.cell 0
  have g1 : W.cell? ⟨g, 1, none⟩ = some (.int .i64 (why : Int)) := hk.cell 1
  have c0 : W.cell? ⟨b, 0, none⟩ = some (.int .i64 (at_ : Int)) := hb1.cell 0
  have c1 : W.cell? ⟨b, 1, none⟩ = some (.int .i64 (why : Int)) := hb1.cell 1
  have hwz : ((why : Int) == 0) = false := by simp; exact h0
  have hn : ∀ w, (binOp .eql 27 (.iface 78 (.pointer (some ⟨b, 0, none⟩))) .nilIface).run Tryd.prog w = .ok (.bool false) w := fun w => by
    have h : ∀ d : Nat, (Op.equalIn (d + 1) 27 (.iface 78 (.pointer (some ⟨b, 0, none⟩))) .nilIface).run Tryd.prog w = .ok false w := fun d => by simp [Op.equalIn, run_underlying Tryd.underlying27]
    have h2 : (Op.equal 27 (.iface 78 (.pointer (some ⟨b, 0, none⟩))) .nilIface).run Tryd.prog w = .ok false w := h 9999
    simp [binOp, h2]
  have hS : ∀ V, Only [] W V → ((V.cell? ⟨b, 0, none⟩ = some (.int .i64 (at_ : Int)) ∧ V.cell? ⟨b, 1, none⟩ = some (.int .i64 (why : Int))) ∧ (V.cell? ⟨g, 0, none⟩ = some (.int .i64 (at_ : Int)) ∧ V.cell? ⟨g, 1, none⟩ = some (.int .i64 (why : Int)))) := fun V h => ⟨⟨h.cellv c0 (by simp), h.cellv c1 (by simp)⟩, h.cellv g0 (by simp), h.cellv g1 (by simp)⟩
  have KS := Lib.hid hS
  have GE := Lib.hid (fun V (h : Only [] W V) => refusalText_any b at_ why hw ha V (hb1.only h (by simp)) (fun U hU => htab U ((hO.trans h).trans hU)))
  have GU := Lib.hid (fun V (h : Only [] W V) => unwrap_any b (at_ : Int) (why : Int) V (hb1.only h (by simp)))
  have GS := Lib.hid (fun V (h : Only [] W V) => sameErr_errno (why : Int) V)
  have GI := Lib.hid (fun V (h : Only [] W V) => is_any b (at_ : Int) (why : Int) V (hb1.only h (by simp)))
  have Hg := Lib.hid hg
  have HW := Lib.hid hW
  have HO := Lib.hid hO
  have hta := fiAssertR (.pointer (some ⟨b, 0, none⟩))
  clear hg hW hk hb1 hS hO htab
  go_enter Tryd.func12, Tryd.ntmps12
  go_upto_region 1 with (fail)
  rw [← Hg.out, ← HW.out]
  go_wp2
  clear hta hn hwz
  go_region_held3 (fun V => ((V.cell? ⟨b, 0, none⟩ = some (.int .i64 (at_ : Int)) ∧ V.cell? ⟨b, 1, none⟩ = some (.int .i64 (why : Int))) ∧ (V.cell? ⟨g, 0, none⟩ = some (.int .i64 (at_ : Int)) ∧ V.cell? ⟨g, 1, none⟩ = some (.int .i64 (why : Int)))) ∧ Only [] W V)
    (first | exact ⟨KS.out _ ((Only.refl _ _).drew), (Only.refl _ _).drew⟩ | exact ⟨KS.out _ (by assumption), (by assumption)⟩ | fail)
    (first
      | (go_at_call 37
         obtain ⟨-, hF⟩ := (by assumption : _ ∧ Only [] W _)
         refine (GE.out _ hF).mono ?_
         rintro e w1 ⟨⟨s, rfl, hs⟩, hF1⟩
         replace hF1 := hF.trans hF1
         have hs1 := fi_str_ne s hs
         clear hF)
      | (go_at_call 38
         obtain ⟨-, hF⟩ := (by assumption : _ ∧ Only [] W _)
         refine (GU.out _ hF).mono ?_
         rintro e w1 ⟨rfl, rfl⟩)
      | (go_at_call 24
         obtain ⟨-, hF⟩ := (by assumption : _ ∧ Only [] W _)
         refine (GS.out _ hF).mono ?_
         rintro e w1 ⟨rfl, rfl⟩)
      | (go_at_call 39
         obtain ⟨-, hF⟩ := (by assumption : _ ∧ Only [] W _)
         refine (GI.out _ hF).mono ?_
         rintro e w1 ⟨rfl, rfl⟩))
  all_goals
    go_wp2
    go_ret
    exact ⟨rfl, HO.out.trans (by assumption)⟩
end Go.Proofs.YtgohinklnglgeaaDoor
