/- Chapter 6: refusals as errors: errors.Is, sameErr, Unwrap. -/
import Derived.Test.YtgohinklnglgeaaDoorPk1
import Derived.Test.YtgohinklnglgeaaDoorChecked
import Derived.WalkKit
import Derived.RowKitTokens
import Derived.Stop.Asserts
import Derived.LaidEql
import Derived.Laws.Externs
set_option linter.unusedVariables false
set_option linter.unusedSimpArgs false
namespace Go.Proofs.YtgohinklnglgeaaDoor
open Go.RowKit Go.Extern Go.Stop Go.Extern.Stop

/-! closed facts -/
theorem fiTypeOf (v : Value) (w : World) : (Extern.ReflectliteType.typeOf #[.iface 64 v]).run Tryd.prog w = .ok (.iface 153 (.agg #[.pointer (some ⟨3, 64, none⟩)])) w := by kernel_rfl
theorem fiComparable : ∃ e, Extern.find Tryd.f122 = some e ∧ ∀ w, (e #[.agg #[.pointer (some ⟨3, 64, none⟩)]]).run Tryd.prog w = .ok (.bool true) w := ⟨Extern.ReflectliteType.method fun t => do _root_.Go.Extern.Rtype.noPackHeld "Comparable" t; pure (.bool (← typeInfo t).comparable), by kernel_rfl, fun w => by kernel_rfl⟩
theorem fiMethodComparable (v : Value) (w : World) : (Go.method (319) 153 v "Comparable").run Tryd.prog w = .ok (122, v) w := by kernel_rfl
theorem fiMethodUnwrap (v : Value) (w : World) : (Go.method (319) 78 v "Unwrap").run Tryd.prog w = .ok (38, v) w := by kernel_rfl
theorem fiNoIsR (v : Value) (xT : TypeId) (w : World) : (Instr.typeAssert (.iface 78 v) xT 155 true).run Tryd.prog w = .ok (.tuple #[.nilIface, .bool false]) w := run_typeAssert_lacksB Tryd.underlying155 (by kernel_rfl) (by kernel_rfl) v xT w
theorem fiHasUnwrapR (v : Value) (xT : TypeId) (w : World) : (Instr.typeAssert (.iface 78 v) xT 158 true).run Tryd.prog w = .ok (.tuple #[.iface 78 v, .bool true]) w := run_typeAssert_hasB Tryd.underlying158 (by kernel_rfl) v xT w
theorem fiHasUnwrap (v : Value) (w : World) : True := trivial
/-- '(r *Refusal) Unwrap()' -/
theorem unwrap_any (b : Nat) (at_ why : Int) (w : World) (hb : Blk w b 80 [.int .i64 at_, .int .i64 why]) :
    Calls Tryd.prog 38 #[.pointer (some ⟨b, 0, none⟩)] w fun e w' => e = .returned (.iface 64 (.int .i64 why)) ∧ w = w' := by
  have c1 : w.cell? ⟨b, 1, none⟩ = some (.int .i64 why) := hb.cell 1
  go_enter Tryd.func38, Tryd.ntmps38
  go_wp2
  go_ret
  exact ⟨rfl, rfl⟩
theorem eql_errno (k : Int) (w : World) : (binOp .eql 27 (.iface 64 (.int .i64 k)) (.iface 64 (.int .i64 k))).run Tryd.prog w = .ok (.bool true) w := by
  obtain ⟨i, hi, hc⟩ : ∃ i, Tryd.prog.info? 64 = some i ∧ i.comparable = true := by
    have h : (Tryd.prog.info? 64).map (·.comparable) = some true := by kernel_rfl
    exact Option.map_eq_some_iff.1 h
  have h : ∀ d : Nat, (Op.equalIn (d + 2) 27 (.iface 64 (.int .i64 k)) (.iface 64 (.int .i64 k))).run Tryd.prog w = .ok true w := fun d => by
    simp [Op.equalIn, run_underlying Tryd.underlying27, run_underlying Tryd.underlying64, typeInfo, hi, hc]
  have h2 : (Op.equal 27 (.iface 64 (.int .i64 k)) (.iface 64 (.int .i64 k))).run Tryd.prog w = .ok true w := h 9998
  simp [binOp, h2]
set_option maxRecDepth 100000 in
/-- errors.Is(a refusal, its number) -/
theorem is_any (b : Nat) (at_ why : Int) (w : World) (hb : Blk w b 80 [.int .i64 at_, .int .i64 why]) :
    Calls Tryd.prog 39 #[.iface 78 (.pointer (some ⟨b, 0, none⟩)), .iface 64 (.int .i64 why)] w fun e w' => e = .returned (.bool true) ∧ w = w' := by
  have h8 := @run_callFunc_extern Tryd.prog 64 _ Extern.ReflectliteType.typeOf Tryd.func64 (by kernel_rfl) (by kernel_rfl) (by kernel_rfl) (by kernel_rfl)
  obtain ⟨ec, hec, cT⟩ := fiComparable
  have h32 := @run_callFunc_extern Tryd.prog 122 _ ec Tryd.func122 (by kernel_rfl) (by kernel_rfl) (by kernel_rfl) hec
  have tT := fiTypeOf
  have mR := fiMethodComparable
  have nE := fiNoIsR
  have uE := fiHasUnwrapR
  have mU := fiMethodUnwrap
  have c1 : w.cell? ⟨b, 1, none⟩ = some (.int .i64 why) := hb.cell 1
  have he := eql_errno why w
  have hty := run_eql_iface_types (P := Tryd.prog) 78 64 (.pointer (some ⟨b, 0, none⟩)) (.int .i64 why) Tryd.underlying27 (by decide) w
  go_enter Tryd.func39, Tryd.ntmps39
  go_wp2
  refine wp_loop_rounds 2 ?_
  rw [rounds_succ]
  go_wp2
  rw [rounds_succ]
  go_wp2
  go_ret
  exact ⟨rfl, rfl⟩
/-- sameErr(two numbers that are one) -/
theorem sameErr_errno (k : Int) (w : World) : Calls Tryd.prog 24 #[.iface 64 (.int .i64 k), .iface 64 (.int .i64 k)] w fun e w' => e = .returned (.bool true) ∧ w = w' := by
  have he := eql_errno k w
  have hn : ∀ t v, (binOp .eql 27 (.iface t v) .nilIface).run Tryd.prog w = .ok (.bool false) w := fun t v => by
    have h : ∀ d : Nat, (Op.equalIn (d + 1) 27 (.iface t v) .nilIface).run Tryd.prog w = .ok false w := fun d => by simp [Op.equalIn, run_underlying Tryd.underlying27]
    have h2 : (Op.equal 27 (.iface t v) .nilIface).run Tryd.prog w = .ok false w := h 9999
    simp [binOp, h2]
  go_enter Tryd.func24, Tryd.ntmps24
  go_wp2
  go_ret
  exact ⟨rfl, rfl⟩
end Go.Proofs.YtgohinklnglgeaaDoor
