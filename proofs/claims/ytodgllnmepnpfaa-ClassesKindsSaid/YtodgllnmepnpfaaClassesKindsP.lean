/- The law ClassesKinds answers true for every input, and leaves what it was given alone. No condition. -/
import Derived.Test.YtodgllnmepnpfaaRows
import Derived.Test.YtodgllnmepnpfaaKinds
import Derived.Test.YtodgllnmepnpfaaOpen
import Derived.WalkKit
import Derived.ProofKit
import Derived.OpenShut
import Derived.ShutString
import Derived.ChangeOld
import Derived.Below
import Derived.JoinedCond
import Derived.SizedLaws
import Derived.Test.YtodgllnmepnpfaaOpenSp
namespace Go.Proofs.Ytodgllnmepnpfaa.classesKindsRow
open Go.ChangeShapes Go.WideShapes Go.ChangeAt Go.RowKit
open Go.ChangeMaps (open_string shut_string)
set_option linter.unusedVariables false
theorem own : ownKnob Try.prog.godebug = none := by kernel_rfl
theorem laidOut : laidOutB Try.prog = true := by kernel_rfl
theorem contract (H : Type) (enc : TypeId × Value → H) (W : World) (base : Nat) (args : Array Value) (ds gs : List (DataW H)) (before : List MemPlace)
    (hval : ∀ (j : Nat) t v, Try.f5.params[j]? = some t → args[j]? = some v → Value.okWide Try.prog W .any base t v)
    (hW : DataW.Whole enc Try.prog Try.f5.params.toList Rows.classesKindsSpec.vars false W args.toList ds gs before)
    (hsz : (DataW.weightsEach Try.prog (Try.f5.params.toList ++ Rows.classesKindsSpec.plain.varTypes Try.prog) (ds ++ gs)).all (· ≤ reachBytes) = true) :
    Calls Try.prog 5 args W fun e W' => ∃ v, e = .returned v ∧ Rows.classesKindsSpec.post enc Try.prog Try.f5 false true false false W args v W' := by
  have hW' := hW
  obtain ⟨p, q, hA0, hV, rfl, hfz, hnd⟩ := hW
  have hA : DataW.TrodAll enc Try.prog W 0 (fun _ => true) true Try.f5.params.toList args.toList ds p := hA0
  rw [Try.params5] at hA hval hsz
  obtain ⟨v0, vs0, d0, ds0, p0, q0, hargs, rfl, rfl, h0, r0⟩ := trodAll_cons hA
  obtain ⟨v1, vs1, d1, ds1, p1, q1, rfl, rfl, rfl, h1, r1⟩ := trodAll_cons r0
  obtain ⟨v2, vs2, d2, ds2, p2, q2, rfl, rfl, rfl, h2, r2⟩ := trodAll_cons r1
  obtain ⟨rfl, rfl, rfl⟩ := trodAll_nil r2
  obtain rfl : args = #[v0, v1, v2] := by cases args; simp_all
  obtain ⟨rfl, rfl⟩ := trodVars_none hV
  have k0 := h0
  have lt0 : ∀ x ∈ p0, x.block < W.heap.size := by obtain ⟨m, hm⟩ := k0; exact DataW.trod_lt m _ _ _ hm
  have k1 := h1
  have lt1 : ∀ x ∈ p1, x.block < W.heap.size := by obtain ⟨m, hm⟩ := k1; exact DataW.trod_lt m _ _ _ hm
  have k2 := h2
  have lt2 : ∀ x ∈ p2, x.block < W.heap.size := by obtain ⟨m, hm⟩ := k2; exact DataW.trod_lt m _ _ _ hm
  obtain ⟨X0, Y0, A10, A20, A30, xn0, xc0, yn0, yc0, n10, c10, n20, c20, n30, c30, dX0, dY0, d10, d20, d30, _, _, p10, p20, p30, e0, ed0, tX0, tY0, t10, t20, t30, bk0⟩ := open_data (hval 0 32 v0 rfl rfl) h0
  subst e0
  obtain ⟨L10, hl10, hr10, hc10, _, hb10, hf10, hi10⟩ := open_spans t10
  obtain ⟨L20, hl20, hr20, hc20, _, hb20, hf20, hi20⟩ := open_spans t20
  obtain ⟨L30, hl30, hr30, hc30, _, hb30, hf30, hi30⟩ := open_spans t30
  have s10 : n10 ≤ 17592186043904 := by
    have h := sized_field hsz (j := 0) (t := 32) rfl (by rw [ed0]; rfl) Try.underlying32 (i := 2) rfl rfl (P := Try.prog) Try.underlying22 hf10
    rw [show Try.prog.bytesOf 25 = 8 by kernel_rfl] at h
    omega
  have s20 : n20 ≤ 17592186043904 := by
    have h := sized_field hsz (j := 0) (t := 32) rfl (by rw [ed0]; rfl) Try.underlying32 (i := 3) rfl rfl (P := Try.prog) Try.underlying22 hf20
    rw [show Try.prog.bytesOf 25 = 8 by kernel_rfl] at h
    omega
  have s30 : n30 ≤ 17592186043904 := by
    have h := sized_field hsz (j := 0) (t := 32) rfl (by rw [ed0]; rfl) Try.underlying32 (i := 4) rfl rfl (P := Try.prog) Try.underlying22 hf30
    rw [show Try.prog.bytesOf 25 = 8 by kernel_rfl] at h
    omega
  obtain ⟨a1, e1, e1', e1'', w1⟩ := open_int Try.underlying21 (hval 1 21 v1 rfl rfl) h1
  subst e1
  have b1 : -2147483648 ≤ a1 ∧ a1 ≤ 2147483647 := by simpa [Lit.wf, IntKind.min, IntKind.max, IntKind.signed, IntKind.bits] using w1
  obtain ⟨x2, y2, z2, bad2, e2⟩ := open_item (hval 2 41 v2 rfl rfl) h2
  subst e2
  clear hA0
  refine (classesKinds_walk W X0 Y0 A10 A20 A30 xn0 xc0 yn0 yc0 n10 n20 n30 c10 c20 c30 L10 L20 L30 hl10 hl20 hl30 s10 s20 s30 W.heap.size hr10 hr20 hr30 a1 b1 x2 y2 z2 bad2).mono fun e W' ⟨he, hon⟩ => ?_
  subst he
  have bel := hon.below
  exact ⟨_, rfl, _, _, _, [], _, [], hW', trodAll_mk1 (shut_bool Try.underlying4 _), (trodAll_cons_mk (Below.trod laidOut (by kernel_rfl) (of_decide_eq_true (by kernel_rfl)) k0 bel lt0) (trodAll_cons_mk (Below.trod laidOut (by kernel_rfl) (of_decide_eq_true (by kernel_rfl)) k1 bel lt1) (trodAll_cons_mk (Below.trod laidOut (by kernel_rfl) (of_decide_eq_true (by kernel_rfl)) k2 bel lt2) trodAll_mk0))), rfl, bel.frame _, fun h => by cases h⟩
set_option maxRecDepth 100000 in
theorem lifted (os : Os) (started : os.Started) (H : Type) (enc : TypeId × Value → H) :
    ReturnsInHanded {} Try.checked os 5 .any (Rows.classesKindsSpec.pre6 enc Try.prog Try.f5 Rows.classesKindsRow.domain false) (Rows.classesKindsSpec.post enc Try.prog Try.f5 false true false false) := by
  refine returnsInHanded_of_change_sized (C := Try.checked) own started (by kernel_rfl) Try.func5
    (ChangeSpec.witness6 (enc := enc) (C := Try.checked) false ⟨#[], #[.agg #[.slice none 0 0, .slice none 0 0, .slice none 0 0, .slice none 0 0, .slice none 0 0], .int .i32 0, .agg #[.int .i64 0, .int .i64 0, .int .i32 0, .bool false]], []⟩ 8 (by kernel_rfl) (by kernel_rfl) (by kernel_rfl) (by kernel_rfl)) ?_
  intro W base args ds gs before hval hW _ hsz _
  exact contract H enc W base args ds gs before hval hW hsz
theorem proved : Rows.ClassesKindsSaid :=
  OpenClaim.holds_of_wide 5 Try.f5 rfl rfl rfl rfl rfl rfl rfl ⟨rfl, rfl, rfl, rfl, rfl⟩ rfl rfl rfl rfl rfl (by kernel_rfl) Try.func5 (by kernel_rfl)
    (of_decide_eq_true (by kernel_rfl)) (by unfold Func.isWrapper; first | (rw [if_pos (by decide +kernel)]; kernel_rfl) | (rw [if_neg (by decide +kernel)]; exact ⟨rfl, rfl⟩))
    (fun os started H enc _ => lifted os started H enc)
#print axioms proved
end Go.Proofs.Ytodgllnmepnpfaa.classesKindsRow
