/- The law ModelNamed answers true for every input, and leaves what it was given alone. No condition. -/
import Derived.Test.YtfnhdkabfkjodaaRows
import Derived.Test.YtfnhdkabfkjodaaNm1
import Derived.Test.YtfnhdkabfkjodaaOpen
import Derived.WalkKit
import Derived.ProofKit
import Derived.OpenShut
import Derived.ShutString
import Derived.ChangeOld
import Derived.Below
import Derived.JoinedCond
import Derived.SizedLaws
import Derived.Test.YtfnhdkabfkjodaaOpenMd
namespace Go.Proofs.Ytfnhdkabfkjodaa.modelNamedRow
open Go.ChangeShapes Go.WideShapes Go.ChangeAt Go.RowKit
open Go.ChangeMaps (open_string shut_string)
set_option linter.unusedVariables false
set_option maxRecDepth 100000
theorem own : ownKnob Try.prog.godebug = none := by kernel_rfl
theorem laidOut : laidOutB Try.prog = true := by kernel_rfl
theorem contract (H : Type) (enc : TypeId × Value → H) (W : World) (base : Nat) (args : Array Value) (ds gs : List (DataW H)) (before : List MemPlace)
    (hval : ∀ (j : Nat) t v, Try.f4.params[j]? = some t → args[j]? = some v → Value.okWide Try.prog W .any base t v)
    (hW : DataW.Whole enc Try.prog Try.f4.params.toList Rows.modelNamedSpec.vars false W args.toList ds gs before)
    (hsz : (DataW.weightsEach Try.prog (Try.f4.params.toList ++ Rows.modelNamedSpec.plain.varTypes Try.prog) (ds ++ gs)).all (· ≤ reachBytes) = true) :
    Calls Try.prog 4 args W fun e W' => ∃ v, e = .returned v ∧ Rows.modelNamedSpec.post enc Try.prog Try.f4 false true false false W args v W' := by
  have hW' := hW
  obtain ⟨p, q, hA0, hV, rfl, hfz, hnd⟩ := hW
  have hA : DataW.TrodAll enc Try.prog W 0 (fun _ => true) true Try.f4.params.toList args.toList ds p := hA0
  rw [Try.params4] at hA hval hsz
  obtain ⟨v0, vs0, d0, ds0, p0, q0, hargs, rfl, rfl, h0, r0⟩ := trodAll_cons hA
  obtain ⟨v1, vs1, d1, ds1, p1, q1, rfl, rfl, rfl, h1, r1⟩ := trodAll_cons r0
  obtain ⟨v2, vs2, d2, ds2, p2, q2, rfl, rfl, rfl, h2, r2⟩ := trodAll_cons r1
  obtain ⟨v3, vs3, d3, ds3, p3, q3, rfl, rfl, rfl, h3, r3⟩ := trodAll_cons r2
  obtain ⟨rfl, rfl, rfl⟩ := trodAll_nil r3
  obtain rfl : args = #[v0, v1, v2, v3] := by cases args; simp_all
  obtain ⟨rfl, rfl⟩ := trodVars_none hV
  have k0 := h0
  have lt0 : ∀ x ∈ p0, x.block < W.heap.size := by obtain ⟨m, hm⟩ := k0; exact DataW.trod_lt m _ _ _ hm
  have k1 := h1
  have lt1 : ∀ x ∈ p1, x.block < W.heap.size := by obtain ⟨m, hm⟩ := k1; exact DataW.trod_lt m _ _ _ hm
  have k2 := h2
  have lt2 : ∀ x ∈ p2, x.block < W.heap.size := by obtain ⟨m, hm⟩ := k2; exact DataW.trod_lt m _ _ _ hm
  have k3 := h3
  have lt3 : ∀ x ∈ p3, x.block < W.heap.size := by obtain ⟨m, hm⟩ := k3; exact DataW.trod_lt m _ _ _ hm
  obtain ⟨X0, Y0, A10, A20, A30, xn0, xc0, yn0, yc0, n10, c10, n20, c20, n30, c30, dX0, dY0, d10, d20, d30, _, _, p10, p20, p30, e0, ed0, tX0, tY0, t10, t20, t30, bk0⟩ := open_data (hval 0 26 v0 rfl rfl) h0
  subst e0
  obtain ⟨L40, rfl, hr40, hc40, _, hb40, hf40, hw0⟩ := open_words tX0
  obtain ⟨L50, rfl, hr50, hc50, _, hb50, hf50, hm0⟩ := open_merges tY0
  obtain ⟨L10, rfl, hr10, hc10, _, hb10, hf10, hi10⟩ := open_spans t10
  obtain ⟨L20, rfl, hr20, hc20, _, hb20, hf20, hi20⟩ := open_spans t20
  obtain ⟨L30, rfl, hr30, hc30, _, hb30, hf30, hi30⟩ := open_spans t30
  have hR0 : Rd5 W (.slice X0 L40.length xc0) (.slice Y0 L50.length yc0) (.slice A10 L10.length c10) (.slice A20 L20.length c20) (.slice A30 L30.length c30) L40 L50 L10 L20 L30 := ⟨⟨_, _, rfl, hc40, hr40⟩, ⟨_, _, rfl, hc50, hr50⟩, ⟨_, _, rfl, hc10, hr10⟩, ⟨_, _, rfl, hc20, hr20⟩, ⟨_, _, rfl, hc30, hr30⟩⟩
  have s40 : L40.length ≤ 8796093021952 := by
    have h := sized_field hsz (j := 0) (t := 26) rfl (by rw [ed0]; rfl) Try.underlying26 (i := 0) rfl rfl (P := Try.prog) Try.underlying22 hf40
    rw [show Try.prog.bytesOf 9 = 16 by kernel_rfl] at h
    omega
  have s50 : L50.length ≤ 5864062014634 := by
    have h := sized_field hsz (j := 0) (t := 26) rfl (by rw [ed0]; rfl) Try.underlying26 (i := 1) rfl rfl (P := Try.prog) Try.underlying23 hf50
    rw [show Try.prog.bytesOf 38 = 24 by kernel_rfl] at h
    omega
  have s10 : L10.length ≤ 17592186043904 := by
    have h := sized_field hsz (j := 0) (t := 26) rfl (by rw [ed0]; rfl) Try.underlying26 (i := 2) rfl rfl (P := Try.prog) Try.underlying24 hf10
    rw [show Try.prog.bytesOf 67 = 8 by kernel_rfl] at h
    omega
  have s20 : L20.length ≤ 17592186043904 := by
    have h := sized_field hsz (j := 0) (t := 26) rfl (by rw [ed0]; rfl) Try.underlying26 (i := 3) rfl rfl (P := Try.prog) Try.underlying24 hf20
    rw [show Try.prog.bytesOf 67 = 8 by kernel_rfl] at h
    omega
  have s30 : L30.length ≤ 17592186043904 := by
    have h := sized_field hsz (j := 0) (t := 26) rfl (by rw [ed0]; rfl) Try.underlying26 (i := 4) rfl rfl (P := Try.prog) Try.underlying24 hf30
    rw [show Try.prog.bytesOf 67 = 8 by kernel_rfl] at h
    omega
  obtain ⟨A1, n1, c1, e1⟩ := okWide_slice Try.underlying35 (hval 1 35 v1 rfl rfl)
  subst e1
  obtain ⟨l1, hl1, hr1, hc1, hm1, hf1, hw1⟩ := open_nums Try.underlying35 Try.underlying3 (by kernel_rfl) h1
  have hb1 : c1 ≤ 140737488351232 := by
    have h := hf1.reach hsz (j := 1) (t := 35) rfl rfl Try.underlying35
    rw [show Try.prog.bytesOf 3 = 8 by kernel_rfl] at h
    omega
  obtain ⟨a2, e2, e2', e2'', w2⟩ := open_int Try.underlying3 (hval 2 3 v2 rfl rfl) h2
  subst e2
  have b2 : -9223372036854775808 ≤ a2 ∧ a2 ≤ 9223372036854775807 := by simpa [Lit.wf, IntKind.min, IntKind.max, IntKind.signed, IntKind.bits] using w2
  obtain ⟨a3, e3, e3', e3'', w3⟩ := open_int Try.underlying3 (hval 3 3 v3 rfl rfl) h3
  subst e3
  have b3 : -9223372036854775808 ≤ a3 ∧ a3 ≤ 9223372036854775807 := by simpa [Lit.wf, IntKind.min, IntKind.max, IntKind.signed, IntKind.bits] using w3
  clear hA0
  refine (modelNamed_walk W _ _ _ _ _ L40 L50 L10 L20 L30 hR0 s40 s50 s10 s20 s30 hw0 hm0 A1 n1 c1 l1 hl1 hr1 hc1 hb1 hw1 a2 b2 a3 b3).mono fun e W' ⟨he, hon⟩ => ?_
  subst he
  have bel := hon.below
  exact ⟨_, rfl, _, _, _, [], _, [], hW', trodAll_mk1 (shut_bool Try.underlying4 _), (trodAll_cons_mk (Below.trod laidOut (by kernel_rfl) (of_decide_eq_true (by kernel_rfl)) k0 bel lt0) (trodAll_cons_mk (Below.trod laidOut (by kernel_rfl) (of_decide_eq_true (by kernel_rfl)) k1 bel lt1) (trodAll_cons_mk (Below.trod laidOut (by kernel_rfl) (of_decide_eq_true (by kernel_rfl)) k2 bel lt2) (trodAll_cons_mk (Below.trod laidOut (by kernel_rfl) (of_decide_eq_true (by kernel_rfl)) k3 bel lt3) trodAll_mk0)))), rfl, bel.frame _, fun h => by cases h⟩
set_option maxRecDepth 100000 in
theorem lifted (os : Os) (started : os.Started) (H : Type) (enc : TypeId × Value → H) :
    ReturnsInHanded {} Try.checked os 4 .any (Rows.modelNamedSpec.pre6 enc Try.prog Try.f4 Rows.modelNamedRow.domain false) (Rows.modelNamedSpec.post enc Try.prog Try.f4 false true false false) := by
  refine returnsInHanded_of_change_sized (C := Try.checked) own started (by kernel_rfl) Try.func4
    (ChangeSpec.witness6 (enc := enc) (C := Try.checked) false ⟨#[], #[.agg #[.slice none 0 0, .slice none 0 0, .slice none 0 0, .slice none 0 0, .slice none 0 0], .slice none 0 0, .int .i64 0, .int .i64 0], []⟩ 8 (by kernel_rfl) (by kernel_rfl) (by kernel_rfl) (by kernel_rfl)) ?_
  intro W base args ds gs before hval hW _ hsz _
  exact contract H enc W base args ds gs before hval hW hsz
theorem proved : Rows.ModelNamedSaid :=
  OpenClaim.holds_of_wide 4 Try.f4 rfl rfl rfl rfl rfl rfl rfl ⟨rfl, rfl, rfl, rfl, rfl⟩ rfl rfl rfl rfl rfl (by kernel_rfl) Try.func4 (by kernel_rfl)
    (of_decide_eq_true (by kernel_rfl)) (by unfold Func.isWrapper; first | (rw [if_pos (by decide +kernel)]; kernel_rfl) | (rw [if_neg (by decide +kernel)]; exact ⟨rfl, rfl⟩))
    (fun os started H enc _ => lifted os started H enc)
#print axioms proved
end Go.Proofs.Ytfnhdkabfkjodaa.modelNamedRow
