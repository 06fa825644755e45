/- The law ClassesRuns answers true for every input, and leaves what it was given alone. No condition. -/
import Derived.Test.YtodgllnmepnpfaaDoorRows
import Derived.Test.YtodgllnmepnpfaaDoorRn6
import Derived.Test.YtodgllnmepnpfaaDoorOpen
import Derived.WalkKit
import Derived.ProofKit
import Derived.OpenShut
import Derived.ShutString
import Derived.ChangeOld
import Derived.Below
import Derived.JoinedCond
import Derived.SizedLaws
import Derived.Test.YtodgllnmepnpfaaDoorOpenSp
import Derived.Test.YtodgllnmepnpfaaDoorLaid
import Derived.Test.YtodgllnmepnpfaaDoorCards
import Derived.Test.YtodgllnmepnpfaaDoorTie
import Derived.Deep.DeepHandedRow
import Derived.Deep.DeepWitnessRowRef
namespace Go.Proofs.YtodgllnmepnpfaaDoor.classesRunsRow
open Go.ChangeShapes Go.WideShapes Go.ChangeAt Go.RowKit
open Go.ChangeMaps (open_string shut_string)
set_option linter.unusedVariables false
set_option maxRecDepth 100000
theorem own : ownKnob Tryd.prog.godebug = none := by kernel_rfl
theorem laidOut : laidOutB Tryd.prog = true := by kernel_rfl
theorem contract (H : Type) (enc : TypeId × Value → H) (W : World) (base : Nat) (args : Array Value) (ds gs : List (DataW H)) (before : List MemPlace)
    (hval : ∀ (j : Nat) t v, Tryd.f4.params[j]? = some t → args[j]? = some v → Value.okWide Tryd.prog W .any base t v)
    (hW : DataW.Whole enc Tryd.prog Tryd.f4.params.toList Rows.classesRunsSpec.vars false W args.toList ds gs before)
    (hsz : (DataW.weightsEach Tryd.prog (Tryd.f4.params.toList ++ Rows.classesRunsSpec.plain.varTypes Tryd.prog) (ds ++ gs)).all (· ≤ reachBytes) = true) (hL : laidMetH Tryd.prog Rows.classesRunsRow.laid W) :
    Calls Tryd.prog 4 args W fun e W' => ∃ v, e = .returned v ∧ Rows.classesRunsSpec.post enc Tryd.prog Tryd.f4 false true false false W args v W' := by
  have hW' := hW
  obtain ⟨p, q, hA0, hV, rfl, hfz, hnd⟩ := hW
  have hA : DataW.TrodAll enc Tryd.prog W 0 (fun _ => true) true Tryd.f4.params.toList args.toList ds p := hA0
  rw [Tryd.params4] at hA hval hsz
  obtain ⟨v0, vs0, d0, ds0, p0, q0, hargs, rfl, rfl, h0, r0⟩ := trodAll_cons hA
  obtain ⟨v1, vs1, d1, ds1, p1, q1, rfl, rfl, rfl, h1, r1⟩ := trodAll_cons r0
  obtain ⟨v2, vs2, d2, ds2, p2, q2, rfl, rfl, rfl, h2, r2⟩ := trodAll_cons r1
  obtain ⟨rfl, rfl, rfl⟩ := trodAll_nil r2
  obtain rfl : args = #[v0, v1, v2] := by cases args; simp_all
  obtain ⟨rfl, rfl⟩ := trodVars_none hV
  have k0 := h0
  have lt0 : ∀ x ∈ p0, x.block < W.heap.size := by obtain ⟨m, hm⟩ := k0; exact DataW.trod_lt m _ _ _ hm
  have k1 := h1
  have lt1 : ∀ x ∈ p1, x.block < W.heap.size := by obtain ⟨m, hm⟩ := k1; exact DataW.trod_lt m _ _ _ hm
  have k2 := h2
  have lt2 : ∀ x ∈ p2, x.block < W.heap.size := by obtain ⟨m, hm⟩ := k2; exact DataW.trod_lt m _ _ _ hm
  obtain ⟨X0, Y0, A10, A20, A30, xn0, xc0, yn0, yc0, n10, c10, n20, c20, n30, c30, dX0, dY0, d10, d20, d30, _, _, p10, p20, p30, e0, ed0, tX0, tY0, t10, t20, t30, bk0⟩ := open_data (hval 0 44 v0 rfl rfl) h0
  subst e0
  obtain ⟨L10, hl10, hr10, hc10, _, hb10, hf10, hi10⟩ := open_spans t10
  obtain ⟨L20, hl20, hr20, hc20, _, hb20, hf20, hi20⟩ := open_spans t20
  obtain ⟨L30, hl30, hr30, hc30, _, hb30, hf30, hi30⟩ := open_spans t30
  have s10 : n10 ≤ 17592186043904 := by
    have h := sized_field hsz (j := 0) (t := 44) rfl (by rw [ed0]; rfl) Tryd.underlying44 (i := 2) rfl rfl (P := Tryd.prog) Tryd.underlying30 hf10
    rw [show Tryd.prog.bytesOf 29 = 8 by kernel_rfl] at h
    omega
  have s20 : n20 ≤ 17592186043904 := by
    have h := sized_field hsz (j := 0) (t := 44) rfl (by rw [ed0]; rfl) Tryd.underlying44 (i := 3) rfl rfl (P := Tryd.prog) Tryd.underlying30 hf20
    rw [show Tryd.prog.bytesOf 29 = 8 by kernel_rfl] at h
    omega
  have s30 : n30 ≤ 17592186043904 := by
    have h := sized_field hsz (j := 0) (t := 44) rfl (by rw [ed0]; rfl) Tryd.underlying44 (i := 4) rfl rfl (P := Tryd.prog) Tryd.underlying30 hf30
    rw [show Tryd.prog.bytesOf 29 = 8 by kernel_rfl] at h
    omega
  obtain ⟨s1, e1, ed1, _, hm1⟩ := open_string Tryd.underlying9 (hval 1 9 v1 rfl rfl) h1
  subst e1
  have hs1 : s1.size ≤ 140737488351232 := by
    have h := sized_string hsz (j := 1) (t := 9) (bytes := s1.data.toList) rfl (by rw [ed1]; rfl)
    rwa [Array.length_toList] at h
  obtain ⟨a2, e2, e2', e2'', w2⟩ := open_int Tryd.underlying3 (hval 2 3 v2 rfl rfl) h2
  subst e2
  have b2 : -9223372036854775808 ≤ a2 ∧ a2 ≤ 9223372036854775807 := by simpa [Lit.wf, IntKind.min, IntKind.max, IntKind.signed, IntKind.bits] using w2
  clear hA0
  have hT : Tabs W := tabs_of_laid hL
  refine (classesRuns_walk W X0 Y0 A10 A20 A30 xn0 xc0 yn0 yc0 n10 n20 n30 c10 c20 c30 L10 L20 L30 hl10 hl20 hl30 s10 s20 s30 W.heap.size hr10 hr20 hr30 s1 hs1 a2 b2 hT).mono fun e W' ⟨he, hon⟩ => ?_
  subst he
  have bel := hon.below
  exact ⟨_, rfl, _, _, _, [], _, [], hW', trodAll_mk1 (shut_bool Tryd.underlying4 _), (trodAll_cons_mk (Below.trod laidOut (by kernel_rfl) (of_decide_eq_true (by kernel_rfl)) k0 bel lt0) (trodAll_cons_mk (Below.trod laidOut (by kernel_rfl) (of_decide_eq_true (by kernel_rfl)) k1 bel lt1) (trodAll_cons_mk (Below.trod laidOut (by kernel_rfl) (of_decide_eq_true (by kernel_rfl)) k2 bel lt2) trodAll_mk0))), rfl, bel.frame _, fun h => by cases h⟩
set_option maxRecDepth 100000 in
set_option maxRecDepth 100000 in
theorem met (os : Os) : laidMet Tryd.prog Rows.classesRunsRow.laid ((laidWorld os).forCall (fun _ _ => 0) ⟨#[], #[.agg #[.slice none 0 0, .slice none 0 0, .slice none 0 0, .slice none 0 0, .slice none 0 0], .string .empty, .int .i64 0], []⟩).memory := laid_met os _
theorem witness_row (os : Os) {H : Type} (enc : TypeId × Value → H) :
    (OpenSpec.ofChange Rows.classesRunsSpec).preRow enc Tryd.prog Tryd.f4 Rows.classesRunsRow.domain false Rows.classesRunsRow.laid ((laidWorld os).forCall (fun _ _ => 0) ⟨#[], #[.agg #[.slice none 0 0, .slice none 0 0, .slice none 0 0, .slice none 0 0, .slice none 0 0], .string .empty, .int .i64 0], []⟩).memory #[.agg #[.slice none 0 0, .slice none 0 0, .slice none 0 0, .slice none 0 0, .slice none 0 0], .string .empty, .int .i64 0] := by
  have hw : (DataW.whole enc Tryd.prog ((laidWorld os).forCall (fun _ _ => 0) ⟨#[], #[.agg #[.slice none 0 0, .slice none 0 0, .slice none 0 0, .slice none 0 0, .slice none 0 0], .string .empty, .int .i64 0], []⟩).memory Tryd.f4.params.toList Rows.classesRunsSpec.vars false #[Value.agg #[.slice none 0 0, .slice none 0 0, .slice none 0 0, .slice none 0 0, .slice none 0 0], Value.string .empty, Value.int .i64 0].toList 8).map (fun x => (x.1, x.2.1)) =
      some ([.agg [.nil, .nil, .nil, .nil, .nil], .lit (.string []), .lit (.int .i64 0)], []) := by kernel_rfl
  obtain ⟨⟨x1, x2, x3⟩, hx, hx1⟩ := Option.map_eq_some_iff.1 hw
  simp only [Prod.mk.injEq] at hx1
  obtain ⟨rfl, rfl⟩ := hx1
  exact OpenSpec.preRow_of_cond 8 hx (by kernel_rfl) (fun k hk => by cases hk) (by kernel_rfl) (met os)
set_option maxRecDepth 100000 in
theorem lifted (os : Os) (started : os.Started) (H : Type) (enc : TypeId × Value → H) (F : Stop.Interp) :
    ReturnsInHanded {} Tryd.checked os 4 .any ((OpenSpec.ofChange Rows.classesRunsSpec).preRow enc Tryd.prog Tryd.f4 Rows.classesRunsRow.domain false Rows.classesRunsRow.laid) (((OpenSpec.ofChange Rows.classesRunsSpec).at F).post enc Tryd.prog Tryd.f4 false true false false) := by
  refine returnsInHanded_of_row (C := Tryd.checked) (s := (OpenSpec.ofChange Rows.classesRunsSpec)) own started (by kernel_rfl) Tryd.func4
    (witness_row_atRef (enc := enc) (C := Tryd.checked) false (laidWorld os) #[.agg #[.slice none 0 0, .slice none 0 0, .slice none 0 0, .slice none 0 0, .slice none 0 0], .string .empty, .int .i64 0] rfl (by kernel_rfl) (by kernel_rfl) (by kernel_rfl) (witness_row os enc)) ?_
  intro W base args ds gs before hval hW _ hcond hsz hL _ _
  exact contract H enc W base args ds gs before hval hW hsz hL
theorem said : Rows.ClassesRunsSaid :=
  OpenClaim.holds_of_cond 4 Tryd.f4 rfl rfl rfl rfl rfl rfl rfl ⟨rfl, rfl, rfl, rfl, rfl⟩ rfl rfl rfl rfl rfl (by kernel_rfl) Tryd.func4 (by kernel_rfl)
    (of_decide_eq_true (by kernel_rfl)) (by unfold Func.isWrapper; first | (rw [if_pos (by decide +kernel)]; kernel_rfl) | (rw [if_neg (by decide +kernel)]; exact ⟨rfl, rfl⟩))
    (fun os started H enc _ F => by rw [OpenClaim.pre_eq_preRow]; exact lifted os started H enc F)
set_option maxRecDepth 100000 in
theorem plain (f : FuncId) (fn : Func) (hf : Tryd.pinned.checked.prog.funcNamed "tessera/tesseralaw4.ClassesRuns" = some f) (hfn : Tryd.pinned.checked.prog.funcs[f]? = some fn) :
    false = Tryd.pinned.checked.prog.looks [] ∧ ∀ (j : Nat) t, fn.params[j]? = some t → Tryd.pinned.checked.prog.wantsStandIn t = false := by
  obtain rfl : f = 4 := Option.some.inj ((show Tryd.prog.funcNamed "tessera/tesseralaw4.ClassesRuns" = some 4 by kernel_rfl).symm.trans hf) |>.symm
  obtain rfl : fn = Tryd.f4 := (Option.some.inj (Tryd.func4.symm.trans hfn)).symm
  refine ⟨by kernel_rfl, fun j t ht => ?_⟩
  show Tryd.prog.wantsStandIn t = false
  rw [Tryd.params4] at ht
  have hall : (#[44, 9, 3] : Array TypeId).all (fun t => Tryd.prog.wantsStandIn t == false) = true := by kernel_rfl
  have hm := (Array.all_eq_true'.1 hall) t (Array.mem_of_getElem? ht)
  exact eq_of_beq hm
theorem proved : Rows.ClassesRunsCardSaid :=
  Claim7.holds_tied_plain_at .later [] _ _ _ _ said (fun _ h => by cases h) (by kernel_rfl) (fun _ h => by cases h) classesRuns_row_tie rfl ⟨rfl, rfl⟩ (by kernel_rfl) rfl plain (by kernel_rfl)
#print axioms proved
end Go.Proofs.YtodgllnmepnpfaaDoor.classesRunsRow
