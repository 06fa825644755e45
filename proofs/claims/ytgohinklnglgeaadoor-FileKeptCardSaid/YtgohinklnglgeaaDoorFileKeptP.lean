/- The law FileKept answers true for every input, and leaves what it was given alone. No condition. -/
import Derived.Test.YtgohinklnglgeaaDoorRows
import Derived.Test.YtgohinklnglgeaaDoorFi25K
import Derived.Test.YtgohinklnglgeaaDoorOpenK
import Derived.WalkKit
import Derived.ProofKit
import Derived.OpenShut
import Derived.ShutString
import Derived.ChangeOld
import Derived.Below
import Derived.JoinedCond
import Derived.SizedLaws
import Derived.Test.YtgohinklnglgeaaDoorOpenMdK
import Derived.Test.YtgohinklnglgeaaDoorLaidGK
import Derived.Test.YtgohinklnglgeaaDoorCards
import Derived.Test.YtgohinklnglgeaaDoorTie
import Derived.Deep.DeepHandedRow
import Derived.Deep.DeepWitnessRowRef
namespace Go.Proofs.YtgohinklnglgeaaDoor.fileKeptRow
open Go.ChangeShapes Go.WideShapes Go.ChangeAt Go.RowKit
open Go.ChangeMaps (open_string shut_string)
set_option linter.unusedVariables false
set_option maxRecDepth 100000
theorem own : ownKnob Tryd.prog.godebug = none := by kernel_rfl
theorem laidOut : laidOutB Tryd.prog = true := by kernel_rfl
theorem contract (H : Type) (enc : TypeId × Value → H) (W : World) (base : Nat) (args : Array Value) (ds gs : List (DataW H)) (before : List MemPlace)
    (hval : ∀ (j : Nat) t v, Tryd.f7.params[j]? = some t → args[j]? = some v → Value.okWide Tryd.prog W .any base t v)
    (hW : DataW.Whole enc Tryd.prog Tryd.f7.params.toList Rows.fileKeptSpec.vars false W args.toList ds gs before)
    (hsz : (DataW.weightsEach Tryd.prog (Tryd.f7.params.toList ++ Rows.fileKeptSpec.plain.varTypes Tryd.prog) (ds ++ gs)).all (· ≤ reachBytes) = true) (hL : laidMetH Tryd.prog Rows.fileKeptRow.laid W) :
    Calls Tryd.prog 7 args W fun e W' => ∃ v, e = .returned v ∧ Rows.fileKeptSpec.post enc Tryd.prog Tryd.f7 false true false false W args v W' := by
  have hW' := hW
  obtain ⟨p, q, hA0, hV, rfl, hfz, hnd⟩ := hW
  have hA : DataW.TrodAll enc Tryd.prog W 0 (fun _ => true) true Tryd.f7.params.toList args.toList ds p := hA0
  rw [Tryd.params7] at hA hval hsz
  obtain ⟨v0, vs0, d0, ds0, p0, q0, hargs, rfl, rfl, h0, r0⟩ := trodAll_cons hA
  obtain ⟨v1, vs1, d1, ds1, p1, q1, rfl, rfl, rfl, h1, r1⟩ := trodAll_cons r0
  obtain ⟨rfl, rfl, rfl⟩ := trodAll_nil r1
  obtain rfl : args = #[v0, v1] := by cases args; simp_all
  obtain ⟨rfl, rfl⟩ := trodVars_none hV
  have k0 := h0
  have lt0 : ∀ x ∈ p0, x.block < W.heap.size := by obtain ⟨m, hm⟩ := k0; exact DataW.trod_lt m _ _ _ hm
  have k1 := h1
  have lt1 : ∀ x ∈ p1, x.block < W.heap.size := by obtain ⟨m, hm⟩ := k1; exact DataW.trod_lt m _ _ _ hm
  obtain ⟨X0, Y0, A10, A20, A30, xn0, xc0, yn0, yc0, n10, c10, n20, c20, n30, c30, dX0, dY0, d10, d20, d30, _, _, p10, p20, p30, e0, ed0, tX0, tY0, t10, t20, t30, bk0⟩ := open_data (hval 0 38 v0 rfl rfl) h0
  subst e0
  obtain ⟨L40, rfl, hr40, hc40, _, hb40, hf40, hw0⟩ := open_words tX0
  obtain ⟨L50, rfl, hr50, hc50, _, hb50, hf50, hm0⟩ := open_merges tY0
  obtain ⟨L10, rfl, hr10, hc10, _, hb10, hf10, hi10⟩ := open_spans t10
  obtain ⟨L20, rfl, hr20, hc20, _, hb20, hf20, hi20⟩ := open_spans t20
  obtain ⟨L30, rfl, hr30, hc30, _, hb30, hf30, hi30⟩ := open_spans t30
  have hR0 : Rd5 W (.slice X0 L40.length xc0) (.slice Y0 L50.length yc0) (.slice A10 L10.length c10) (.slice A20 L20.length c20) (.slice A30 L30.length c30) L40 L50 L10 L20 L30 := ⟨⟨_, _, rfl, hc40, hr40⟩, ⟨_, _, rfl, hc50, hr50⟩, ⟨_, _, rfl, hc10, hr10⟩, ⟨_, _, rfl, hc20, hr20⟩, ⟨_, _, rfl, hc30, hr30⟩⟩
  have s40 : L40.length ≤ 8796093021952 := by
    have h := sized_field hsz (j := 0) (t := 38) rfl (by rw [ed0]; rfl) Tryd.underlying38 (i := 0) rfl rfl (P := Tryd.prog) Tryd.underlying34 hf40
    rw [show Tryd.prog.bytesOf 9 = 16 by kernel_rfl] at h
    omega
  have s50 : L50.length ≤ 5864062014634 := by
    have h := sized_field hsz (j := 0) (t := 38) rfl (by rw [ed0]; rfl) Tryd.underlying38 (i := 1) rfl rfl (P := Tryd.prog) Tryd.underlying35 hf50
    rw [show Tryd.prog.bytesOf 75 = 24 by kernel_rfl] at h
    omega
  have s10 : L10.length ≤ 17592186043904 := by
    have h := sized_field hsz (j := 0) (t := 38) rfl (by rw [ed0]; rfl) Tryd.underlying38 (i := 2) rfl rfl (P := Tryd.prog) Tryd.underlying36 hf10
    rw [show Tryd.prog.bytesOf 70 = 8 by kernel_rfl] at h
    omega
  have s20 : L20.length ≤ 17592186043904 := by
    have h := sized_field hsz (j := 0) (t := 38) rfl (by rw [ed0]; rfl) Tryd.underlying38 (i := 3) rfl rfl (P := Tryd.prog) Tryd.underlying36 hf20
    rw [show Tryd.prog.bytesOf 70 = 8 by kernel_rfl] at h
    omega
  have s30 : L30.length ≤ 17592186043904 := by
    have h := sized_field hsz (j := 0) (t := 38) rfl (by rw [ed0]; rfl) Tryd.underlying38 (i := 4) rfl rfl (P := Tryd.prog) Tryd.underlying36 hf30
    rw [show Tryd.prog.bytesOf 70 = 8 by kernel_rfl] at h
    omega
  obtain ⟨A1, n1, c1, e1⟩ := okWide_slice Tryd.underlying22 (hval 1 22 v1 rfl rfl)
  subst e1
  obtain ⟨l1, hl1, hr1, hc1, hm1, hf1⟩ := open_bytes Tryd.underlying22 Tryd.underlying5 (by kernel_rfl) h1
  have hb1 : c1 ≤ 140737488351232 := by
    have h := hf1.reach hsz (j := 1) (t := 22) rfl rfl Tryd.underlying22
    rw [show Tryd.prog.bytesOf 5 = 1 by kernel_rfl] at h
    omega
  clear hA0
  have hT : Tabs W := tabs_of_laid hL
  refine (fileKept_walk W _ _ _ _ _ L40 L50 L10 L20 L30 hR0 s40 s50 s10 s20 s30 hw0 hm0 A1 n1 c1 l1 hl1 hr1 hc1 hb1 hT).mono fun e W' ⟨he, hon⟩ => ?_
  subst he
  have bel := hon.below
  exact ⟨_, rfl, _, _, _, [], _, [], hW', trodAll_mk1 (shut_bool Tryd.underlying4 _), (trodAll_cons_mk (Below.trod laidOut (by kernel_rfl) (of_decide_eq_true (by kernel_rfl)) k0 bel lt0) (trodAll_cons_mk (Below.trod laidOut (by kernel_rfl) (of_decide_eq_true (by kernel_rfl)) k1 bel lt1) trodAll_mk0)), rfl, bel.frame _, fun h => by cases h⟩
set_option maxRecDepth 100000 in
set_option maxRecDepth 100000 in
theorem met (os : Os) : laidMet Tryd.prog Rows.fileKeptRow.laid ((laidWorld os).forCall (fun _ _ => 0) ⟨#[], #[.agg #[.slice none 0 0, .slice none 0 0, .slice none 0 0, .slice none 0 0, .slice none 0 0], .slice none 0 0], []⟩).memory := laid_met os _
theorem witness_row (os : Os) {H : Type} (enc : TypeId × Value → H) :
    (OpenSpec.ofChange Rows.fileKeptSpec).preRow enc Tryd.prog Tryd.f7 Rows.fileKeptRow.domain false Rows.fileKeptRow.laid ((laidWorld os).forCall (fun _ _ => 0) ⟨#[], #[.agg #[.slice none 0 0, .slice none 0 0, .slice none 0 0, .slice none 0 0, .slice none 0 0], .slice none 0 0], []⟩).memory #[.agg #[.slice none 0 0, .slice none 0 0, .slice none 0 0, .slice none 0 0, .slice none 0 0], .slice none 0 0] := by
  have hw : (DataW.whole enc Tryd.prog ((laidWorld os).forCall (fun _ _ => 0) ⟨#[], #[.agg #[.slice none 0 0, .slice none 0 0, .slice none 0 0, .slice none 0 0, .slice none 0 0], .slice none 0 0], []⟩).memory Tryd.f7.params.toList Rows.fileKeptSpec.vars false #[Value.agg #[.slice none 0 0, .slice none 0 0, .slice none 0 0, .slice none 0 0, .slice none 0 0], Value.slice none 0 0].toList 8).map (fun x => (x.1, x.2.1)) =
      some ([.agg [.nil, .nil, .nil, .nil, .nil], .nil], []) := by kernel_rfl
  obtain ⟨⟨x1, x2, x3⟩, hx, hx1⟩ := Option.map_eq_some_iff.1 hw
  simp only [Prod.mk.injEq] at hx1
  obtain ⟨rfl, rfl⟩ := hx1
  exact OpenSpec.preRow_of_cond 8 hx (by kernel_rfl) (fun k hk => by cases hk) (by kernel_rfl) (met os)
set_option maxRecDepth 100000 in
theorem lifted (os : Os) (started : os.Started) (H : Type) (enc : TypeId × Value → H) (F : Stop.Interp) :
    ReturnsInHanded {} Tryd.checked os 7 .any ((OpenSpec.ofChange Rows.fileKeptSpec).preRow enc Tryd.prog Tryd.f7 Rows.fileKeptRow.domain false Rows.fileKeptRow.laid) (((OpenSpec.ofChange Rows.fileKeptSpec).at F).post enc Tryd.prog Tryd.f7 false true false false) := by
  refine returnsInHanded_of_row (C := Tryd.checked) (s := (OpenSpec.ofChange Rows.fileKeptSpec)) own started (by kernel_rfl) Tryd.func7
    (witness_row_atRef (enc := enc) (C := Tryd.checked) false (laidWorld os) #[.agg #[.slice none 0 0, .slice none 0 0, .slice none 0 0, .slice none 0 0, .slice none 0 0], .slice none 0 0] rfl (by kernel_rfl) (by kernel_rfl) (by kernel_rfl) (witness_row os enc)) ?_
  intro W base args ds gs before hval hW _ hcond hsz hL _ _
  exact contract H enc W base args ds gs before hval hW hsz hL
theorem said : Rows.FileKeptSaid :=
  OpenClaim.holds_of_cond 7 Tryd.f7 rfl rfl rfl rfl rfl rfl rfl ⟨rfl, rfl, rfl, rfl, rfl⟩ rfl rfl rfl rfl rfl (by kernel_rfl) Tryd.func7 (by kernel_rfl)
    (of_decide_eq_true (by kernel_rfl)) (by unfold Func.isWrapper; first | (rw [if_pos (by decide +kernel)]; kernel_rfl) | (rw [if_neg (by decide +kernel)]; exact ⟨rfl, rfl⟩))
    (fun os started H enc _ F => by rw [OpenClaim.pre_eq_preRow]; exact lifted os started H enc F)
set_option maxRecDepth 100000 in
theorem plain (f : FuncId) (fn : Func) (hf : Tryd.pinned.checked.prog.funcNamed "tessera/tesseralaw6.FileKept" = some f) (hfn : Tryd.pinned.checked.prog.funcs[f]? = some fn) :
    true = Tryd.pinned.checked.prog.looks [] ∧ ∀ (j : Nat) t, fn.params[j]? = some t → Tryd.pinned.checked.prog.wantsStandIn t = false := by
  obtain rfl : f = 7 := Option.some.inj ((show Tryd.prog.funcNamed "tessera/tesseralaw6.FileKept" = some 7 by kernel_rfl).symm.trans hf) |>.symm
  obtain rfl : fn = Tryd.f7 := (Option.some.inj (Tryd.func7.symm.trans hfn)).symm
  refine ⟨by kernel_rfl, fun j t ht => ?_⟩
  show Tryd.prog.wantsStandIn t = false
  rw [Tryd.params7] at ht
  have hall : (#[38, 22] : Array TypeId).all (fun t => Tryd.prog.wantsStandIn t == false) = true := by kernel_rfl
  have hm := (Array.all_eq_true'.1 hall) t (Array.mem_of_getElem? ht)
  exact eq_of_beq hm
theorem proved : Rows.FileKeptCardSaid :=
  Claim7.holds_tied_plain_at .later [] _ _ _ _ said (fun _ h => by cases h) (by kernel_rfl) (fun _ h => by cases h) fileKept_row_tie rfl ⟨rfl, rfl⟩ (by kernel_rfl) rfl plain (by kernel_rfl)
#print axioms proved
end Go.Proofs.YtgohinklnglgeaaDoor.fileKeptRow
