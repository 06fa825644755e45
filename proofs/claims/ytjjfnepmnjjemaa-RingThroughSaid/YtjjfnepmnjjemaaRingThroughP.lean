/- The law RingThrough answers true for every input, and leaves what it was given alone. No condition. -/
import Derived.Test.YtjjfnepmnjjemaaRows
import Derived.Test.YtjjfnepmnjjemaaRingT
import Derived.Test.YtjjfnepmnjjemaaOpen
import Derived.WalkKit
import Derived.ProofKit
import Derived.OpenShut
import Derived.ShutString
import Derived.ChangeOld
import Derived.Below
import Derived.JoinedCond
import Derived.SizedLaws
namespace Go.Proofs.Ytjjfnepmnjjemaa.ringThroughRow
open Go.ChangeShapes Go.WideShapes Go.ChangeAt Go.RowKit
open Go.ChangeMaps (open_string shut_string)
set_option linter.unusedVariables false
theorem own : ownKnob Try.prog.godebug = none := by kernel_rfl
theorem laidOut : laidOutB Try.prog = true := by kernel_rfl
theorem contract (H : Type) (enc : TypeId × Value → H) (W : World) (base : Nat) (args : Array Value) (ds gs : List (DataW H)) (before : List MemPlace)
    (hval : ∀ (j : Nat) t v, Try.f5.params[j]? = some t → args[j]? = some v → Value.okWide Try.prog W .any base t v)
    (hW : DataW.Whole enc Try.prog Try.f5.params.toList Rows.ringThroughSpec.vars false W args.toList ds gs before)
    (hsz : (DataW.weightsEach Try.prog (Try.f5.params.toList ++ Rows.ringThroughSpec.plain.varTypes Try.prog) (ds ++ gs)).all (· ≤ reachBytes) = true) :
    Calls Try.prog 5 args W fun e W' => ∃ v, e = .returned v ∧ Rows.ringThroughSpec.post enc Try.prog Try.f5 false true false false W args v W' := by
  have hW' := hW
  obtain ⟨p, q, hA0, hV, rfl, hfz, hnd⟩ := hW
  have hA : DataW.TrodAll enc Try.prog W 0 (fun _ => true) true Try.f5.params.toList args.toList ds p := hA0
  rw [Try.params5] at hA hval hsz
  obtain ⟨v0, vs0, d0, ds0, p0, q0, hargs, rfl, rfl, h0, r0⟩ := trodAll_cons hA
  obtain ⟨v1, vs1, d1, ds1, p1, q1, rfl, rfl, rfl, h1, r1⟩ := trodAll_cons r0
  obtain ⟨v2, vs2, d2, ds2, p2, q2, rfl, rfl, rfl, h2, r2⟩ := trodAll_cons r1
  obtain ⟨v3, vs3, d3, ds3, p3, q3, rfl, rfl, rfl, h3, r3⟩ := trodAll_cons r2
  obtain ⟨rfl, rfl, rfl⟩ := trodAll_nil r3
  obtain rfl : args = #[v0, v1, v2, v3] := by cases args; simp_all
  obtain ⟨rfl, rfl⟩ := trodVars_none hV
  have k0 := h0
  have lt0 : ∀ x ∈ p0, x.block < W.heap.size := by obtain ⟨m, hm⟩ := k0; exact DataW.trod_lt m _ _ _ hm
  have k1 := h1
  have lt1 : ∀ x ∈ p1, x.block < W.heap.size := by obtain ⟨m, hm⟩ := k1; exact DataW.trod_lt m _ _ _ hm
  have k2 := h2
  have lt2 : ∀ x ∈ p2, x.block < W.heap.size := by obtain ⟨m, hm⟩ := k2; exact DataW.trod_lt m _ _ _ hm
  have k3 := h3
  have lt3 : ∀ x ∈ p3, x.block < W.heap.size := by obtain ⟨m, hm⟩ := k3; exact DataW.trod_lt m _ _ _ hm
  obtain ⟨a0, e0, e0', e0'', w0⟩ := open_int Try.underlying3 (hval 0 3 v0 rfl rfl) h0
  subst e0
  have b0 : -9223372036854775808 ≤ a0 ∧ a0 ≤ 9223372036854775807 := by simpa [Lit.wf, IntKind.min, IntKind.max, IntKind.signed, IntKind.bits] using w0
  obtain ⟨A1, n1, c1, e1⟩ := okWide_slice Try.underlying26 (hval 1 26 v1 rfl rfl)
  subst e1
  obtain ⟨l1, hl1, hr1, hc1, hm1, hf1⟩ := open_bytes Try.underlying26 Try.underlying5 (by kernel_rfl) h1
  have hb1 : c1 ≤ 140737488351232 := by
    have h := hf1.reach hsz (j := 1) (t := 26) rfl rfl Try.underlying26
    rw [show Try.prog.bytesOf 5 = 1 by kernel_rfl] at h
    omega
  obtain ⟨A2, n2, c2, e2⟩ := okWide_slice Try.underlying37 (hval 2 37 v2 rfl rfl)
  subst e2
  obtain ⟨l2, hl2, hr2, hc2, hm2, hf2, hw2⟩ := open_nums Try.underlying37 Try.underlying3 (by kernel_rfl) h2
  have hb2 : c2 ≤ 140737488351232 := by
    have h := hf2.reach hsz (j := 2) (t := 37) rfl rfl Try.underlying37
    rw [show Try.prog.bytesOf 3 = 8 by kernel_rfl] at h
    omega
  obtain ⟨A3, n3, c3, e3⟩ := okWide_slice Try.underlying37 (hval 3 37 v3 rfl rfl)
  subst e3
  obtain ⟨l3, hl3, hr3, hc3, hm3, hf3, hw3⟩ := open_nums Try.underlying37 Try.underlying3 (by kernel_rfl) h3
  have hb3 : c3 ≤ 140737488351232 := by
    have h := hf3.reach hsz (j := 3) (t := 37) rfl rfl Try.underlying37
    rw [show Try.prog.bytesOf 3 = 8 by kernel_rfl] at h
    omega
  clear hA0
  refine (ringThrough_walk W a0 b0 A1 n1 c1 l1 hl1 hr1 hc1 hb1 A2 n2 c2 l2 hl2 hr2 hc2 hb2 hw2 A3 n3 c3 l3 hl3 hr3 hc3 hb3 hw3).mono fun e W' ⟨he, hon⟩ => ?_
  subst he
  have bel := hon.below
  exact ⟨_, rfl, _, _, _, [], _, [], hW', trodAll_mk1 (shut_bool Try.underlying4 _), (trodAll_cons_mk (Below.trod laidOut (by kernel_rfl) (of_decide_eq_true (by kernel_rfl)) k0 bel lt0) (trodAll_cons_mk (Below.trod laidOut (by kernel_rfl) (of_decide_eq_true (by kernel_rfl)) k1 bel lt1) (trodAll_cons_mk (Below.trod laidOut (by kernel_rfl) (of_decide_eq_true (by kernel_rfl)) k2 bel lt2) (trodAll_cons_mk (Below.trod laidOut (by kernel_rfl) (of_decide_eq_true (by kernel_rfl)) k3 bel lt3) trodAll_mk0)))), rfl, bel.frame _, fun h => by cases h⟩
set_option maxRecDepth 100000 in
theorem lifted (os : Os) (started : os.Started) (H : Type) (enc : TypeId × Value → H) :
    ReturnsInHanded {} Try.checked os 5 .any (Rows.ringThroughSpec.pre6 enc Try.prog Try.f5 Rows.ringThroughRow.domain false) (Rows.ringThroughSpec.post enc Try.prog Try.f5 false true false false) := by
  refine returnsInHanded_of_change_sized (C := Try.checked) own started (by kernel_rfl) Try.func5
    (ChangeSpec.witness6 (enc := enc) (C := Try.checked) false ⟨#[], #[.int .i64 0, .slice none 0 0, .slice none 0 0, .slice none 0 0], []⟩ 8 (by kernel_rfl) (by kernel_rfl) (by kernel_rfl) (by kernel_rfl)) ?_
  intro W base args ds gs before hval hW _ hsz _
  exact contract H enc W base args ds gs before hval hW hsz
theorem proved : Rows.RingThroughSaid :=
  OpenClaim.holds_of_wide 5 Try.f5 rfl rfl rfl rfl rfl rfl rfl ⟨rfl, rfl, rfl, rfl, rfl⟩ rfl rfl rfl rfl rfl (by kernel_rfl) Try.func5 (by kernel_rfl)
    (of_decide_eq_true (by kernel_rfl)) (by unfold Func.isWrapper; first | (rw [if_pos (by decide +kernel)]; kernel_rfl) | (rw [if_neg (by decide +kernel)]; exact ⟨rfl, rfl⟩))
    (fun os started H enc _ => lifted os started H enc)
#print axioms proved
end Go.Proofs.Ytjjfnepmnjjemaa.ringThroughRow
