/- Chapter 6's document: Load (printed by gen_fi16.py). -/
import Derived.Test.YtgohinklnglgeaaDoorPk25
import Derived.Test.YtgohinklnglgeaaDoorPk13
import Derived.Test.YtgohinklnglgeaaDoorPk11
import Derived.Test.YtgohinklnglgeaaDoorApStepK
import Derived.Deep.RegionLaw
import Derived.Deep.RegionHeld3
import Derived.Deep.DeepCutAuto
import Derived.Deep.CutBlock
set_option linter.unusedVariables false
set_option linter.unusedSimpArgs false
namespace Go.Proofs.YtgohinklnglgeaaDoor
open Go.RowKit
attribute [local go_sem] Oper.semAt_some

theorem load2R {w : World} {h0 : Nat} {v0 v1 : Value} (hb : Blk w h0 32 [v0, v1]) :
    (((asAddr (.pointer (some ⟨h0, 0, none⟩))).run Tryd.prog w).andThen fun a w₁ => (loadVar 32 a).run Tryd.prog w₁) = Result.ok (Value.agg #[v0, v1]) w := by
  have c0 : w.cell? ⟨h0, 0, none⟩ = some v0 := hb.cell 0
  have c1 : w.cell? ⟨h0, 1, none⟩ = some v1 := hb.cell 1
  go_simp
theorem results_DR {fn : Func} {p q : Tmp} (h : fn.results = #[.cell p 38, .cell q 32]) (tmps : Array Value) {w : World} {h0 h1 : Nat} {v0 v1 v2 v3 v4 x0 x1 : Value} (hp : tmps.getD p undef = .pointer (some ⟨h0, 0, none⟩)) (hq : tmps.getD q undef = .pointer (some ⟨h1, 0, none⟩)) (b1 : Blk w h0 38 [v0, v1, v2, v3, v4]) (b2 : Blk w h1 32 [x0, x1]) :
    (results fn tmps).run Tryd.prog w = .ok (.tuple #[.agg #[v0, v1, v2, v3, v4], .agg #[x0, x1]]) w := by
  have e1 : ((asAddr (.pointer (some ⟨h0, 0, none⟩))).run Tryd.prog w) = .ok ⟨h0, 0, none⟩ w := rfl
  have e2 : ((asAddr (.pointer (some ⟨h1, 0, none⟩))).run Tryd.prog w) = .ok ⟨h1, 0, none⟩ w := rfl
  have l1 := load5 b1
  have l2 := load2R b2
  rw [e1, Result.andThen_ok] at l1
  rw [e2, Result.andThen_ok] at l2
  unfold results
  rw [h]
  have hp' : tmps[p]?.getD undef = .pointer (some ⟨h0, 0, none⟩) := by simpa using hp
  have hq' : tmps[q]?.getD undef = .pointer (some ⟨h1, 0, none⟩) := by simpa using hq
  simp [Sem.run_bind, hp', hq', e1, e2, l1, l2, Sem.run_pure]
def RLoadPost (w : World) (f : List UInt8) (e : Ending) (w' : World) : Prop :=
  Only [] w w' ∧
  ((∃ a y, loadE f = some (a, y) ∧ e = .returned (.tuple #[.agg #[.slice none 0 0, .slice none 0 0, .slice none 0 0, .slice none 0 0, .slice none 0 0], .agg #[.int .i64 (a : Int), .int .i64 (y : Int)]])) ∨
   (loadE f = none ∧ ∃ v0 v1 v2 v3 v4, e = .returned (.tuple #[.agg #[v0, v1, v2, v3, v4], .agg #[.int .i64 0, .int .i64 0]]) ∧ Rd5 w' v0 v1 v2 v3 v4 (pWs f) (pMs f) (pAs f) (pBs f) (pDs f)))
theorem RLoadPost.bad {w : World} {f : List UInt8} {a y : Nat} {w' : World} (h : loadE f = some (a, y)) (hO : Only [] w w') : RLoadPost w f (.returned (.tuple #[.agg #[.slice none 0 0, .slice none 0 0, .slice none 0 0, .slice none 0 0, .slice none 0 0], .agg #[.int .i64 (a : Int), .int .i64 (y : Int)]])) w' := ⟨hO, .inl ⟨a, y, h, rfl⟩⟩
/-- the two results, stored -/
theorem stored2 {P : Program} {w : World} {h2 : Nat} {v0 v1 v2 v3 v4 x0 x1 q0 q1 q2 q3 q4 r0 r1 : Value} (hE : Blk w h2 38 [q0, q1, q2, q3, q4]) (hF : Blk w (h2 + 1) 32 [r0, r1]) :
    Blk (((((((w.setCell ⟨h2, 0, none⟩ v0).setCell ⟨h2, 1, none⟩ v1).setCell ⟨h2, 2, none⟩ v2).setCell ⟨h2, 3, none⟩ v3).setCell ⟨h2, 4, none⟩ v4).setCell ⟨h2 + 1, 0, none⟩ x0).setCell ⟨h2 + 1, 1, none⟩ x1) h2 38 [v0, v1, v2, v3, v4] ∧
    Blk (((((((w.setCell ⟨h2, 0, none⟩ v0).setCell ⟨h2, 1, none⟩ v1).setCell ⟨h2, 2, none⟩ v2).setCell ⟨h2, 3, none⟩ v3).setCell ⟨h2, 4, none⟩ v4).setCell ⟨h2 + 1, 0, none⟩ x0).setCell ⟨h2 + 1, 1, none⟩ x1) (h2 + 1) 32 [x0, x1] ∧
    Only [h2, h2 + 1] w (((((((w.setCell ⟨h2, 0, none⟩ v0).setCell ⟨h2, 1, none⟩ v1).setCell ⟨h2, 2, none⟩ v2).setCell ⟨h2, 3, none⟩ v3).setCell ⟨h2, 4, none⟩ v4).setCell ⟨h2 + 1, 0, none⟩ x0).setCell ⟨h2 + 1, 1, none⟩ x1) := by
  have e1 := ((((hE.set 0 v0).set 1 v1).set 2 v2).set 3 v3).set 4 v4
  have o1 : Only [h2] w (((((w.setCell ⟨h2, 0, none⟩ v0).setCell ⟨h2, 1, none⟩ v1).setCell ⟨h2, 2, none⟩ v2).setCell ⟨h2, 3, none⟩ v3).setCell ⟨h2, 4, none⟩ v4) := (((((Only.refl [h2] w).setCell (.inl (by simp)) _).setCell (.inl (by simp)) _).setCell (.inl (by simp)) _).setCell (.inl (by simp)) _).setCell (.inl (by simp)) _
  have f1 := ((hF.only o1 (by simp)).set 0 x0).set 1 x1
  refine ⟨(e1.far (by simp) _).far (by simp) _, f1, ((o1.mono (by simp)).setCell (.inl (by simp)) _).setCell (.inl (by simp)) _⟩
/-- a loop of the document's Load -/
def R6 {α : Type} (te : TypeId) (sz : Nat) (enc : List α → List Value) (W0 wr : World) (p D : Nat) (F : Value) (S : List (Nat × α) × RS) (k : Nat) (rest ds : Value → List Value) : Prop :=
  ∃ (pv dv : Value) (m1 m2 : Nat) (lp : List Nat) (lx : List α), RRd wr p F S.2 (rest pv) ∧ Blk wr D 38 (ds dv) ∧ wr.ownsRow W0.heap.size 3 1 pv m1 (nats lp) ∧ wr.ownsRow W0.heap.size te sz dv m2 (enc lx) ∧ Only [p, D] W0 wr ∧ m1 ≤ k ∧ m2 ≤ k ∧ (S.2.bad = none → m1 = k ∧ m2 = k ∧ lp = S.1.map Prod.fst ∧ lx = S.1.map Prod.snd)
theorem R6.stuck {α : Type} {te : TypeId} {sz : Nat} {enc : List α → List Value} {W0 wr : World} {p D : Nat} {F : Value} {g : RS → α × RS} (hg : ∀ s : RS, s.bad.isSome = true → (g s).2 = s) {s0 : RS} {k K : Nat} {rest ds : Value → List Value} (h : R6 te sz enc W0 wr p D F (manyS g s0 k) k rest ds) (hk : k ≤ K) (hb : (manyS g s0 k).2.bad.isSome = true) : R6 te sz enc W0 wr p D F (manyS g s0 K) K rest ds := by
  obtain ⟨pv, dv, m1, m2, lp, lx, h1, h2, h3, h4, h5, h6, h7, h8⟩ := h
  have e : (manyS g s0 K).2 = (manyS g s0 k).2 := by
    have := manyS_stick g hg s0 k (K - k) hb
    rwa [show k + (K - k) = K by omega] at this
  refine ⟨pv, dv, m1, m2, lp, lx, by rw [e]; exact h1, h2, h3, h4, h5, by omega, by omega, fun hn => ?_⟩
  rw [e] at hn; rw [hn] at hb; cases hb
theorem numS_max (f : List UInt8) (y z : Nat) (s : RS) : numS f 4294967295 y s = numS f 4294967295 z s := by
  have h := (getVal_bd f (s.at_ : Int)).1
  unfold numS
  split
  · rfl
  · split
    · rfl
    · rw [if_neg (by omega), if_neg (by omega)]
theorem many_bad {α : Type} {g : RS → α × RS} (hg : ∀ s : RS, s.bad.isSome = true → (g s).2 = s) {s : RS} {k : Nat} (h : (manyS g s k).2.bad = none) : s.bad = none := by
  cases hs : s.bad with
  | none => rfl
  | some x =>
    have := manyS_stick g hg s 0 k (by show s.bad.isSome = true; rw [hs]; rfl)
    rw [Nat.zero_add] at this
    rw [this] at h
    exact absurd h (by show s.bad ≠ none; rw [hs]; simp)
theorem num_bad {f : List UInt8} {m y : Nat} {s : RS} (h : (numS f m y s).2.bad = none) : s.bad = none := by
  cases hs : s.bad with
  | none => rfl
  | some x => rw [numS_stick f m y s (by rw [hs]; rfl)] at h; rw [show (0, s).2.bad = s.bad from rfl, hs] at h; cases h
theorem bads {f : List UInt8} (h : (pD f).2.bad = none) : (pW f).2.bad = none ∧ (pM f).2.bad = none ∧ (pA f).2.bad = none ∧ (pB f).2.bad = none := by
  have hs : ∀ s : RS, s.bad.isSome = true → (spanS f s).2 = s := fun s hs => by rw [spanS_stick f s hs]
  have h1 : (pB f).2.bad = none := num_bad (many_bad hs h)
  have h2 : (pA f).2.bad = none := num_bad (many_bad hs h1)
  have h3 : (pM f).2.bad = none := num_bad (many_bad hs h2)
  exact ⟨many_bad (fun s hs => by rw [mergeS_stick f s hs]) h3, h3, h2, h1⟩
theorem own_rd'' {w : World} {base : Nat} {e : TypeId} {size n m : Nat} {v : Value} {xs : List Value} (h : w.ownsRow base e size v n xs) (hn : n = m) : ∃ A c, v = .slice A m c ∧ m ≤ c ∧ Rd w w.heap.size size A m xs := by
  subst hn; exact own_rd h
theorem row_at {w : World} {base n : Nat} {v : Value} {l : List Nat} (h : w.ownsRow base 3 1 v n (nats l)) {i : Nat} (hi : i < l.length) (d : Nat) : ∃ g o c, v = .slice (some ⟨g, o, none⟩) l.length c ∧ w.cell? ⟨g, o + i, none⟩ = some (.int .i64 ((l.getD i d : Nat) : Int)) := by
  have hn : n = l.length := by have := h.1; rw [nats_length] at this; omega
  subst hn
  obtain ⟨A, c, rfl, hc, hR⟩ := own_rd h
  obtain ⟨g, o, u, rfl, -, hu, hcell⟩ := hR.at1 (k := i) hi
  refine ⟨g, o, c, rfl, ?_⟩
  rw [hcell, ← hu]
  simp [nats, hi]
/-- word, in either case -/
theorem Word6.any {w : World} {base p : Nat} {F : Value} {f : List UInt8} {s : RS} {m : Nat} {pl : List Nat} {r0 r1 r2 r3 pv r5 r6 : Value} {e : Ending} {w' : World} (h : Word6 w base p F f s m pl r0 r1 r2 r3 pv r5 r6 e w') (hown : w.ownsRow base 3 1 pv m (nats pl)) (hp : p < base) :
    e = .returned (.string (wordS f s).1) ∧ ∃ pv' m' lp', RRd w' p F (wordS f s).2 [r0, r1, r2, r3, pv', r5, r6] ∧ w'.ownsRow base 3 1 pv' m' (nats lp') ∧ Only (p :: pv.ownBlock.toList) w w' ∧ m' ≤ m + 1 ∧ ((wordS f s).2.bad = none → m' = m + 1 ∧ lp' = pl ++ [s.at_]) := by
  obtain ⟨he, ⟨hb, hr, hO⟩ | ⟨hb, pv', hr, ho, hO⟩⟩ := h
  · refine ⟨he, pv, m, pl, hr, own_only hown hO (by intro x hx; have := (own_lt hown hx).1; simp; omega), hO.mono (by simp), by omega, fun hn => ?_⟩
    rw [hn] at hb; cases hb
  · exact ⟨he, pv', m + 1, pl ++ [s.at_], hr, ho, hO, by omega, fun _ => ⟨rfl, rfl⟩⟩

set_option maxRecDepth 100000 in
set_option maxHeartbeats 16000000 in
theorem refLoad_any (w : World) (A : Option Addr) (n c : Nat) (f : List UInt8) (hl : f.length = n) (hR : Rd w w.heap.size 1 A n (bvs f)) (hn : n ≤ 140737488351232) (hnc : n ≤ c) :
    Calls Tryd.prog 18 #[.slice A n c] w (RLoadPost w f) := by
  obtain ⟨h2, hh2⟩ : ∃ z, z = w.heap.size := ⟨_, rfl⟩
  obtain ⟨W1, hW1⟩ : ∃ z, z = (w.alloc (.cells #[.slice none 0 0, .slice none 0 0, .slice none 0 0, .slice none 0 0, .slice none 0 0] 38)).alloc (.cells #[.int .i64 0, .int .i64 0] 32) := ⟨_, rfl⟩
  have hE1 : Blk W1 h2 38 [.slice none 0 0, .slice none 0 0, .slice none 0 0, .slice none 0 0, .slice none 0 0] := by rw [hW1]; exact (Blk.new' _ _ _ hh2.symm rfl).alloc _
  have hF1 : Blk W1 (h2 + 1) 32 [.int .i64 0, .int .i64 0] := by rw [hW1]; exact Blk.new' _ _ _ (by simp [hh2]) rfl
  have hO1 : Only [] w W1 := by rw [hW1]; exact ((Only.refl _ _).alloc _).alloc _
  have hz1 : W1.heap.size = h2 + 2 := by rw [hW1, hh2]; simp
  have HW := Lib.hid hW1
  have Hh := Lib.hid hh2
  have HEF := Lib.hid (And.intro hE1 hF1)
  have HO1 := Lib.hid hO1
  have Hz1 := Lib.hid hz1
  have HR := Lib.hid (show Rd w h2 1 A n (bvs f) by rw [hh2]; exact hR)
  have Hl := Lib.hid hl
  have Hfin := Lib.hid (show ∀ W', Only [h2, h2 + 1] W1 W' → Only [] w W' from fun W' h => hO1.trans' h (by intro x hx; simp at hx; exact .inr (by omega)))
  clear hW1 hE1 hF1 hO1 hz1 hR hl hh2
  by_cases hlong : 4194304 < n
  · have hli : (4194304 : Int) < (n : Int) := by omega
    have hE := Lib.hid (loadE_long (f := f) (by rw [Hl.out]; omega))
    go_enter Tryd.func18, Tryd.ntmps18
    go_upto_region 1 with (fail)
    rw [← Hh.out, ← HW.out]
    have hE2 := HEF.out.1
    have hF2 := HEF.out.2
    have d0 : W1.cell? ⟨h2, 0, none⟩ = some _ := hE2.cell 0
    have d1 : W1.cell? ⟨h2, 1, none⟩ = some _ := hE2.cell 1
    have d2 : W1.cell? ⟨h2, 2, none⟩ = some _ := hE2.cell 2
    have d3 : W1.cell? ⟨h2, 3, none⟩ = some _ := hE2.cell 3
    have d4 : W1.cell? ⟨h2, 4, none⟩ = some _ := hE2.cell 4
    have g0 : W1.cell? ⟨h2 + 1, 0, none⟩ = some _ := hF2.cell 0
    have g1 : W1.cell? ⟨h2 + 1, 1, none⟩ = some _ := hF2.cell 1
    have z0 := hE2.frozen 0
    have z1 := hE2.frozen 1
    have z2 := hE2.frozen 2
    have z3 := hE2.frozen 3
    have z4 := hE2.frozen 4
    have y0 := hF2.frozen 0
    have y1 := hF2.frozen 1

    go_wp2_with (fail)
    (try simp only [Exit.inBlock, Exit.then])
    obtain ⟨b1, b2, hO⟩ := stored2 (P := Tryd.prog) hE2 hF2 (v0 := .slice none 0 0) (v1 := .slice none 0 0) (v2 := .slice none 0 0) (v3 := .slice none 0 0) (v4 := .slice none 0 0) (x0 := .int .i64 0) (x1 := .int .i64 3)
    refine bodyPost_ret (v := .tuple #[.agg #[.slice none 0 0, .slice none 0 0, .slice none 0 0, .slice none 0 0, .slice none 0 0], .agg #[.int .i64 ((0 : Nat) : Int), .int .i64 ((3 : Nat) : Int)]]) ?_ rfl (RLoadPost.bad hE.out (Hfin.out _ hO))
    exact results_DR rfl _ rfl rfl b1 b2
  · have hli : ¬ (4194304 : Int) < (n : Int) := by omega
    have Hlong := Lib.hid (show ¬ 4194304 < f.length by rw [Hl.out]; omega)
    go_enter Tryd.func18, Tryd.ntmps18
    go_upto_region 1 with (fail)
    rw [← Hh.out, ← HW.out]
    go_upto_block 0 with (fail)
    go_cut [] (fun wx => magicBad f = none ∧ ∃ k, wx = W1.drewN k)
    case first =>
      go_wp2_with (fail)
      go_loopw [4] (fun vi wr => ∃ i k : Nat, vi = .int .i64 (i : Int) ∧ i ≤ 4 ∧ (∀ j, j < i → f[j]? = ([66, 80, 69, 49] : List UInt8)[j]?) ∧ wr = W1.drewN k) (fun vi _ => 4 - (intOf vi).toNat)
      case atStart => exact ⟨0, 0, rfl, by omega, by omega, rfl⟩
      case round =>
        obtain ⟨i, k, rfl, hi, hpre, hwr⟩ := hrel
        have Hpre := Lib.hid hpre
        have hpre2 := Lib.hid hpre
        have hR1 : Rd wr h2 1 A n (bvs f) := by rw [hwr]; exact (HR.out.only HO1.out (by simp)).drewN k
        have hE2 : Blk wr h2 38 [.slice none 0 0, .slice none 0 0, .slice none 0 0, .slice none 0 0, .slice none 0 0] := by rw [hwr]; exact HEF.out.1.drewN k
        have hF2 : Blk wr (h2 + 1) 32 [.int .i64 0, .int .i64 0] := by rw [hwr]; exact HEF.out.2.drewN k
        have Hwr := Lib.hid hwr
        have HO := Lib.hid (show Only [] W1 wr by rw [hwr]; exact (Only.refl _ _).drewN k)
        clear hpre hwr
        by_cases hlt : i < 4
        · obtain ⟨x, hx, hix⟩ := magicIdx i hlt
          by_cases hgood : f[i]? = ([66, 80, 69, 49] : List UInt8)[i]?
          · have hin : i < n := by rw [hx] at hgood; have := (List.getElem?_eq_some_iff.1 hgood).1; rw [Hl.out] at this; exact this
            have hge : decide (n ≤ i) = false := decide_eq_false (by omega)
            obtain ⟨ga, oa, ua, eA, hgB, hu, hcell⟩ := hR1.at1 (k := i) hin
            have hux : ua = .int .u8 (x.toNat : Int) := by
              rw [bvs_get?, hgood, hx] at hu; simpa [bv] using hu.symm
            subst hux eA
            have hbb : ((x.toNat : Int) != (x.toNat : Int)) = false := by simp
            have Hg := Lib.hid hgood
            clear hgood hx hE2 hF2
            go_wp2_with (fail)
            go_quiet (fail)
            go_wp2_with (fail)
            exact ⟨⟨i + 1, _, by go_num, by omega, by
              intro j hj
              rcases Nat.lt_or_ge j i with h | h
              · exact Hpre.out j h
              · obtain rfl : j = i := by omega
                exact Hg.out, by rw [Hwr.out]; exact World.drewN_drewN _ _ _⟩, by simp [intOf]; omega⟩
          · have hE := Lib.hid (loadE_magic Hlong.out (magicBad_at f i hlt hpre2.out hgood))
            have hik : i ≤ n := by
              rcases Nat.lt_or_ge n i with h | h
              · have e := hpre2.out n h
                rw [List.getElem?_eq_none (by rw [Hl.out]; omega)] at e
                have : n < 4 := by omega
                rw [List.getElem?_eq_getElem (by simpa using this)] at e; cases e
              · exact h
            by_cases hin : i = n
            case' pos =>
              have hge : decide (n ≤ i) = true := decide_eq_true (by omega)
              have hieq := Lib.hid hin
              clear hgood hx hix hin
            case' neg =>
              have hge : decide (n ≤ i) = false := decide_eq_false (by omega)
              obtain ⟨ga, oa, ua, eA, hgB, hu, hcell⟩ := hR1.at1 (k := i) (by omega)
              obtain ⟨y, hy⟩ : ∃ y, f[i]? = some y := by
                rw [bvs_get?] at hu
                cases hfi : f[i]? with
                | none => rw [hfi] at hu; cases hu
                | some y => exact ⟨y, rfl⟩
              have hux : ua = .int .u8 (y.toNat : Int) := by
                rw [bvs_get?, hy] at hu; simpa [bv] using hu.symm
              subst hux eA
              have hxy : x ≠ y := by intro e; apply hgood; rw [hy, hx, e]
              have hbb : ((y.toNat : Int) != (x.toNat : Int)) = true := by
                simp only [bne_iff_ne, ne_eq]
                intro e; exact hxy (UInt8.toNat_inj.1 (by omega))
              have hin2 : i < n := by omega
              clear hgood hx hy hu hxy hin
            all_goals
              have d0 : wr.cell? ⟨h2, 0, none⟩ = some _ := hE2.cell 0
              have d1 : wr.cell? ⟨h2, 1, none⟩ = some _ := hE2.cell 1
              have d2 : wr.cell? ⟨h2, 2, none⟩ = some _ := hE2.cell 2
              have d3 : wr.cell? ⟨h2, 3, none⟩ = some _ := hE2.cell 3
              have d4 : wr.cell? ⟨h2, 4, none⟩ = some _ := hE2.cell 4
              have g0 : wr.cell? ⟨h2 + 1, 0, none⟩ = some _ := hF2.cell 0
              have g1 : wr.cell? ⟨h2 + 1, 1, none⟩ = some _ := hF2.cell 1
              have z0 := hE2.frozen 0
              have z1 := hE2.frozen 1
              have z2 := hE2.frozen 2
              have z3 := hE2.frozen 3
              have z4 := hE2.frozen 4
              have y0 := hF2.frozen 0
              have y1 := hF2.frozen 1

              have HE2 := Lib.hid (And.intro hE2 hF2)
              clear hE2 hF2
              go_wp2_with (fail)
              go_quiet (fail)
              go_wp2_with (fail)
              (try simp only [Exit.inBlock, Exit.then])
              obtain ⟨b1, b2, hO⟩ := stored2 (P := Tryd.prog) (HE2.out.1.drewN nq) (HE2.out.2.drewN nq) (v0 := .slice none 0 0) (v1 := .slice none 0 0) (v2 := .slice none 0 0) (v3 := .slice none 0 0) (v4 := .slice none 0 0) (x0 := .int .i64 (i : Int)) (x1 := .int .i64 11)
              refine bodyPost_ret (v := .tuple #[.agg #[.slice none 0 0, .slice none 0 0, .slice none 0 0, .slice none 0 0, .slice none 0 0], .agg #[.int .i64 (i : Int), .int .i64 ((11 : Nat) : Int)]]) ?_ rfl (RLoadPost.bad hE.out (Hfin.out _ (((HO.out.drewN nq).mono (by simp)).trans hO)))
              exact results_DR rfl _ rfl rfl b1 b2
        · have h4 : i = 4 := by omega
          have hmb := magicBad_all f (by rw [h4] at hpre2; exact hpre2.out)
          have Hmb := Lib.hid hmb
          clear hmb hE2 hF2 hR1
          go_wp2_with (fail)
          go_meet
          case rel => exact ⟨Hmb.out, _, Hwr.out⟩
    case rest =>
    obtain ⟨hmb, k, hwc⟩ := hcut
    have H4 := Lib.hid (magicBad_len f hmb)
    have Hmb := Lib.hid hmb
    have hOc : Only [] W1 wc := by rw [hwc]; exact (Only.refl _ _).drewN k
    have hpz : wc.heap.size = h2 + 2 := by rw [hwc]; exact Hz1.out
    obtain ⟨p, hp⟩ : ∃ z, z = wc.heap.size := ⟨_, rfl⟩
    have HOc := Lib.hid hOc
    have hph : h2 + 2 ≤ p := by omega
    clear hwc hmb hOc hpz
    go_upto_region 11 with (fail)
    rw [← hp]
    refine name_it (p := fun y => Code.wp _ _ _ _ y) ?_
    intro W2 H2
    have hp2 : RRd W2 p (.slice A n c) ⟨4, none⟩ [.slice none 0 0, .slice none 0 0, .slice none 0 0, .slice none 0 0, .slice none 0 0, .slice none 0 0, .int .i64 0] := by rw [H2.out]; exact ⟨(Blk.new' _ _ _ hp.symm rfl).alloc _, fun x hx => by cases hx⟩
    have hD2 : Blk W2 (p + 1) 38 [.slice none 0 0, .slice none 0 0, .slice none 0 0, .slice none 0 0, .slice none 0 0] := by rw [H2.out]; exact Blk.new' _ _ _ (by simp; omega) rfl
    have hO2 : Only [] W1 W2 := by rw [H2.out]; exact (HOc.out.alloc _).alloc _
    have HO2 := Lib.hid hO2
    have hR2 := (HR.out.only HO1.out (by simp)).only hO2 (by simp)
    clear H2 hp HOc
    have hnum := number6_any W2 p h2 A n c f Hl.out hR2 (by omega) hn hnc ⟨4, none⟩ (by have := H4.out; have := Hl.out; simp only; omega) [.slice none 0 0, .slice none 0 0, .slice none 0 0, .slice none 0 0, .slice none 0 0, .slice none 0 0, .int .i64 0] 4096 4 (by omega) (.inl (by omega)) hp2
    obtain ⟨NN, hNN⟩ : ∃ z, z = pN f := ⟨_, rfl⟩
    rw [show numS f 4096 4 ⟨4, none⟩ = NN from hNN.symm] at hnum
    have hNb := pN_at f H4.out
    rw [← hNN] at hNb
    have HNN := Lib.hid hNN
    have Hnum := Lib.hid hnum
    have HD2 := Lib.hid hD2
    have HR2 := Lib.hid hR2
    clear hnum hNN hp2 hD2 hO2 hR2
    go_wp2_with (fail)
    refine Hnum.out.mono ?_
    rintro e W3 ⟨rfl, hp3, hO3⟩
    have hD3 := HD2.out.only hO3 (by simp)
    have hR3 := HR2.out.only hO3 (by simp; omega)
    have hz3 : p + 2 ≤ W3.heap.size := hD3.lt
    obtain ⟨N, S0⟩ := NN
    simp only at hp3 hNb
    obtain ⟨hs0, hN4⟩ := hNb
    have Hp1 := Lib.hid hp3
    have HD1 := Lib.hid hD3
    have HR3 := Lib.hid hR3
    have HO3 := Lib.hid (show Only [] W1 W3 from HO2.out.trans' hO3 (by intro x hx; simp at hx; subst hx; exact .inr (by rw [Hz1.out]; omega)))
    have HS0 := Lib.hid hs0
    clear hp3 hD3 hR3 hO3 hs0 Hnum HD2 HR2 HO2
    go_upto_block 2 with (fail)
    go_cut [] (fun wx => R6 9 1 wds W3 wx p (p + 1) (.slice A n c) (manyS (wordS f) S0 N) N (fun x => [.slice none 0 0, .slice none 0 0, .slice none 0 0, .slice none 0 0, x, .slice none 0 0, .int .i64 0]) (fun x => [x, .slice none 0 0, .slice none 0 0, .slice none 0 0, .slice none 0 0]))
    case first =>
      go_wp2_with (fail)
      go_loopw [9] (fun vi wr => ∃ k : Nat, vi = .int .i64 (k : Int) ∧ k ≤ N ∧ R6 9 1 wds W3 wr p (p + 1) (.slice A n c) (manyS (wordS f) S0 k) k (fun x => [.slice none 0 0, .slice none 0 0, .slice none 0 0, .slice none 0 0, x, .slice none 0 0, .int .i64 0]) (fun x => [x, .slice none 0 0, .slice none 0 0, .slice none 0 0, .slice none 0 0])) (fun vi _ => N - (intOf vi).toNat)
      case atStart => exact ⟨0, rfl, by omega, .slice none 0 0, .slice none 0 0, 0, 0, [], [], Hp1.out, HD1.out, ⟨rfl, .inl ⟨rfl, rfl⟩⟩, ⟨rfl, .inl ⟨rfl, rfl⟩⟩, .refl _ _, by omega, by omega, fun _ => ⟨rfl, rfl, rfl, rfl⟩⟩
      case round =>
        obtain ⟨k, rfl, hk, hrelL⟩ := hrel
        have HL := Lib.hid hrelL
        obtain ⟨S, hS⟩ : ∃ S, S = manyS (wordS f) S0 k := ⟨_, rfl⟩
        have hSa : S.2.at_ ≤ n := by rw [hS, ← Hl.out]; exact (manyS_at _ _ (fun s => wordS_at f s) _ HS0.out k).1
        have hS1 : manyS (wordS f) S0 (k + 1) = (S.1 ++ [(S.2.at_, (wordS f S.2).1)], (wordS f S.2).2) := by rw [hS]; rfl
        rw [← hS] at hrelL
        have HS := Lib.hid hS
        have HS1 := Lib.hid hS1
        clear hS hS1
        obtain ⟨L, s⟩ := S
        obtain ⟨pv, dv, m1, m2, lp, lx, hr, hD, hop, hod, hO, hm1, hm2, hg⟩ := hrelL
        simp only at hr hg hSa hD
        have c3 : wr.cell? ⟨p, 3, none⟩ = some (.int .i64 ((badC s).2 : Int)) := hr.1.cell 3
        by_cases hlt : k < N
        · cases hsb : s.bad with
          | some x =>
            have hg1 := hr.good (by rw [hsb]; rfl)
            have hg2 : ((((badC s).2 : Nat) : Int) == 0) = false := by simp; exact hg1
            have Htb := Lib.hid (show (manyS (wordS f) S0 k).2.bad.isSome = true by rw [← HS.out]; simp only; rw [hsb]; rfl)
            clear hop hod hr hO hg hsb hg1 hD
            go_wp2_with (fail)
            go_meet
            case rel => exact HL.out.stuck (fun s hs => by rw [wordS_stick f s hs]) (by omega) Htb.out
          | none =>
            obtain ⟨e1, e2, rfl, rfl⟩ := hg hsb
            obtain rfl : k = m1 := e1.symm
            obtain rfl : k = m2 := e2.symm
            have e0 : badC s = (0, 0) := by unfold badC; rw [hsb]; rfl
            rw [e0] at c3
            have hpv : ∀ x, pv.ownBlock = some x → x ≠ p ∧ x ≠ p + 1 := fun x hx => by have := (own_lt hop hx).1; omega
            have hdv : ∀ x, dv.ownBlock = some x → x ≠ p ∧ x ≠ p + 1 := fun x hx => by have := (own_lt hod hx).1; omega
            have c0 : wr.cell? ⟨p + 1, 0, none⟩ = some dv := hD.cell 0
            have hbz : W3.heap.size ≤ wr.heap.size := hO.size
            have HG := Lib.hid (fun W (h : Only [] wr W) => (word6_any W p h2 A n c f Hl.out ((HR3.out.only hO (by simp; omega)).only h (by simp)) (by omega) hn hnc s hSa (.slice none 0 0) (.slice none 0 0) (.slice none 0 0) (.slice none 0 0) pv (.slice none 0 0) (.int .i64 0) (hr.only h (by simp)) W3.heap.size k (L.map Prod.fst) (by omega) (by have := h.size; omega) (by omega) (own_only hop h (by simp))).mono (fun e w' hp => hp.any (own_only hop h (by simp)) (by omega)))
            obtain ⟨WW, hWW⟩ : ∃ z, z = wordS f s := ⟨_, rfl⟩
            rw [← hWW] at HG
            have HWW := Lib.hid hWW
            have HO := Lib.hid hO
            clear hWW hr hsb e0 hg e1 e2 hO
            obtain ⟨wd, t1⟩ := WW
            go_upto_region 15 with (fail)
            go_region_law (first
              | (have hb1 := hO1.size
                 refine step_append_row (v := dv) (by rfl) (.tmp 64) (.tmp 67) 34 (by rfl) W3.heap.size 9 (.string ByteArray.empty) 1 16 Tryd.underlying34 strInfo6 rfl (by omega) (n := k) (xs := wds (L.map Prod.snd)) (by rfl)
                   (by first | exact own_only hod2 ((Only.refl [] w1).alloc _) (by simp) | exact own_only hod2 (((Only.refl [] w1).alloc _).drew) (by simp) | exact own_only hod2 (((Only.refl [] w1).drew).alloc _) (by simp)) 1 (by rfl)
                   (by first | exact Rd.whole (Blk.new' _ _ _ rfl rfl) rfl | exact (Rd.whole (Blk.new' _ _ _ rfl rfl) rfl).drew) (by simp [Value.oneCell']) (by simp only [maxLen]; omega) (by omega) (by simp; omega) ?_
                 intro dv1 wz ho2 hOz hn2
                 replace hOz : Only dv.ownBlock.toList w1 wz := by first | exact ((Only.refl _ w1).alloc _).trans hOz | exact (((Only.refl _ w1).alloc _).drew).trans hOz | exact (((Only.refl _ w1).drew).alloc _).trans hOz
                 have hD3 := hD2.only hOz (by intro hx; exact (hdv (p + 1) (by simpa using hx)).2 rfl)
                 have d3 : wz.frozen? ⟨p + 1, 0, none⟩ = false := hD3.frozen 0
                 have d4 : wz.cell? ⟨p + 1, 0, none⟩ = some dv := hD3.cell 0
                 obtain ⟨A2, c2', rfl, -⟩ := own_slice ho2)
              | (go_simp
                 go_at_call 48
                 refine (HG.out _ ?_).mono ?_
                 exact (by first | exact Only.refl [] wr | exact (Only.refl [] wr).drew)
                 rintro e w1 ⟨rfl, pv1, m', lp', hr1, hop1, hO1, hm', hg1⟩
                 replace hO1 : Only (p :: pv.ownBlock.toList) wr w1 := by first | exact hO1 | exact hO1.ofDrew
                 have hD2 := hD.only hO1 (by intro hx; simp at hx; exact (hpv _ hx).2 rfl)
                 have d0 : w1.cell? ⟨p + 1, 0, none⟩ = some dv := hD2.cell 0
                 have d0a : ∀ o, (w1.alloc o).cell? ⟨p + 1, 0, none⟩ = some dv := fun o => (hD2.alloc o).cell 0
                 have hod2 := own_only hod hO1 (by
                   intro x hx hxx; simp at hxx
                   rcases hxx with e | e
                   · exact (hdv x hx).1 e
                   · exact own_apart hod hop (by decide) hx e)))
            all_goals
              go_wp2
              go_roundw
              case rel =>
                have hT : ∀ u, Only ((p + 1) :: dv.ownBlock.toList) w1 (wz.setCell ⟨p + 1, 0, none⟩ u) := fun u => (hOz.mono (fun x hx => .inl (List.mem_cons_of_mem _ hx))).setCell (.inl (by simp)) _
                refine ⟨k + 1, by go_num, by omega, ?_⟩
                rw [HS1.out, ← HWW.out]
                refine ⟨pv1, .slice A2 (k + 1) c2', m', k + 1, lp', L.map Prod.snd ++ [wd], ?_, hD3.set 0 _, ?_, ?_, ?_, hm', by omega, fun hb => ⟨(hg1 hb).1, rfl, by rw [(hg1 hb).2]; simp, by simp⟩⟩
                · exact hr1.only (hT _) (by intro hx; simp at hx; exact (hdv p hx).1 rfl)
                · exact own_only hop1 (hT _) (by
                    intro x hx hxx; simp at hxx
                    rcases hxx with e | e
                    · have := (own_lt hop1 hx).1; omega
                    · exact own_apart hop1 hod2 (by decide) hx e)
                · have := own_only ho2 ((Only.refl [p + 1] wz).setCell (p := ⟨p + 1, 0, none⟩) (.inl (by simp)) (.slice A2 (k + 1) c2')) (by intro x hx; have := (own_lt ho2 hx).1; simp; omega)
                  rw [wds_snoc]
                  exact this
                · refine (HO.out.trans' hO1 ?_).trans' (hT _) ?_
                  · intro x hx; simp at hx
                    rcases hx with rfl | e
                    · exact .inl (by simp)
                    · exact .inr (own_lt hop e).1
                  · intro x hx; simp at hx
                    rcases hx with rfl | e
                    · exact .inl (by simp)
                    · exact .inr (own_lt hod e).1
              case measure => simp [intOf]; omega
        · obtain rfl : k = N := by omega
          clear hop hod hr hO hg hD
          go_wp2_with (fail)
          go_meet
          case rel => exact HL.out
    case rest =>
    obtain ⟨q4, v0, mA, mB, lpA, lxA, hr4, hD4, hq4, hv0, hO4, hmA, hmB, hgA⟩ := hcut
    obtain ⟨W4, rfl⟩ : ∃ z : World, z = wc := ⟨_, rfl⟩
    have hpW : pW f = manyS (wordS f) S0 N := by unfold pW; rw [← HNN.out]
    rw [← hpW] at hr4 hgA
    obtain ⟨S1, hS1⟩ : ∃ z, z = (pW f).2 := ⟨_, rfl⟩
    rw [← hS1] at hr4
    simp only at hr4 hD4
    have Hp2 := Lib.hid hr4
    have HD2 := Lib.hid hD4
    have HR4 := Lib.hid (HR3.out.only hO4 (by simp; omega))
    have hz4 : p + 2 ≤ W4.heap.size := Nat.le_trans hz3 hO4.size
    have HS1a := Lib.hid (show S1.at_ ≤ f.length by rw [hS1]; exact (pW_at f H4.out).1)
    have HS1e := Lib.hid hS1
    have Hq4 := Lib.hid hq4
    have Hv0 := Lib.hid hv0
    have HO4 := Lib.hid hO4
    have HgA := Lib.hid hgA
    clear hpW hS1 hr4 hD4 hq4 hv0 hO4 hgA
    go_upto_block 4 with (fail)
    go_cut [] (fun wx => R6 75 3 mgs W4 wx p (p + 1) (.slice A n c) (manyS (mergeS f) S1 N) N (fun x => [.slice none 0 0, .slice none 0 0, .slice none 0 0, .slice none 0 0, q4, x, .int .i64 0]) (fun x => [v0, x, .slice none 0 0, .slice none 0 0, .slice none 0 0]))
    case first =>
      go_wp2_with (fail)
      go_loopw [10] (fun vi wr => ∃ k : Nat, vi = .int .i64 (k : Int) ∧ k ≤ N ∧ R6 75 3 mgs W4 wr p (p + 1) (.slice A n c) (manyS (mergeS f) S1 k) k (fun x => [.slice none 0 0, .slice none 0 0, .slice none 0 0, .slice none 0 0, q4, x, .int .i64 0]) (fun x => [v0, x, .slice none 0 0, .slice none 0 0, .slice none 0 0])) (fun vi _ => N - (intOf vi).toNat)
      case atStart => exact ⟨0, rfl, by omega, .slice none 0 0, .slice none 0 0, 0, 0, [], [], Hp2.out, HD2.out, ⟨rfl, .inl ⟨rfl, rfl⟩⟩, ⟨rfl, .inl ⟨rfl, rfl⟩⟩, .refl _ _, by omega, by omega, fun _ => ⟨rfl, rfl, rfl, rfl⟩⟩
      case round =>
        obtain ⟨k, rfl, hk, hrelL⟩ := hrel
        have HL := Lib.hid hrelL
        obtain ⟨S, hS⟩ : ∃ S, S = manyS (mergeS f) S1 k := ⟨_, rfl⟩
        have hSa : S.2.at_ ≤ n := by rw [hS, ← Hl.out]; exact (manyS_at _ _ (fun s => mergeS_at f s) _ HS1a.out k).1
        have hS1 : manyS (mergeS f) S1 (k + 1) = (S.1 ++ [(S.2.at_, (mergeS f S.2).1)], (mergeS f S.2).2) := by rw [hS]; rfl
        rw [← hS] at hrelL
        have HS := Lib.hid hS
        have HS1 := Lib.hid hS1
        clear hS hS1
        obtain ⟨L, s⟩ := S
        obtain ⟨pv, dv, m1, m2, lp, lx, hr, hD, hop, hod, hO, hm1, hm2, hg⟩ := hrelL
        simp only at hr hg hSa hD
        have c3 : wr.cell? ⟨p, 3, none⟩ = some (.int .i64 ((badC s).2 : Int)) := hr.1.cell 3
        by_cases hlt : k < N
        · cases hsb : s.bad with
          | some x =>
            have hg1 := hr.good (by rw [hsb]; rfl)
            have hg2 : ((((badC s).2 : Nat) : Int) == 0) = false := by simp; exact hg1
            have Htb := Lib.hid (show (manyS (mergeS f) S1 k).2.bad.isSome = true by rw [← HS.out]; simp only; rw [hsb]; rfl)
            clear hop hod hr hO hg hsb hg1 hD
            go_wp2_with (fail)
            go_meet
            case rel => exact HL.out.stuck (fun s hs => by rw [mergeS_stick f s hs]) (by omega) Htb.out
          | none =>
            obtain ⟨e1, e2, rfl, rfl⟩ := hg hsb
            obtain rfl : k = m1 := e1.symm
            obtain rfl : k = m2 := e2.symm
            have e0 : badC s = (0, 0) := by unfold badC; rw [hsb]; rfl
            rw [e0] at c3
            have c1 : wr.cell? ⟨p, 1, none⟩ = some (.int .i64 (s.at_ : Int)) := hr.1.cell 1
            have hpv : ∀ x, pv.ownBlock = some x → x ≠ p ∧ x ≠ p + 1 := fun x hx => by have := (own_lt hop hx).1; omega
            have hdv : ∀ x, dv.ownBlock = some x → x ≠ p ∧ x ≠ p + 1 := fun x hx => by have := (own_lt hod hx).1; omega
            have hbz : W4.heap.size ≤ wr.heap.size := hO.size
            have GN := fun W (s' : RS) (hW : Only [p] wr W) (hs' : s'.at_ ≤ n) (hr' : RRd W p (.slice A n c) s' [.slice none 0 0, .slice none 0 0, .slice none 0 0, .slice none 0 0, q4, pv, .int .i64 0]) => number6_any W p h2 A n c f Hl.out ((HR4.out.only hO (by simp; omega)).only hW (by simp; omega)) (by omega) hn hnc s' hs' [.slice none 0 0, .slice none 0 0, .slice none 0 0, .slice none 0 0, q4, pv, .int .i64 0] 2147483647 24 (by omega) (.inl (by omega)) hr'
            obtain ⟨⟨x1, t1⟩, hX1⟩ : ∃ z, z = numS f 2147483647 24 s := ⟨_, rfl⟩
            have ha1 : t1.at_ ≤ n := by have := numS_at f 2147483647 24 s (by rw [Hl.out]; omega); rw [← hX1, Hl.out] at this; exact this.1
            have G1 := GN wr s (.refl _ _) hSa hr
            rw [← hX1] at G1
            obtain ⟨⟨x2, t2⟩, hX2⟩ : ∃ z, z = numS f 2147483647 24 t1 := ⟨_, rfl⟩
            have ha2 : t2.at_ ≤ n := by have := numS_at f 2147483647 24 t1 (by rw [Hl.out]; omega); rw [← hX2, Hl.out] at this; exact this.1
            have G2 := Lib.hid (fun W (hW : Only [p] wr W) (hr' : RRd W p (.slice A n c) t1 [.slice none 0 0, .slice none 0 0, .slice none 0 0, .slice none 0 0, q4, pv, .int .i64 0]) => GN W t1 hW ha1 hr')
            rw [← hX2] at G2
            obtain ⟨⟨x3, t3⟩, hX3⟩ : ∃ z, z = numS f 2147483647 24 t2 := ⟨_, rfl⟩
            have G3 := Lib.hid (fun W (hW : Only [p] wr W) (hr' : RRd W p (.slice A n c) t2 [.slice none 0 0, .slice none 0 0, .slice none 0 0, .slice none 0 0, q4, pv, .int .i64 0]) => GN W t2 hW ha2 hr')
            rw [← hX3] at G3
            have HWW := Lib.hid (show ((⟨(x1 : Int), (x2 : Int), (x3 : Int)⟩ : Mg), t3) = mergeS f s by unfold mergeS; rw [← hX1]; simp only; rw [← hX2]; simp only; rw [← hX3])
            have G1' := Lib.hid G1
            have HO := Lib.hid hO
            have Hop := Lib.hid hop
            have Hod := Lib.hid hod
            have HD := Lib.hid hD
            clear GN hX1 hX2 hX3 hr hg hsb e0 G1 hO hop hod hD e1 e2
            go_wp2_with (fail)
            refine G1'.out.mono ?_
            rintro e w1 ⟨rfl, hr1, hO1⟩
            clear c3 c1 G1'
            go_wp2_with (fail)
            refine (G2.out w1 hO1 hr1).mono ?_
            rintro e w2 ⟨rfl, hr2, hO2⟩
            replace hO2 := hO1.trans hO2
            clear hr1 hO1 G2
            go_wp2_with (fail)
            refine (G3.out w2 hO2 hr2).mono ?_
            rintro e w3 ⟨rfl, hr3, hO3⟩
            replace hO3 := hO2.trans hO3
            clear hr2 hO2 G3
            have hop2 := own_only Hop.out hO3 (by intro x hx; simp; exact (hpv x hx).1)
            have hod2 := own_only Hod.out hO3 (by intro x hx; simp; exact (hdv x hx).1)
            have hD2 := HD.out.only hO3 (by simp)
            have k8 : w3.cell? ⟨p, 9, none⟩ = some pv := hr3.1.cell 9
            have k8a : ∀ o, (w3.alloc o).cell? ⟨p, 9, none⟩ = some pv := fun o => (hr3.1.alloc o).cell 9
            have hb2z : W4.heap.size ≤ w3.heap.size := Nat.le_trans hbz hO3.size
            go_upto_region 23 with (fail)
            go_cut [] (fun wx => ∃ pv1, wx.ownsRow W4.heap.size 3 1 pv1 (k + 1) (nats (L.map Prod.fst ++ [s.at_])) ∧ RRd wx p (.slice A n c) t3 [.slice none 0 0, .slice none 0 0, .slice none 0 0, .slice none 0 0, q4, pv1, .int .i64 0] ∧ Blk wx (p + 1) 38 [v0, dv, .slice none 0 0, .slice none 0 0, .slice none 0 0] ∧ wx.ownsRow W4.heap.size 75 3 dv k (mgs (L.map Prod.snd)) ∧ Only [p, p + 1] W4 wx)
            case first =>
              go_region_law (first
                | (refine step_append_row (v := pv) (by rfl) (.tmp 98) (.tmp 100) 51 (by rfl) W4.heap.size 3 (.int .i64 0) 1 8 Tryd.underlying51 intInfo6 rfl (by omega) (n := k) (xs := nats (L.map Prod.fst)) (by rfl)
                     (by first | exact own_only hop2 ((Only.refl [] w3).alloc _) (by simp) | exact own_only hop2 (((Only.refl [] w3).alloc _).drew) (by simp) | exact own_only hop2 (((Only.refl [] w3).drew).alloc _) (by simp)) 1 (by rfl)
                     (by first | exact Rd.whole (Blk.new' _ _ _ rfl rfl) rfl | exact (Rd.whole (Blk.new' _ _ _ rfl rfl) rfl).drew) (by simp [Value.oneCell']) (by simp only [maxLen]; omega) (by omega) (by simp; omega) ?_
                   intro pv1 wy ho1 hO1 hn1
                   replace hO1 : Only pv.ownBlock.toList w3 wy := by first | exact ((Only.refl _ w3).alloc _).trans hO1 | exact (((Only.refl _ w3).alloc _).drew).trans hO1 | exact (((Only.refl _ w3).drew).alloc _).trans hO1
                   have hb1 := hr3.1.only hO1 (by intro hx; exact (hpv p (by simpa using hx)).1 rfl)
                   have d5 : wy.frozen? ⟨p, 9, none⟩ = false := hb1.frozen 9
                   have d4 : wy.cell? ⟨p, 9, none⟩ = some pv := hb1.cell 9
                   obtain ⟨A1, c1', rfl, -⟩ := own_slice ho1))
              all_goals
                go_wp2
                go_meet
                case rel =>
                  have hT : ∀ u, Only (p :: pv.ownBlock.toList) w3 (wy.setCell ⟨p, 9, none⟩ u) := fun u => (hO1.mono (fun x hx => .inl (List.mem_cons_of_mem _ hx))).setCell (.inl (by simp)) _
                  refine ⟨.slice A1 (k + 1) c1', ?_, ?_, ?_, ?_, ?_⟩
                  · have := own_only ho1 ((Only.refl [p] wy).setCell (p := ⟨p, 9, none⟩) (.inl (by simp)) (.slice A1 (k + 1) c1')) (by intro x hx; have := (own_lt ho1 hx).1; simp; omega)
                    rw [nats_snoc]
                    exact this
                  · exact (hr3.only hO1 (by intro hx; exact (hpv p (by simpa using hx)).1 rfl)).put 5 _
                  · exact hD2.only (hT _) (by intro hx; simp at hx; exact (hpv _ hx).2 rfl)
                  · exact own_only hod2 (hT _) (by
                      intro x hx hxx; simp at hxx
                      rcases hxx with e | e
                      · exact (hdv x hx).1 e
                      · exact own_apart hod2 hop2 (by decide) hx e)
                  · exact (HO.out.trans' hO3 (by simp)).trans' (hT _) (by
                      intro x hx; simp at hx
                      rcases hx with rfl | e
                      · exact .inl (by simp)
                      · exact .inr (own_lt hop2 e).1)
            case rest =>
              obtain ⟨pv1, hop3, hr4, hD4, hod3, hO4⟩ := hcut
              clear hop2 hod2 k8 k8a hpv hdv hb2z hr3 hO3 hD2
              obtain ⟨gz, hgz⟩ : ∃ gz, gz = wc.heap.size := ⟨_, rfl⟩
              obtain ⟨vn, wn, hrun, hown, hOn, hnb, -⟩ := run_append_row (P := Tryd.prog) (w := wc.alloc (.cells #[.int .i64 (x1 : Int), .int .i64 (x2 : Int), .int .i64 (x3 : Int)] 75)) W4.heap.size 35 35 75 (.agg #[.int .i64 0, .int .i64 0, .int .i64 0]) 3 24 Tryd.underlying35 mgInfo6 rfl (by omega) (own_only hod3 ((Only.refl [] wc).alloc _) (by simp)) 1 (B := gz + 1) (m := 1) (X := some ⟨gz, 0, none⟩) (ys := [.int .i64 (x1 : Int), .int .i64 (x2 : Int), .int .i64 (x3 : Int)]) (Rd.whole (Blk.new' _ _ _ hgz.symm rfl) rfl) (by simp [Value.oneCell']) (by simp only [maxLen]; omega) (by omega) (by have := hO4.size; simp; omega)
              obtain ⟨A2, c2', rfl, -⟩ := own_slice hown
              have Hrun := Lib.hid hrun
              have Hgz := Lib.hid hgz
              have hOn2 : Only dv.ownBlock.toList wc wn := ((Only.refl _ wc).alloc _).trans hOn
              have hdv3 : ∀ x, dv.ownBlock = some x → x ≠ p ∧ x ≠ p + 1 := fun x hx => by have := (own_lt hod3 hx).1; omega
              have hDn := hD4.only hOn2 (by intro hx; exact (hdv3 (p + 1) (by simpa using hx)).2 rfl)
              have k0 : wc.cell? ⟨p + 1, 1, none⟩ = some dv := hD4.cell 1
              have k1 : wn.cell? ⟨p + 1, 1, none⟩ = some dv := hDn.cell 1
              have k2 : wn.frozen? ⟨p + 1, 1, none⟩ = false := hDn.frozen 1
              have Hf := Lib.hid (And.intro hop3 (And.intro hr4 (And.intro hod3 (And.intro hO4 (And.intro hown (And.intro hOn2 hDn))))))
              clear hrun hgz hop3 hr4 hod3 hO4 hown hOn hOn2 hnb hDn hD4
              go_wp2_with (at_builtin; rw [← Hgz.out]; refine wpList_append_run (o := ⟨some 112, _, _, _, _, _⟩) (by rfl) (.tmp 106) (.tmp 111) 35 35 (by rfl) (by rfl) (by rfl) Hrun.out ?_)
              go_roundw
              case rel =>
                obtain ⟨hop3, hr4, hod3, hO4, hown, hOn2, hDn⟩ := Hf.out
                have hT : ∀ u, Only ((p + 1) :: dv.ownBlock.toList) wc (wn.setCell ⟨p + 1, 1, none⟩ u) := fun u => (hOn2.mono (fun x hx => .inl (List.mem_cons_of_mem _ hx))).setCell (.inl (by simp)) _
                refine ⟨k + 1, by go_num, by omega, ?_⟩
                rw [HS1.out, ← HWW.out]
                refine ⟨pv1, .slice A2 (k + 1) c2', k + 1, k + 1, L.map Prod.fst ++ [s.at_], L.map Prod.snd ++ [⟨(x1 : Int), (x2 : Int), (x3 : Int)⟩], hr4.only (hT _) (by intro hx; simp at hx; exact (hdv3 p hx).1 rfl), hDn.set 1 _, ?_, ?_, ?_, by omega, by omega, fun _ => ⟨rfl, rfl, by simp, by simp⟩⟩
                · exact own_only hop3 (hT _) (by
                    intro x hx hxx; simp at hxx
                    rcases hxx with e | e
                    · have := (own_lt hop3 hx).1; omega
                    · exact own_apart hop3 hod3 (by decide) hx e)
                · have := own_only hown ((Only.refl [p + 1] wn).setCell (p := ⟨p + 1, 1, none⟩) (.inl (by simp)) (.slice A2 (k + 1) c2')) (by intro x hx; have := (own_lt hown hx).1; simp; omega)
                  simpa [mgs, Mg.enc] using this
                · exact hO4.trans' (hT _) (by
                    intro x hx; simp at hx
                    rcases hx with rfl | e
                    · exact .inl (by simp)
                    · exact .inr (own_lt hod3 e).1)
              case measure => simp [intOf]; omega
        · obtain rfl : k = N := by omega
          clear hop hod hr hO hg hD
          go_wp2_with (fail)
          go_meet
          case rel => exact HL.out
    case rest =>
    obtain ⟨q5, v1, mC, mD, lpB, lxB, hr5, hD5, hq5, hv1, hO5, hmC, hmD, hgB⟩ := hcut
    obtain ⟨W5, rfl⟩ : ∃ z : World, z = wc := ⟨_, rfl⟩
    have hpM : pM f = manyS (mergeS f) S1 N := by unfold pM; rw [← HNN.out, ← HS1e.out]
    rw [← hpM] at hr5 hgB
    obtain ⟨S2, hS2⟩ : ∃ z, z = (pM f).2 := ⟨_, rfl⟩
    rw [← hS2] at hr5
    simp only at hr5 hD5
    have hR5 := HR4.out.only hO5 (by simp; omega)
    have hz5 : p + 2 ≤ W5.heap.size := Nat.le_trans hz4 hO5.size
    have HS2a := Lib.hid (show S2.at_ ≤ n by rw [hS2, ← Hl.out]; exact (pM_at f H4.out).1)
    have HS2e := Lib.hid hS2
    have Hq5 := Lib.hid hq5
    have Hv1 := Lib.hid hv1
    have HO5 := Lib.hid hO5
    have HgB := Lib.hid hgB
    clear hpM hS2 hq5 hv1 hO5 hgB
    go_wp2_with (fail)
    refine (list6_1 W5 p h2 A n c f Hl.out hR5 (by omega) hn hnc S2 HS2a.out (.slice none 0 0) (.slice none 0 0) (.slice none 0 0) q4 q5 (.int .i64 0) hr5 ⟨_, rfl⟩).mono ?_
    intro e V1 hpost
    obtain ⟨vL1, x1, b1, lp1, ls1, rfl, hxo1, hvo1, hrV1, hOV1, hgV1⟩ := hpost
    obtain ⟨B1, c1', rfl, -⟩ := own_slice hvo1
    rw [show numS f 512 4 S2 = pKa f by rw [HS2e.out]; rfl, show manyS (spanS f) (pKa f).2 (pKa f).1 = pA f from rfl] at hrV1 hgV1
    obtain ⟨S3, hS3⟩ : ∃ z, z = (pA f).2 := ⟨_, rfl⟩
    rw [← hS3] at hrV1
    simp only at hrV1
    have hDV1 := hD5.only hOV1 (by simp)
    have hRV1 := hR5.only hOV1 (by simp; omega)
    have n1 : V1.cell? ⟨p + 1, 2, none⟩ = some _ := hDV1.cell 2
    have m1 : V1.frozen? ⟨p + 1, 2, none⟩ = false := hDV1.frozen 2
    have HS3a := Lib.hid (show S3.at_ ≤ n by rw [hS3, ← Hl.out]; exact (pA_at f H4.out).1)
    have HS3e := Lib.hid hS3
    have Hxo1 := Lib.hid hxo1
    have Hvo1 := Lib.hid hvo1
    have HgV1 := Lib.hid hgV1
    have HrV1 := Lib.hid hrV1
    have HDV1 := Lib.hid hDV1
    have HRV1 := Lib.hid hRV1
    have HOV1 := Lib.hid hOV1
    have hzV1 : p + 2 ≤ V1.heap.size := Nat.le_trans hz5 hOV1.size
    clear hS3 hxo1 hvo1 hgV1 hrV1 hDV1 hRV1 hOV1 hr5 hD5 hR5
    go_upto_region 26 with (fail)
    refine name_it (p := fun y => Code.wp _ _ _ _ y) ?_
    intro W6 H6
    have hOs : Only [p + 1] V1 W6 := by rw [H6.out]; exact (Only.refl [p + 1] V1).setCell (.inl (by simp)) _
    have hr6 : RRd W6 p (.slice A n c) S3 [.slice none 0 0, x1, .slice none 0 0, .slice none 0 0, q4, q5, .int .i64 (S2.at_ : Int)] := HrV1.out.only hOs (by simp)
    have hD6 : Blk W6 (p + 1) 38 [v0, v1, .slice B1 b1 c1', .slice none 0 0, .slice none 0 0] := by rw [H6.out]; exact HDV1.out.set 2 _
    have hR6 := HRV1.out.only hOs (by simp; omega)
    have hz6 : p + 2 ≤ W6.heap.size := Nat.le_trans hzV1 hOs.size
    have HOs1 := Lib.hid (show Only [p, p + 1] W5 W6 from (HOV1.out.mono (by simp)).trans' hOs (by simp))
    have HOu1 := Lib.hid (show Only [p, p + 1] V1 W6 from hOs.mono (by simp))
    clear H6 hOs n1 m1 HrV1 HDV1 HRV1
    go_wp2_with (fail)
    refine (list6_2 W6 p h2 A n c f Hl.out hR6 (by omega) hn hnc S3 HS3a.out (.slice none 0 0) x1 (.slice none 0 0) q4 q5 (.int .i64 (S2.at_ : Int)) hr6 ⟨_, rfl⟩).mono ?_
    intro e V2 hpost
    obtain ⟨vL2, x2, b2, lp2, ls2, rfl, hxo2, hvo2, hrV2, hOV2, hgV2⟩ := hpost
    obtain ⟨B2, c2', rfl, -⟩ := own_slice hvo2
    rw [show numS f 512 4 S3 = pKb f by rw [HS3e.out]; rfl, show manyS (spanS f) (pKb f).2 (pKb f).1 = pB f from rfl] at hrV2 hgV2
    obtain ⟨S4, hS4⟩ : ∃ z, z = (pB f).2 := ⟨_, rfl⟩
    rw [← hS4] at hrV2
    simp only at hrV2
    have hDV2 := hD6.only hOV2 (by simp)
    have hRV2 := hR6.only hOV2 (by simp; omega)
    have n2 : V2.cell? ⟨p + 1, 3, none⟩ = some _ := hDV2.cell 3
    have m2 : V2.frozen? ⟨p + 1, 3, none⟩ = false := hDV2.frozen 3
    have HS4a := Lib.hid (show S4.at_ ≤ n by rw [hS4, ← Hl.out]; exact (pB_at f H4.out).1)
    have HS4e := Lib.hid hS4
    have Hxo2 := Lib.hid hxo2
    have Hvo2 := Lib.hid hvo2
    have HgV2 := Lib.hid hgV2
    have HrV2 := Lib.hid hrV2
    have HDV2 := Lib.hid hDV2
    have HRV2 := Lib.hid hRV2
    have HOV2 := Lib.hid hOV2
    have hzV2 : p + 2 ≤ V2.heap.size := Nat.le_trans hz6 hOV2.size
    clear hS4 hxo2 hvo2 hgV2 hrV2 hDV2 hRV2 hOV2 hr6 hD6 hR6
    go_upto_region 27 with (fail)
    refine name_it (p := fun y => Code.wp _ _ _ _ y) ?_
    intro W7 H7
    have hOs : Only [p + 1] V2 W7 := by rw [H7.out]; exact (Only.refl [p + 1] V2).setCell (.inl (by simp)) _
    have hr7 : RRd W7 p (.slice A n c) S4 [.slice none 0 0, x1, x2, .slice none 0 0, q4, q5, .int .i64 (S3.at_ : Int)] := HrV2.out.only hOs (by simp)
    have hD7 : Blk W7 (p + 1) 38 [v0, v1, .slice B1 b1 c1', .slice B2 b2 c2', .slice none 0 0] := by rw [H7.out]; exact HDV2.out.set 3 _
    have hR7 := HRV2.out.only hOs (by simp; omega)
    have hz7 : p + 2 ≤ W7.heap.size := Nat.le_trans hzV2 hOs.size
    have HOs2 := Lib.hid (show Only [p, p + 1] W6 W7 from (HOV2.out.mono (by simp)).trans' hOs (by simp))
    have HOu2 := Lib.hid (show Only [p, p + 1] V2 W7 from hOs.mono (by simp))
    clear H7 hOs n2 m2 HrV2 HDV2 HRV2
    go_wp2_with (fail)
    refine (list6_3 W7 p h2 A n c f Hl.out hR7 (by omega) hn hnc S4 HS4a.out (.slice none 0 0) x1 x2 q4 q5 (.int .i64 (S3.at_ : Int)) hr7 ⟨_, rfl⟩).mono ?_
    intro e V3 hpost
    obtain ⟨vL3, x3, b3, lp3, ls3, rfl, hxo3, hvo3, hrV3, hOV3, hgV3⟩ := hpost
    obtain ⟨B3, c3', rfl, -⟩ := own_slice hvo3
    rw [show numS f 512 4 S4 = pKd f by rw [HS4e.out]; rfl, show manyS (spanS f) (pKd f).2 (pKd f).1 = pD f from rfl] at hrV3 hgV3
    obtain ⟨S5, hS5⟩ : ∃ z, z = (pD f).2 := ⟨_, rfl⟩
    rw [← hS5] at hrV3
    simp only at hrV3
    have hDV3 := hD7.only hOV3 (by simp)
    have hRV3 := hR7.only hOV3 (by simp; omega)
    have n3 : V3.cell? ⟨p + 1, 4, none⟩ = some _ := hDV3.cell 4
    have m3 : V3.frozen? ⟨p + 1, 4, none⟩ = false := hDV3.frozen 4
    have HS5a := Lib.hid (show S5.at_ ≤ n by rw [hS5, ← Hl.out]; exact (pD_at f H4.out).1)
    have HS5e := Lib.hid hS5
    have Hxo3 := Lib.hid hxo3
    have Hvo3 := Lib.hid hvo3
    have HgV3 := Lib.hid hgV3
    have HrV3 := Lib.hid hrV3
    have HDV3 := Lib.hid hDV3
    have HRV3 := Lib.hid hRV3
    have HOV3 := Lib.hid hOV3
    have hzV3 : p + 2 ≤ V3.heap.size := Nat.le_trans hz7 hOV3.size
    clear hS5 hxo3 hvo3 hgV3 hrV3 hDV3 hRV3 hOV3 hr7 hD7 hR7
    go_upto_region 28 with (fail)
    refine name_it (p := fun y => Code.wp _ _ _ _ y) ?_
    intro W8 H8
    have hOs : Only [p + 1] V3 W8 := by rw [H8.out]; exact (Only.refl [p + 1] V3).setCell (.inl (by simp)) _
    have hr8 : RRd W8 p (.slice A n c) S5 [.slice none 0 0, x1, x2, x3, q4, q5, .int .i64 (S4.at_ : Int)] := HrV3.out.only hOs (by simp)
    have hD8 : Blk W8 (p + 1) 38 [v0, v1, .slice B1 b1 c1', .slice B2 b2 c2', .slice B3 b3 c3'] := by rw [H8.out]; exact HDV3.out.set 4 _
    have hR8 := HRV3.out.only hOs (by simp; omega)
    have hz8 : p + 2 ≤ W8.heap.size := Nat.le_trans hzV3 hOs.size
    have HOs3 := Lib.hid (show Only [p, p + 1] W7 W8 from (HOV3.out.mono (by simp)).trans' hOs (by simp))
    have HOu3 := Lib.hid (show Only [p, p + 1] V3 W8 from hOs.mono (by simp))
    clear H8 hOs n3 m3 HrV3 HDV3 HRV3
    have k1 : W8.cell? ⟨p, 1, none⟩ = some (.int .i64 (S5.at_ : Int)) := hr8.1.cell 1
    have hnum := number6_any W8 p h2 A n c f Hl.out hR8 (by omega) hn hnc S5 HS5a.out _ 4294967295 0 (by omega) (.inr rfl) hr8
    obtain ⟨NS, hNS⟩ : ∃ z, z = sumS f := ⟨_, rfl⟩
    have hSS : numS f 4294967295 0 S5 = NS := by rw [numS_max f 0 12, hNS, HS5e.out]; rfl
    have hNb := numS_at f 4294967295 0 S5 (by rw [Hl.out]; exact HS5a.out)
    rw [hSS] at hnum hNb
    have Hnum := Lib.hid hnum
    have HNS := Lib.hid hNS
    have HD8 := Lib.hid hD8
    have HR8 := Lib.hid hR8
    clear hnum hNS hSS hD8 hR8 hr8
    obtain ⟨sm, s1⟩ := NS
    simp only at hNb
    go_wp2_with (fail)
    refine Hnum.out.mono ?_
    rintro e W9 ⟨rfl, hr9, hO9⟩
    have HO89 := Lib.hid (show Only [p, p + 1] W8 W9 from hO9.mono (by simp))
    have HD9 := Lib.hid (HD8.out.only hO9 (by simp))
    have HR9 := Lib.hid (HR8.out.only hO9 (by simp; omega))
    have hall : Only [p, p + 1] W3 W9 := ((((HO4.out.trans HO5.out).trans HOs1.out).trans HOs2.out).trans HOs3.out).trans HO89.out
    have HT9 := Lib.hid (show Only [] W1 W9 from HO3.out.trans' hall (by intro x hx; simp at hx; exact .inr (by rw [Hz1.out]; omega)))
    have Hr9 := Lib.hid hr9
    have e1 : W9.cell? ⟨p, 1, none⟩ = some (.int .i64 (s1.at_ : Int)) := hr9.1.cell 1
    have e3 : W9.cell? ⟨p, 3, none⟩ = some (.int .i64 ((badC s1).2 : Int)) := hr9.1.cell 3
    clear Hnum k1 hr9 hO9 HD8 HR8 hall
    cases hs1 : s1.bad with
    | some x =>
      obtain ⟨xa, xy⟩ := x
      have hE := Lib.hid (loadE_bad Hlong.out Hmb.out (x := (xa, xy)) (by rw [← HNS.out]; exact hs1))
      have hbc : badC s1 = (xa, xy) := by unfold badC; rw [hs1]; rfl
      have hr9' := Hr9.out
      unfold RRd at hr9'
      rw [hbc] at hr9' e3
      have hxy : xy ≠ 0 := hr9'.2 _ hs1
      have hx1 : ((xy : Int) == 0) = false := by simp; exact hxy
      have hx2 : ((xy : Int) != 0) = true := by simp; exact hxy
      have Hr9' := Lib.hid hr9'
      clear hs1 hbc hr9' hxy
      have hEw := HEF.out.1.only HT9.out (by simp)
      have hFw := HEF.out.2.only HT9.out (by simp)
      have d0 : W9.cell? ⟨h2, 0, none⟩ = some _ := hEw.cell 0
      have d1 : W9.cell? ⟨h2, 1, none⟩ = some _ := hEw.cell 1
      have d2 : W9.cell? ⟨h2, 2, none⟩ = some _ := hEw.cell 2
      have d3 : W9.cell? ⟨h2, 3, none⟩ = some _ := hEw.cell 3
      have d4 : W9.cell? ⟨h2, 4, none⟩ = some _ := hEw.cell 4
      have g0 : W9.cell? ⟨h2 + 1, 0, none⟩ = some _ := hFw.cell 0
      have g1 : W9.cell? ⟨h2 + 1, 1, none⟩ = some _ := hFw.cell 1
      have z0 := hEw.frozen 0
      have z1 := hEw.frozen 1
      have z2 := hEw.frozen 2
      have z3 := hEw.frozen 3
      have z4 := hEw.frozen 4
      have y0 := hFw.frozen 0
      have y1 := hFw.frozen 1
      have q2 : W9.cell? ⟨p, 2, none⟩ = some (.int .i64 (xa : Int)) := Hr9'.out.1.cell 2
      have q3 : W9.cell? ⟨p, 3, none⟩ = some (.int .i64 (xy : Int)) := Hr9'.out.1.cell 3
      have HEw := Lib.hid (And.intro hEw hFw)
      have HOw := Lib.hid HT9.out
      clear hEw hFw
      go_wp2_with (fail)
      have hq1 : ¬ h2 = p ∧ ¬ p = h2 ∧ ¬ h2 + 1 = p ∧ ¬ p = h2 + 1 := by omega
      obtain ⟨hq1, hq2, hq4, hq5⟩ := hq1
      go_region_held3 (fun V => V.cell? ⟨p, 2, none⟩ = some (.int .i64 (xa : Int)) ∧ V.cell? ⟨p, 3, none⟩ = some (.int .i64 (xy : Int))) (go_keep) (fail)
      go_wp2_with (fail)
      (try simp only [Exit.inBlock, Exit.then])
      obtain ⟨b1, b2, hOz⟩ := stored2 (P := Tryd.prog) HEw.out.1 HEw.out.2 (v0 := .slice none 0 0) (v1 := .slice none 0 0) (v2 := .slice none 0 0) (v3 := .slice none 0 0) (v4 := .slice none 0 0) (x0 := .int .i64 (xa : Int)) (x1 := .int .i64 (xy : Int))
      refine bodyPost_ret (v := .tuple #[.agg #[.slice none 0 0, .slice none 0 0, .slice none 0 0, .slice none 0 0, .slice none 0 0], .agg #[.int .i64 (xa : Int), .int .i64 (xy : Int)]]) ?_ rfl (RLoadPost.bad hE.out (Hfin.out _ ((HOw.out.mono (by simp)).trans hOz).drew))
      exact results_DR rfl _ rfl rfl b1.drew b2.drew
    | none =>
      have hbc : badC s1 = (0, 0) := by unfold badC; rw [hs1]; rfl
      rw [hbc] at e3
      by_cases hlt : s1.at_ < n
      · have hlti : (s1.at_ : Int) < (n : Int) := by omega
        have hE := Lib.hid (loadE_tail Hlong.out Hmb.out (by rw [← HNS.out]; exact hs1) (by rw [← HNS.out, Hl.out]; exact hlt))
        rw [← HNS.out] at hE
        have Href := Lib.hid (refuse6_any W9 p _ s1 _ s1.at_ 13 (by omega) Hr9.out)
        rw [show s1.refuse s1.at_ 13 = ⟨s1.at_, some (s1.at_, 13)⟩ by unfold RS.refuse; rw [hs1]] at Href
        clear hs1 hbc
        go_wp2_with (fail)
        refine Href.out.mono ?_
        rintro e WA ⟨⟨v, rfl⟩, hrA, hOA⟩
        have HrA := Lib.hid hrA
        have HTA := Lib.hid (show Only [] W1 WA from HT9.out.trans' hOA (by intro x hx; simp at hx; subst hx; exact .inr (by rw [Hz1.out]; omega)))
        clear e1 e3 hrA hOA Href
        have hEw := HEF.out.1.only HTA.out (by simp)
        have hFw := HEF.out.2.only HTA.out (by simp)
        have d0 : WA.cell? ⟨h2, 0, none⟩ = some _ := hEw.cell 0
        have d1 : WA.cell? ⟨h2, 1, none⟩ = some _ := hEw.cell 1
        have d2 : WA.cell? ⟨h2, 2, none⟩ = some _ := hEw.cell 2
        have d3 : WA.cell? ⟨h2, 3, none⟩ = some _ := hEw.cell 3
        have d4 : WA.cell? ⟨h2, 4, none⟩ = some _ := hEw.cell 4
        have g0 : WA.cell? ⟨h2 + 1, 0, none⟩ = some _ := hFw.cell 0
        have g1 : WA.cell? ⟨h2 + 1, 1, none⟩ = some _ := hFw.cell 1
        have z0 := hEw.frozen 0
        have z1 := hEw.frozen 1
        have z2 := hEw.frozen 2
        have z3 := hEw.frozen 3
        have z4 := hEw.frozen 4
        have y0 := hFw.frozen 0
        have y1 := hFw.frozen 1
        have q2 : WA.cell? ⟨p, 2, none⟩ = some (.int .i64 (s1.at_ : Int)) := HrA.out.1.cell 2
        have q3 : WA.cell? ⟨p, 3, none⟩ = some (.int .i64 ((13 : Nat) : Int)) := HrA.out.1.cell 3
        have HEw := Lib.hid (And.intro hEw hFw)
        have HOw := Lib.hid HTA.out
        clear hEw hFw
        go_wp2_with (fail)
        have hq1 : ¬ h2 = p ∧ ¬ p = h2 ∧ ¬ h2 + 1 = p ∧ ¬ p = h2 + 1 := by omega
        obtain ⟨hq1, hq2, hq4, hq5⟩ := hq1
        go_region_held3 (fun V => V.cell? ⟨p, 2, none⟩ = some (.int .i64 (s1.at_ : Int)) ∧ V.cell? ⟨p, 3, none⟩ = some (.int .i64 ((13 : Nat) : Int))) (go_keep) (fail)
        go_wp2_with (fail)
        (try simp only [Exit.inBlock, Exit.then])
        obtain ⟨b1, b2, hOz⟩ := stored2 (P := Tryd.prog) HEw.out.1 HEw.out.2 (v0 := .slice none 0 0) (v1 := .slice none 0 0) (v2 := .slice none 0 0) (v3 := .slice none 0 0) (v4 := .slice none 0 0) (x0 := .int .i64 (s1.at_ : Int)) (x1 := .int .i64 ((13 : Nat) : Int))
        refine bodyPost_ret (v := .tuple #[.agg #[.slice none 0 0, .slice none 0 0, .slice none 0 0, .slice none 0 0, .slice none 0 0], .agg #[.int .i64 (s1.at_ : Int), .int .i64 ((13 : Nat) : Int)]]) ?_ rfl (RLoadPost.bad hE.out (Hfin.out _ ((HOw.out.mono (by simp)).trans hOz).drew))
        exact results_DR rfl _ rfl rfl b1.drew b2.drew
      · have hlti : ¬ (s1.at_ : Int) < (n : Int) := by omega
        have hS5n := HS5a.out
        have hsl := run_slice_h (P := Tryd.prog) (A := A) (n := n) (c := c) (m := S5.at_) (hi := (S5.at_ : Int)) Tryd.underlying22 (size := 1) (by kernel_rfl) rfl (by omega)
        have hRt : Rd W9 h2 1 A S5.at_ (bvs (f.take S5.at_)) := by have := HR9.out.take (k := S5.at_) hS5n; rwa [Nat.mul_one, bvs_take] at this
        have hsum := refSum_any A S5.at_ c h2 (f.take S5.at_) W9 (hRt.more (by have := HD9.out.lt; omega)) (by omega)
        obtain ⟨X, hX⟩ : ∃ z, z = sumN (f.take S5.at_) := ⟨_, rfl⟩
        rw [← sumOf_eq_refOf, show (~~~(sumOf (f.take S5.at_))).toNat = X from hX.symm] at hsum
        have Hsum := Lib.hid hsum
        have HX := Lib.hid hX
        have hwu : IntKind.u32.wrap (sm : Int) = (sm : Int) := by
          show (sm : Int) % 4294967296 = _
          omega
        clear hRt hX hsum
        by_cases heq : sm = X
        · have hDb := sumS_pD (f := f) (by rw [← HNS.out]; exact hs1)
          obtain ⟨hOk, -, -⟩ := parse_read Hmb.out hDb
          have HOk := Lib.hid hOk
          have hs1' : (sumS f).2.bad = none := by rw [← HNS.out]; exact hs1
          have hs2' : ¬ (sumS f).2.at_ < f.length := by rw [← HNS.out, Hl.out]; exact hlt
          have hs3' : (sumS f).1 = sumN (f.take (pD f).2.at_) := by rw [← HNS.out, ← HS5e.out, ← HX.out]; exact heq
          have Hfa := Lib.hid (loadE_fault Hlong.out Hmb.out hs1' hs2' hs3')
          have Hok := Lib.hid (loadE_ok Hlong.out Hmb.out hs1' hs2' hs3')
          subst heq
          have hne : ((sm : Int) != (sm : Int)) = false := by simp
          obtain ⟨bW, bM, bA, bB⟩ := bads hDb
          obtain ⟨eA, eB, rfl, rfl⟩ := HgA.out bW
          obtain ⟨eC, eD, rfl, rfl⟩ := HgB.out bM
          obtain ⟨eb1, rfl, rfl⟩ := HgV1.out bA
          obtain ⟨eb2, rfl, rfl⟩ := HgV2.out bB
          obtain ⟨eb3, rfl, rfl⟩ := HgV3.out hDb
          have u9 := HO89.out
          have u8 := HOs3.out.trans u9
          have u7 := HOs2.out.trans u8
          have u6 := HOs1.out.trans u7
          have u5 := HO5.out.trans u6
          have hfar : ∀ {b : Nat} {W V : World} {te : TypeId} {sz m : Nat} {v : Value} {cs : List Value}, p + 2 ≤ b → Only [p, p + 1] W V → W.ownsRow b te sz v m cs → V.ownsRow b te sz v m cs := by
            intro b W V te sz m v cs hb hO h
            exact own_only h hO (fun x hx => by have := (own_lt h hx).1; simp; omega)
          have o0 := hfar hz3 u5 Hv0.out
          have o1 := hfar hz4 u6 Hv1.out
          have o2 := hfar hz5 (HOu1.out.trans u7) Hvo1.out
          have o3 := hfar hz6 (HOu2.out.trans u8) Hvo2.out
          have o4 := hfar hz7 (HOu3.out.trans u9) Hvo3.out
          have o5 := hfar hz5 (HOu1.out.trans u7) Hxo1.out
          have o6 := hfar hz6 (HOu2.out.trans u8) Hxo2.out
          have o7 := hfar hz7 (HOu3.out.trans u9) Hxo3.out
          have o8 := hfar hz3 u5 Hq4.out
          have o9 := hfar hz4 u6 Hq5.out
          have hN := HNN.out
          have hN1 : (pN f).1 = N := by rw [← hN]
          have l0 : mB = (pWs f).length := by unfold pWs; rw [List.length_map, eB, ← hN1]; exact (manyS_length _ _ _).symm
          have l1 : mD = (pMs f).length := by unfold pMs; rw [List.length_map, eD, ← hN1]; exact (manyS_length _ _ _).symm
          have l2 : b1 = (pAs f).length := by unfold pAs; rw [List.length_map, eb1]; exact (manyS_length _ _ _).symm
          have l3 : b2 = (pBs f).length := by unfold pBs; rw [List.length_map, eb2]; exact (manyS_length _ _ _).symm
          have l4 : b3 = (pDs f).length := by unfold pDs; rw [List.length_map, eb3]; exact (manyS_length _ _ _).symm
          obtain ⟨Z0, z0c, rfl, -⟩ := own_slice Hv0.out
          obtain ⟨Z1, z1c, rfl, -⟩ := own_slice Hv1.out
          have HR5 : ∀ W, Only [] W9 W → ∀ V, Only [h2, h2 + 1] W V → Rd5 V (.slice Z0 mB z0c) (.slice Z1 mD z1c) (.slice B1 b1 c1') (.slice B2 b2 c2') (.slice B3 b3 c3') (pWs f) (pMs f) (pAs f) (pBs f) (pDs f) := by
            intro W hW V hV
            have hk : ∀ {b : Nat} {te : TypeId} {sz m : Nat} {v : Value} {cs : List Value}, p + 2 ≤ b → W9.ownsRow b te sz v m cs → V.ownsRow b te sz v m cs := by
              intro b te sz m v cs hb h
              exact own_only (own_only h hW (by simp)) hV (fun x hx => by have := (own_lt h hx).1; simp; omega)
            exact ⟨own_rd'' (hk hz3 o0) l0, own_rd'' (hk hz4 o1) l1, own_rd'' (hk hz5 o2) l2, own_rd'' (hk hz6 o3) l3, own_rd'' (hk hz7 o4) l4⟩
          have hck := check5_any W9 _ _ _ _ _ (pWs f) (pMs f) (pAs f) (pBs f) (pDs f) (HR5 W9 (.refl _ _) W9 (.refl _ _)) (by have := HOk.out.n; omega) (by have := HOk.out.n; have := HOk.out.nm; omega) (by have := HOk.out.la; omega) (by have := HOk.out.lb; omega) (by have := HOk.out.ld; omega) (fun s hs => by have := (HOk.out.w s hs).2; unfold maxLen; omega) (fun m hm => by have := HOk.out.m m hm; unfold mOk nOk at this; unfold Mg.ok i64ok; omega)
          obtain ⟨⟨ty, tl, tr⟩, hT⟩ : ∃ z, z = faultF f := ⟨_, rfl⟩
          rw [show faultV (faultW (pWs f) (pMs f) (pAs f) (pBs f) (pDs f)) = .agg #[.int .i64 (ty : Int), .int .i64 (tl : Int), .int .i64 (tr : Int)] by change faultV (faultF f) = _; rw [← hT]; rfl] at hck
          have HT := Lib.hid hT
          have HR5' := Lib.hid HR5
          have Hck := Lib.hid hck
          have Hrows := Lib.hid (And.intro o5 (And.intro o6 (And.intro o7 (And.intro o8 o9))))
          have Hlens := Lib.hid (And.intro l0 (And.intro l1 (And.intro l2 (And.intro l3 l4))))
          have m0 : W9.cell? ⟨p + 1, 0, none⟩ = some _ := HD9.out.cell 0
          have m1 : W9.cell? ⟨p + 1, 1, none⟩ = some _ := HD9.out.cell 1
          have m2 : W9.cell? ⟨p + 1, 2, none⟩ = some _ := HD9.out.cell 2
          have m3 : W9.cell? ⟨p + 1, 3, none⟩ = some _ := HD9.out.cell 3
          have m4 : W9.cell? ⟨p + 1, 4, none⟩ = some _ := HD9.out.cell 4
          clear hs1 hbc hDb hOk hs1' hs2' hs3' eA eB eC eD eb1 eb2 eb3 u5 u6 u7 u8 u9 hfar o0 o1 o2 o3 o4 o5 o6 o7 o8 o9 hN hN1 l0 l1 l2 l3 l4 HR5 hck hT bW bM bA bB
          go_wp2_with (fail)
          refine Hsum.out.mono ?_
          rintro e WB ⟨rfl, rfl⟩
          go_wp2_with (fail)
          refine Hck.out.mono ?_
          rintro e W10 ⟨rfl, hO10⟩
          obtain ⟨h17, hh17⟩ : ∃ z, z = W10.heap.size := ⟨_, rfl⟩
          go_upto_region 37 with (fail)
          rw [← hh17]
          refine name_it (p := fun y => Code.wp _ _ _ _ y) ?_
          intro W11 H11
          have hF11 : Blk W11 h17 94 [.int .i64 (ty : Int), .int .i64 (tl : Int), .int .i64 (tr : Int)] := by rw [H11.out]; exact Blk.new' _ _ _ hh17.symm rfl
          have hO11 : Only [] W9 W11 := by rw [H11.out]; exact hO10.alloc _
          have hr11 := Hr9.out.only hO11 (by simp)
          have hD11 := HD9.out.only hO11 (by simp)
          have HT11 := Lib.hid (HT9.out.trans hO11)
          have hE11 := HEF.out.1.only HT11.out (by simp)
          have hF11b := HEF.out.2.only HT11.out (by simp)
          have HO11 := Lib.hid hO11
          have hph17 : p < h17 := by have := hO10.size; have := Hr9.out.lt; omega
          clear H11 m0 m1 m2 m3 m4 hO10 hO11 hh17 e1 e3
          have f0 : W11.cell? ⟨h17, 0, none⟩ = some (.int .i64 (ty : Int)) := hF11.cell 0
          have d0 : W11.cell? ⟨h2, 0, none⟩ = some _ := hE11.cell 0
          have d1 : W11.cell? ⟨h2, 1, none⟩ = some _ := hE11.cell 1
          have d2 : W11.cell? ⟨h2, 2, none⟩ = some _ := hE11.cell 2
          have d3 : W11.cell? ⟨h2, 3, none⟩ = some _ := hE11.cell 3
          have d4 : W11.cell? ⟨h2, 4, none⟩ = some _ := hE11.cell 4
          have g0 : W11.cell? ⟨h2 + 1, 0, none⟩ = some _ := hF11b.cell 0
          have g1 : W11.cell? ⟨h2 + 1, 1, none⟩ = some _ := hF11b.cell 1
          have z0 := hE11.frozen 0
          have z1 := hE11.frozen 1
          have z2 := hE11.frozen 2
          have z3 := hE11.frozen 3
          have z4 := hE11.frozen 4
          have y0 := hF11b.frozen 0
          have y1 := hF11b.frozen 1
          have HEF11 := Lib.hid (And.intro hE11 hF11b)
          clear hE11 hF11b
          by_cases hty : ty = 0
          · skip
            have hE := Lib.hid (Hok.out (by rw [← HT.out]; exact hty))
            have hty1 : ((ty : Int) != 0) = false := by simp; exact hty
            have m0 : W11.cell? ⟨p + 1, 0, none⟩ = some _ := hD11.cell 0
            have m1 : W11.cell? ⟨p + 1, 1, none⟩ = some _ := hD11.cell 1
            have m2 : W11.cell? ⟨p + 1, 2, none⟩ = some _ := hD11.cell 2
            have m3 : W11.cell? ⟨p + 1, 3, none⟩ = some _ := hD11.cell 3
            have m4 : W11.cell? ⟨p + 1, 4, none⟩ = some _ := hD11.cell 4
            clear hty hF11 hD11 hr11
            go_wp2_with (fail)
            (try simp only [Exit.inBlock, Exit.then])
            obtain ⟨b1', b2', hOz⟩ := stored2 (P := Tryd.prog) HEF11.out.1 HEF11.out.2 (v0 := .slice Z0 mB z0c) (v1 := .slice Z1 mD z1c) (v2 := .slice B1 b1 c1') (v3 := .slice B2 b2 c2') (v4 := .slice B3 b3 c3') (x0 := .int .i64 0) (x1 := .int .i64 0)
            refine bodyPost_ret (v := .tuple #[.agg #[.slice Z0 mB z0c, .slice Z1 mD z1c, .slice B1 b1 c1', .slice B2 b2 c2', .slice B3 b3 c3'], .agg #[.int .i64 0, .int .i64 0]]) ?_ rfl ⟨Hfin.out _ ((HT11.out.mono (by simp)).trans hOz), .inr ⟨hE.out, _, _, _, _, _, rfl, HR5'.out W11 HO11.out _ hOz⟩⟩
            exact results_DR rfl _ rfl rfl b1' b2'
          · have hE := Lib.hid (Hfa.out (by rw [← HT.out]; exact hty))
            rw [← HT.out] at hE
            have hty1 : ((ty : Int) != 0) = true := by simp; exact hty
            have hrow := fault_row HOk.out (by change (faultF f).1 ≠ 0; rw [← HT.out]; exact hty)
            rw [show faultW (pWs f) (pMs f) (pAs f) (pBs f) (pDs f) = (ty, tl, tr) from HT.out.symm] at hrow
            simp only at hrow hE
            have f1 : W11.cell? ⟨h17, 1, none⟩ = some (.int .i64 (tl : Int)) := hF11.cell 1
            have f2 : W11.cell? ⟨h17, 2, none⟩ = some (.int .i64 (tr : Int)) := hF11.cell 2
            have k10 : W11.cell? ⟨p, 10, none⟩ = some (.int .i64 (S4.at_ : Int)) := hr11.1.cell 10
            have Hr11 := Lib.hid hr11
            have hq1 : ¬ h2 = h17 ∧ ¬ h17 = h2 ∧ ¬ h2 + 1 = h17 ∧ ¬ h17 = h2 + 1 := by omega
            obtain ⟨hq1, hq2, hq4, hq5⟩ := hq1
            have hrows : W11.ownsRow W5.heap.size 3 1 x1 b1 (nats ((pA f).1.map Prod.fst)) ∧ W11.ownsRow W6.heap.size 3 1 x2 b2 (nats ((pB f).1.map Prod.fst)) ∧ W11.ownsRow W7.heap.size 3 1 x3 b3 (nats ((pD f).1.map Prod.fst)) ∧ W11.ownsRow W3.heap.size 3 1 q4 mA (nats ((pW f).1.map Prod.fst)) ∧ W11.ownsRow W4.heap.size 3 1 q5 mC (nats ((pM f).1.map Prod.fst)) :=
              ⟨own_only Hrows.out.1 HO11.out (by simp), own_only Hrows.out.2.1 HO11.out (by simp), own_only Hrows.out.2.2.1 HO11.out (by simp), own_only Hrows.out.2.2.2.1 HO11.out (by simp), own_only Hrows.out.2.2.2.2 HO11.out (by simp)⟩
            obtain ⟨r1, r2, r3, r4, r5⟩ := hrows
            clear hty hF11 hD11 hr11
            rcases hrow with ⟨rfl, hrow⟩ | ⟨rfl, hrow⟩ | rfl | ⟨rfl, hrow⟩ | ⟨rfl, hrow⟩
            · skip
              have hlen : ((pA f).1.map Prod.fst).length = (pAs f).length := by unfold pAs; simp
              have hP : placeS f 1 tr = ((pA f).1.map Prod.fst).getD tr (pM f).2.at_ := rfl
              rw [hP] at hE
              obtain ⟨g, o, c9, rfl, hcell⟩ := row_at r1 (i := tr) (by omega) ((pM f).2.at_)
              obtain ⟨PP, hPP⟩ : ∃ z, z = ((pA f).1.map Prod.fst).getD tr (pM f).2.at_ := ⟨_, rfl⟩
              rw [← hPP] at hcell hE
              obtain ⟨LL, hLL⟩ : ∃ z, z = ((pA f).1.map Prod.fst).length := ⟨_, rfl⟩
              rw [← hLL] at hlen
              have hlt9 : decide (tr < LL) = true := decide_eq_true (by omega)
              have hlti9 : (tr : Int) < (LL : Int) := by omega
              have k4 : W11.cell? ⟨p, 5, none⟩ = some (.slice (some ⟨g, o, none⟩) LL c9) := by rw [hLL]; exact Hr11.out.1.cell 5
              clear hP hPP hLL hlen r1 r2 r3 r4 r5
              go_wp2_with (fail)
              go_quiet (fail)
              go_wp2_with (fail)
              go_quiet (fail)
              go_wp2_with (fail)
              go_region_held3 (fun V => V.cell? ⟨h17, 0, none⟩ = some (.int .i64 (ty : Int))) (go_keep) (fail)
              go_wp2_with (fail)
              (try simp only [Exit.inBlock, Exit.then])
              have hst := fun k => stored2 (P := Tryd.prog) (HEF11.out.1.drewN k) (HEF11.out.2.drewN k) (v0 := .slice none 0 0) (v1 := .slice none 0 0) (v2 := .slice none 0 0) (v3 := .slice none 0 0) (v4 := .slice none 0 0) (x0 := .int .i64 (PP : Int)) (x1 := .int .i64 (ty : Int))
              refine bodyPost_ret (v := .tuple #[.agg #[.slice none 0 0, .slice none 0 0, .slice none 0 0, .slice none 0 0, .slice none 0 0], .agg #[.int .i64 (PP : Int), .int .i64 (ty : Int)]]) ?_ rfl (RLoadPost.bad hE.out (Hfin.out _ (((HT11.out.drewN _).mono (by simp)).trans (hst _).2.2)))
              exact results_DR rfl _ rfl rfl (hst _).1 (hst _).2.1
            · skip
              have hlen : ((pB f).1.map Prod.fst).length = (pBs f).length := by unfold pBs; simp
              have hP : placeS f 2 tr = ((pB f).1.map Prod.fst).getD tr (pA f).2.at_ := rfl
              rw [hP] at hE
              obtain ⟨g, o, c9, rfl, hcell⟩ := row_at r2 (i := tr) (by omega) ((pA f).2.at_)
              obtain ⟨PP, hPP⟩ : ∃ z, z = ((pB f).1.map Prod.fst).getD tr (pA f).2.at_ := ⟨_, rfl⟩
              rw [← hPP] at hcell hE
              obtain ⟨LL, hLL⟩ : ∃ z, z = ((pB f).1.map Prod.fst).length := ⟨_, rfl⟩
              rw [← hLL] at hlen
              have hlt9 : decide (tr < LL) = true := decide_eq_true (by omega)
              have hlti9 : (tr : Int) < (LL : Int) := by omega
              have k4 : W11.cell? ⟨p, 6, none⟩ = some (.slice (some ⟨g, o, none⟩) LL c9) := by rw [hLL]; exact Hr11.out.1.cell 6
              clear hP hPP hLL hlen r1 r2 r3 r4 r5
              go_wp2_with (fail)
              go_quiet (fail)
              go_wp2_with (fail)
              go_quiet (fail)
              go_wp2_with (fail)
              go_region_held3 (fun V => V.cell? ⟨h17, 0, none⟩ = some (.int .i64 (ty : Int))) (go_keep) (fail)
              go_wp2_with (fail)
              (try simp only [Exit.inBlock, Exit.then])
              have hst := fun k => stored2 (P := Tryd.prog) (HEF11.out.1.drewN k) (HEF11.out.2.drewN k) (v0 := .slice none 0 0) (v1 := .slice none 0 0) (v2 := .slice none 0 0) (v3 := .slice none 0 0) (v4 := .slice none 0 0) (x0 := .int .i64 (PP : Int)) (x1 := .int .i64 (ty : Int))
              refine bodyPost_ret (v := .tuple #[.agg #[.slice none 0 0, .slice none 0 0, .slice none 0 0, .slice none 0 0, .slice none 0 0], .agg #[.int .i64 (PP : Int), .int .i64 (ty : Int)]]) ?_ rfl (RLoadPost.bad hE.out (Hfin.out _ (((HT11.out.drewN _).mono (by simp)).trans (hst _).2.2)))
              exact results_DR rfl _ rfl rfl (hst _).1 (hst _).2.1
            · by_cases hrow : tr < (pDs f).length
              · skip
                have hlen : ((pD f).1.map Prod.fst).length = (pDs f).length := by unfold pDs; simp
                have hP : placeS f 3 tr = ((pD f).1.map Prod.fst).getD tr (pB f).2.at_ := rfl
                rw [hP] at hE
                obtain ⟨g, o, c9, rfl, hcell⟩ := row_at r3 (i := tr) (by omega) ((pB f).2.at_)
                obtain ⟨PP, hPP⟩ : ∃ z, z = ((pD f).1.map Prod.fst).getD tr (pB f).2.at_ := ⟨_, rfl⟩
                rw [← hPP] at hcell hE
                obtain ⟨LL, hLL⟩ : ∃ z, z = ((pD f).1.map Prod.fst).length := ⟨_, rfl⟩
                rw [← hLL] at hlen
                have hlt9 : decide (tr < LL) = true := decide_eq_true (by omega)
                have hlti9 : (tr : Int) < (LL : Int) := by omega
                have k4 : W11.cell? ⟨p, 7, none⟩ = some (.slice (some ⟨g, o, none⟩) LL c9) := by rw [hLL]; exact Hr11.out.1.cell 7
                clear hP hPP hLL hlen r1 r2 r3 r4 r5
                go_wp2_with (fail)
                go_quiet (fail)
                go_wp2_with (fail)
                go_quiet (fail)
                go_wp2_with (fail)
                go_region_held3 (fun V => V.cell? ⟨h17, 0, none⟩ = some (.int .i64 (ty : Int))) (go_keep) (fail)
                go_wp2_with (fail)
                (try simp only [Exit.inBlock, Exit.then])
                have hst := fun k => stored2 (P := Tryd.prog) (HEF11.out.1.drewN k) (HEF11.out.2.drewN k) (v0 := .slice none 0 0) (v1 := .slice none 0 0) (v2 := .slice none 0 0) (v3 := .slice none 0 0) (v4 := .slice none 0 0) (x0 := .int .i64 (PP : Int)) (x1 := .int .i64 (ty : Int))
                refine bodyPost_ret (v := .tuple #[.agg #[.slice none 0 0, .slice none 0 0, .slice none 0 0, .slice none 0 0, .slice none 0 0], .agg #[.int .i64 (PP : Int), .int .i64 (ty : Int)]]) ?_ rfl (RLoadPost.bad hE.out (Hfin.out _ (((HT11.out.drewN _).mono (by simp)).trans (hst _).2.2)))
                exact results_DR rfl _ rfl rfl (hst _).1 (hst _).2.1
              · skip
                have hlen : ((pD f).1.map Prod.fst).length = (pDs f).length := by unfold pDs; simp
                have hP : placeS f 3 tr = ((pD f).1.map Prod.fst).getD tr (pB f).2.at_ := rfl
                rw [hP, show ((pD f).1.map Prod.fst).getD tr (pB f).2.at_ = S4.at_ by rw [HS4e.out, List.getD_eq_getElem?_getD, List.getElem?_eq_none (by omega)]; rfl] at hE
                obtain ⟨A9, c9, rfl, -⟩ := own_slice r3
                obtain ⟨LL, hLL⟩ : ∃ z, z = ((pD f).1.map Prod.fst).length := ⟨_, rfl⟩
                have hbl : b3 = LL := by rw [hLL, hlen]; exact Hlens.out.2.2.2.2
                have hlt9 : decide (tr < b3) = false := decide_eq_false (by omega)
                have hlti9 : ¬ (tr : Int) < (b3 : Int) := by omega
                have k4 : W11.cell? ⟨p, 7, none⟩ = some (.slice A9 b3 c9) := Hr11.out.1.cell 7
                clear hP hLL hlen hbl r1 r2 r3 r4 r5
                go_wp2_with (fail)
                go_quiet (fail)
                go_wp2_with (fail)
                go_region_held3 (fun V => V.cell? ⟨h17, 0, none⟩ = some (.int .i64 (ty : Int))) (go_keep) (fail)
                go_wp2_with (fail)
                (try simp only [Exit.inBlock, Exit.then])
                have hst := fun k => stored2 (P := Tryd.prog) (HEF11.out.1.drewN k) (HEF11.out.2.drewN k) (v0 := .slice none 0 0) (v1 := .slice none 0 0) (v2 := .slice none 0 0) (v3 := .slice none 0 0) (v4 := .slice none 0 0) (x0 := .int .i64 (S4.at_ : Int)) (x1 := .int .i64 (ty : Int))
                refine bodyPost_ret (v := .tuple #[.agg #[.slice none 0 0, .slice none 0 0, .slice none 0 0, .slice none 0 0, .slice none 0 0], .agg #[.int .i64 (S4.at_ : Int), .int .i64 (ty : Int)]]) ?_ rfl (RLoadPost.bad hE.out (Hfin.out _ (((HT11.out.drewN _).mono (by simp)).trans (hst _).2.2)))
                exact results_DR rfl _ rfl rfl (hst _).1 (hst _).2.1
            · skip
              have hlen : ((pW f).1.map Prod.fst).length = (pWs f).length := by unfold pWs; simp
              have hP : placeS f 4 tr = ((pW f).1.map Prod.fst).getD tr 0 := rfl
              rw [hP] at hE
              obtain ⟨g, o, c9, rfl, hcell⟩ := row_at r4 (i := tr) (by omega) (0)
              obtain ⟨PP, hPP⟩ : ∃ z, z = ((pW f).1.map Prod.fst).getD tr 0 := ⟨_, rfl⟩
              rw [← hPP] at hcell hE
              obtain ⟨LL, hLL⟩ : ∃ z, z = ((pW f).1.map Prod.fst).length := ⟨_, rfl⟩
              rw [← hLL] at hlen
              have hlt9 : decide (tr < LL) = true := decide_eq_true (by omega)
              have hlti9 : (tr : Int) < (LL : Int) := by omega
              have k4 : W11.cell? ⟨p, 8, none⟩ = some (.slice (some ⟨g, o, none⟩) LL c9) := by rw [hLL]; exact Hr11.out.1.cell 8
              clear hP hPP hLL hlen r1 r2 r3 r4 r5
              go_wp2_with (fail)
              go_quiet (fail)
              go_wp2_with (fail)
              go_quiet (fail)
              go_wp2_with (fail)
              go_region_held3 (fun V => V.cell? ⟨h17, 0, none⟩ = some (.int .i64 (ty : Int))) (go_keep) (fail)
              go_wp2_with (fail)
              (try simp only [Exit.inBlock, Exit.then])
              have hst := fun k => stored2 (P := Tryd.prog) (HEF11.out.1.drewN k) (HEF11.out.2.drewN k) (v0 := .slice none 0 0) (v1 := .slice none 0 0) (v2 := .slice none 0 0) (v3 := .slice none 0 0) (v4 := .slice none 0 0) (x0 := .int .i64 (PP : Int)) (x1 := .int .i64 (ty : Int))
              refine bodyPost_ret (v := .tuple #[.agg #[.slice none 0 0, .slice none 0 0, .slice none 0 0, .slice none 0 0, .slice none 0 0], .agg #[.int .i64 (PP : Int), .int .i64 (ty : Int)]]) ?_ rfl (RLoadPost.bad hE.out (Hfin.out _ (((HT11.out.drewN _).mono (by simp)).trans (hst _).2.2)))
              exact results_DR rfl _ rfl rfl (hst _).1 (hst _).2.1
            · skip
              have hlen : ((pM f).1.map Prod.fst).length = (pMs f).length := by unfold pMs; simp
              have hP : placeS f 5 tr = ((pM f).1.map Prod.fst).getD tr 0 := rfl
              rw [hP] at hE
              obtain ⟨g, o, c9, rfl, hcell⟩ := row_at r5 (i := tr) (by omega) (0)
              obtain ⟨PP, hPP⟩ : ∃ z, z = ((pM f).1.map Prod.fst).getD tr 0 := ⟨_, rfl⟩
              rw [← hPP] at hcell hE
              obtain ⟨LL, hLL⟩ : ∃ z, z = ((pM f).1.map Prod.fst).length := ⟨_, rfl⟩
              rw [← hLL] at hlen
              have hlt9 : decide (tr < LL) = true := decide_eq_true (by omega)
              have hlti9 : (tr : Int) < (LL : Int) := by omega
              have k4 : W11.cell? ⟨p, 9, none⟩ = some (.slice (some ⟨g, o, none⟩) LL c9) := by rw [hLL]; exact Hr11.out.1.cell 9
              clear hP hPP hLL hlen r1 r2 r3 r4 r5
              go_wp2_with (fail)
              go_quiet (fail)
              go_wp2_with (fail)
              go_quiet (fail)
              go_wp2_with (fail)
              go_region_held3 (fun V => V.cell? ⟨h17, 0, none⟩ = some (.int .i64 (ty : Int))) (go_keep) (fail)
              go_wp2_with (fail)
              (try simp only [Exit.inBlock, Exit.then])
              have hst := fun k => stored2 (P := Tryd.prog) (HEF11.out.1.drewN k) (HEF11.out.2.drewN k) (v0 := .slice none 0 0) (v1 := .slice none 0 0) (v2 := .slice none 0 0) (v3 := .slice none 0 0) (v4 := .slice none 0 0) (x0 := .int .i64 (PP : Int)) (x1 := .int .i64 (ty : Int))
              refine bodyPost_ret (v := .tuple #[.agg #[.slice none 0 0, .slice none 0 0, .slice none 0 0, .slice none 0 0, .slice none 0 0], .agg #[.int .i64 (PP : Int), .int .i64 (ty : Int)]]) ?_ rfl (RLoadPost.bad hE.out (Hfin.out _ (((HT11.out.drewN _).mono (by simp)).trans (hst _).2.2)))
              exact results_DR rfl _ rfl rfl (hst _).1 (hst _).2.1
        · skip
          have hE := Lib.hid (loadE_sum Hlong.out Hmb.out (by rw [← HNS.out]; exact hs1) (by rw [← HNS.out, Hl.out]; exact hlt) (by rw [← HNS.out, ← HS5e.out, ← HX.out]; exact heq))
          rw [← HS5e.out] at hE
          have hne : ((sm : Int) != (X : Int)) = true := by
            simp only [bne_iff_ne, ne_eq]
            intro e; apply heq; omega
          have Href := Lib.hid (refuse6_any W9 p _ s1 _ S5.at_ 12 (by omega) Hr9.out)
          rw [show s1.refuse S5.at_ 12 = ⟨s1.at_, some (S5.at_, 12)⟩ by unfold RS.refuse; rw [hs1]] at Href
          clear hs1 hbc heq
          go_wp2_with (fail)
          refine Hsum.out.mono ?_
          rintro e WB ⟨rfl, rfl⟩
          go_wp2_with (fail)
          refine Href.out.mono ?_
          rintro e WA ⟨⟨v, rfl⟩, hrA, hOA⟩
          have HrA := Lib.hid hrA
          have HTA := Lib.hid (show Only [] W1 WA from HT9.out.trans' hOA (by intro x hx; simp at hx; subst hx; exact .inr (by rw [Hz1.out]; omega)))
          clear e1 e3 hrA hOA Href Hsum
          have hEw := HEF.out.1.only HTA.out (by simp)
          have hFw := HEF.out.2.only HTA.out (by simp)
          have d0 : WA.cell? ⟨h2, 0, none⟩ = some _ := hEw.cell 0
          have d1 : WA.cell? ⟨h2, 1, none⟩ = some _ := hEw.cell 1
          have d2 : WA.cell? ⟨h2, 2, none⟩ = some _ := hEw.cell 2
          have d3 : WA.cell? ⟨h2, 3, none⟩ = some _ := hEw.cell 3
          have d4 : WA.cell? ⟨h2, 4, none⟩ = some _ := hEw.cell 4
          have g0 : WA.cell? ⟨h2 + 1, 0, none⟩ = some _ := hFw.cell 0
          have g1 : WA.cell? ⟨h2 + 1, 1, none⟩ = some _ := hFw.cell 1
          have z0 := hEw.frozen 0
          have z1 := hEw.frozen 1
          have z2 := hEw.frozen 2
          have z3 := hEw.frozen 3
          have z4 := hEw.frozen 4
          have y0 := hFw.frozen 0
          have y1 := hFw.frozen 1
          have q2 : WA.cell? ⟨p, 2, none⟩ = some (.int .i64 (S5.at_ : Int)) := HrA.out.1.cell 2
          have q3 : WA.cell? ⟨p, 3, none⟩ = some (.int .i64 ((12 : Nat) : Int)) := HrA.out.1.cell 3
          have HEw := Lib.hid (And.intro hEw hFw)
          have HOw := Lib.hid HTA.out
          clear hEw hFw
          go_wp2_with (fail)
          have hq1 : ¬ h2 = p ∧ ¬ p = h2 ∧ ¬ h2 + 1 = p ∧ ¬ p = h2 + 1 := by omega
          obtain ⟨hq1, hq2, hq4, hq5⟩ := hq1
          go_region_held3 (fun V => V.cell? ⟨p, 2, none⟩ = some (.int .i64 (S5.at_ : Int)) ∧ V.cell? ⟨p, 3, none⟩ = some (.int .i64 ((12 : Nat) : Int))) (go_keep) (fail)
          go_wp2_with (fail)
          (try simp only [Exit.inBlock, Exit.then])
          obtain ⟨b1, b2, hOz⟩ := stored2 (P := Tryd.prog) HEw.out.1 HEw.out.2 (v0 := .slice none 0 0) (v1 := .slice none 0 0) (v2 := .slice none 0 0) (v3 := .slice none 0 0) (v4 := .slice none 0 0) (x0 := .int .i64 (S5.at_ : Int)) (x1 := .int .i64 ((12 : Nat) : Int))
          refine bodyPost_ret (v := .tuple #[.agg #[.slice none 0 0, .slice none 0 0, .slice none 0 0, .slice none 0 0, .slice none 0 0], .agg #[.int .i64 (S5.at_ : Int), .int .i64 ((12 : Nat) : Int)]]) ?_ rfl (RLoadPost.bad hE.out (Hfin.out _ ((HOw.out.mono (by simp)).trans hOz).drew))
          exact results_DR rfl _ rfl rfl b1.drew b2.drew
end Go.Proofs.YtgohinklnglgeaaDoor
