/- Several texts in one: Chapter 6's document: the reader's refuse, number, word.; Chapter 6's document: the reader's word.; Chapter 6's document: the reader's list (printed by gen_fi12.py). -/
import Derived.Test.YtgohinklnglgeaaDoorPk10
set_option linter.unusedVariables false
set_option linter.unusedSimpArgs false
namespace Go.Proofs.YtgohinklnglgeaaDoor
open Go.RowKit
attribute [local go_sem] Oper.semAt_some

def badC (s : RS) : Nat × Nat := s.bad.getD (0, 0)
/-- the document's reader in a world -/
def RRd (w : World) (p : Nat) (F : Value) (s : RS) (rest : List Value) : Prop :=
  Blk w p 100 ([F, .int .i64 (s.at_ : Int), .int .i64 ((badC s).1 : Int), .int .i64 ((badC s).2 : Int)] ++ rest) ∧ ∀ x, s.bad = some x → x.2 ≠ 0
theorem RRd.only {w w' : World} {p : Nat} {F : Value} {s : RS} {rest : List Value} (h : RRd w p F s rest) {l : List Nat} (hO : Only l w w') (hp : p ∉ l) : RRd w' p F s rest := ⟨h.1.only hO hp, h.2⟩
theorem RRd.lt {w : World} {p : Nat} {F : Value} {s : RS} {rest : List Value} (h : RRd w p F s rest) : p < w.heap.size := h.1.lt
theorem RRd.put {w : World} {p : Nat} {F : Value} {s : RS} {rest : List Value} (h : RRd w p F s rest) (j : Nat) (u : Value) : RRd (w.setCell ⟨p, 4 + j, none⟩ u) p F s (rest.set j u) := by
  refine ⟨?_, h.2⟩
  have := h.1.set (4 + j) u
  rw [List.set_append_right _ _ (by simp)] at this
  simpa using this
theorem RRd.good {w : World} {p : Nat} {F : Value} {s : RS} {rest : List Value} (h : RRd w p F s rest) (hb : s.bad.isSome = true) : (badC s).2 ≠ 0 := by
  cases hs : s.bad with
  | none => rw [hs] at hb; cases hb
  | some x => unfold badC; rw [hs]; exact h.2 x hs
set_option maxRecDepth 100000 in
set_option maxHeartbeats 4000000 in
theorem refuse6_any (w : World) (p : Nat) (F : Value) (s : RS) (rest : List Value) (a y : Nat) (hy : y ≠ 0) (h : RRd w p F s rest) :
    Calls Tryd.prog 50 #[.pointer (some ⟨p, 0, none⟩), .int .i64 (a : Int), .int .i64 (y : Int)] w fun e w' => (∃ v, e = .returned v) ∧ RRd w' p F (s.refuse a y) rest ∧ Only [p] w w' := by
  have h0 := h
  obtain ⟨hb, hg⟩ := h
  have c2 : w.cell? ⟨p, 2, none⟩ = some (.int .i64 ((badC s).1 : Int)) := hb.cell 2
  have c3 : w.cell? ⟨p, 3, none⟩ = some (.int .i64 ((badC s).2 : Int)) := hb.cell 3
  have f2 : w.frozen? ⟨p, 2, none⟩ = false := hb.frozen 2
  have f3 : w.frozen? ⟨p, 3, none⟩ = false := hb.frozen 3
  cases hs : s.bad with
  | none =>
    have e : badC s = (0, 0) := by unfold badC; rw [hs]; rfl
    rw [e] at c2 c3
    have hz0 : (((0 : Nat) : Int) == 0) = true := rfl
    go_enter Tryd.func50, Tryd.ntmps50
    go_wp2_with (fail)
    go_end0
    have h2 := (hb.set 2 (.int .i64 (a : Int))).set 3 (.int .i64 (y : Int))
    have er : s.refuse a y = ⟨s.at_, some (a, y)⟩ := by unfold RS.refuse; rw [hs]
    rw [er]
    refine ⟨⟨_, rfl⟩, ⟨h2, fun x hx => by cases hx; exact hy⟩, ((Only.refl [p] w).setCell (.inl (by simp)) _).setCell (.inl (by simp)) _⟩
  | some x =>
    have hg1 := h0.good (by rw [hs]; rfl)
    have hg2 : ((((badC s).2 : Nat) : Int) == 0) = false := by simp; exact hg1
    go_enter Tryd.func50, Tryd.ntmps50
    go_wp2_with (fail)
    go_end0
    have er : s.refuse a y = s := by unfold RS.refuse; rw [hs]
    rw [er]
    exact ⟨⟨_, rfl⟩, h0, Only.refl _ _⟩
set_option maxRecDepth 100000 in
set_option maxHeartbeats 4000000 in
theorem number6_any (w : World) (p B : Nat) (A : Option Addr) (n c : Nat) (f : List UInt8) (hl : f.length = n) (hR : Rd w B 1 A n (bvs f)) (hBp : B ≤ p) (hn : n ≤ 140737488351232) (hnc : n ≤ c) (s : RS) (hs : s.at_ ≤ n) (rest : List Value) (most why : Nat) (hm : most < 4294967296) (hy : why ≠ 0 ∨ most = 4294967295)
    (h : RRd w p (.slice A n c) s rest) :
    Calls Tryd.prog 47 #[.pointer (some ⟨p, 0, none⟩), .int .u32 (most : Int), .int .i64 (why : Int)] w fun e w' => e = .returned (.int .i64 ((numS f most why s).1 : Int)) ∧ RRd w' p (.slice A n c) (numS f most why s).2 rest ∧ Only [p] w w' := by
  subst hl
  have h0 := h
  obtain ⟨hb, hg⟩ := h
  have c0 : w.cell? ⟨p, 0, none⟩ = some (.slice A f.length c) := hb.cell 0
  have c1 : w.cell? ⟨p, 1, none⟩ = some (.int .i64 (s.at_ : Int)) := hb.cell 1
  have c3 : w.cell? ⟨p, 3, none⟩ = some (.int .i64 ((badC s).2 : Int)) := hb.cell 3
  have f1 : w.frozen? ⟨p, 1, none⟩ = false := hb.frozen 1
  cases hsb : s.bad with
  | some b =>
    have hg1 := h0.good (by rw [hsb]; rfl)
    have hg2 : ((((badC s).2 : Nat) : Int) != 0) = true := by simp; exact hg1
    rw [numS_stick f most why s (by rw [hsb]; rfl)]
    go_enter Tryd.func47, Tryd.ntmps47
    go_wp2_with (fail)
    go_ret
    exact ⟨rfl, h0, Only.refl _ _⟩
  | none =>
    have e : badC s = (0, 0) := by unfold badC; rw [hsb]; rfl
    rw [e] at c3
    have hz0 : (((0 : Nat) : Int) != 0) = false := rfl
    obtain ⟨G, hG⟩ : ∃ G, G = getVal f (s.at_ : Int) := ⟨_, rfl⟩
    have hpz := hb.lt
    have hget : ∀ W, Only [] w W → Calls Tryd.prog 69 #[.slice A f.length c, .int .i64 (s.at_ : Int)] W fun e w' => e = .returned (.tuple #[.int .u32 (G.1 : Int), .int .i64 (G.2.1 : Int), .int .i64 (G.2.2 : Int)]) ∧ W = w' := fun W hW => by
      rw [hG]; exact refGet_any A f.length c f W ((hR.only hW (by simp)).more (by have := hW.size; omega)) hn (s.at_ : Int)
    have hgb := getVal_bd f (s.at_ : Int)
    have hnum : numS f most why s = if G.2.2 ≠ 0 then (0, s.refuse f.length 10) else if most < G.1 then (0, s.refuse s.at_ why) else (G.1, ⟨G.2.1, s.bad⟩) := by
      unfold numS; rw [if_neg (by rw [hsb]; simp), ← hG]
    rw [hnum]
    rw [← hG] at hgb
    obtain ⟨gn, gt, ge⟩ := G
    simp only at hgb hget ⊢
    have Hget := Lib.hid hget
    have Hsb := Lib.hid hsb
    clear hG hget hnum hsb e
    by_cases he : ge = 0
    · subst he
      rw [if_neg (by simp)]
      by_cases hm2 : most < gn
      · rw [if_pos hm2]
        have hy0 : why ≠ 0 := by rcases hy with h | h; · exact h
                                 · omega
        have hmi : decide ((most : Int) < (gn : Int)) = true := decide_eq_true (by omega)
        go_enter Tryd.func47, Tryd.ntmps47
        go_wp2_with (fail)
        go_region_with (
          go_at_call 69
          refine (Hget.out _ ?_).mono ?_
          exact (by first | exact Only.refl [] w | exact (Only.refl [] w).drew)
          rintro e w' ⟨rfl, rfl⟩)
        all_goals go_wp2_with (fail)
        all_goals
          refine (refuse6_any w.drew p _ s rest s.at_ why hy0 h0).mono ?_
          rintro e w2 ⟨⟨v, rfl⟩, hR2, hO2⟩
          go_wp2_with (fail)
          go_ret
          exact ⟨rfl, hR2, hO2.ofDrew⟩
      · rw [if_neg hm2]
        have hmi : decide ((most : Int) < (gn : Int)) = false := decide_eq_false (by omega)
        have hwg : IntKind.i64.wrap (gn : Int) = (gn : Int) := IntWalk.i64_in _ (by omega)
        go_enter Tryd.func47, Tryd.ntmps47
        go_wp2_with (fail)
        go_region_with (
          go_at_call 69
          refine (Hget.out _ ?_).mono ?_
          exact (by first | exact Only.refl [] w | exact (Only.refl [] w).drew)
          rintro e w' ⟨rfl, rfl⟩)
        all_goals go_wp2_with (fail)
        all_goals
          have hb2 := (show Blk w.drew p _ _ from hb).set 1 (.int .i64 (gt : Int))
          go_ret
          refine ⟨rfl, ⟨?_, fun x hx => ?_⟩, ((Only.refl [p] w).drew).setCell (.inl (by simp)) _⟩
          · exact hb2
          · rw [show s.bad = none from Hsb.out] at hx; cases hx
    · rw [if_pos he]
      have hei : ((ge : Int) != 0) = true := by simp; exact he
      go_enter Tryd.func47, Tryd.ntmps47
      go_wp2_with (fail)
      go_region_with (
        go_at_call 69
        refine (Hget.out _ ?_).mono ?_
        exact (by first | exact Only.refl [] w | exact (Only.refl [] w).drew)
        rintro e w' ⟨rfl, rfl⟩)
      all_goals go_wp2_with (fail)
      all_goals
        refine (refuse6_any w.drew p _ s rest f.length 10 (by omega) h0).mono ?_
        rintro e w2 ⟨⟨v, rfl⟩, hR2, hO2⟩
        go_wp2_with (fail)
        go_ret
        exact ⟨rfl, hR2, hO2.ofDrew⟩
end Go.Proofs.YtgohinklnglgeaaDoor

set_option linter.unusedVariables false
set_option linter.unusedSimpArgs false
namespace Go.Proofs.YtgohinklnglgeaaDoor
open Go.RowKit
attribute [local go_sem] Oper.semAt_some

/-- what word leaves: of the place's row -/
def Word6 (w : World) (base p : Nat) (F : Value) (f : List UInt8) (s : RS) (m : Nat) (pl : List Nat) (r0 r1 r2 r3 pv r5 r6 : Value) (e : Ending) (w' : World) : Prop :=
  e = .returned (.string (wordS f s).1) ∧ (((wordS f s).2.bad.isSome = true ∧ RRd w' p F (wordS f s).2 [r0, r1, r2, r3, pv, r5, r6] ∧ Only [p] w w') ∨ ((wordS f s).2.bad = none ∧ ∃ pv', RRd w' p F (wordS f s).2 [r0, r1, r2, r3, pv', r5, r6] ∧ w'.ownsRow base 3 1 pv' (m + 1) (nats (pl ++ [s.at_])) ∧ Only (p :: pv.ownBlock.toList) w w'))
theorem Word6.ofBad {w : World} {base p : Nat} {F : Value} {f : List UInt8} {s : RS} {m : Nat} {pl : List Nat} {r0 r1 r2 r3 pv r5 r6 : Value} {w' : World} {v : ByteArray} {t : RS} (hw : wordS f s = (v, t)) (hb : t.bad.isSome = true) (h : RRd w' p F t [r0, r1, r2, r3, pv, r5, r6]) (hO : Only [p] w w') : Word6 w base p F f s m pl r0 r1 r2 r3 pv r5 r6 (.returned (.string v)) w' := by
  unfold Word6; rw [hw]; exact ⟨rfl, .inl ⟨hb, h, hO⟩⟩
theorem Word6.ofGood {w : World} {base p : Nat} {F : Value} {f : List UInt8} {s : RS} {m : Nat} {pl : List Nat} {r0 r1 r2 r3 pv pv' r5 r6 : Value} {w' : World} {v : ByteArray} {t : RS} (hw : wordS f s = (v, t)) (hb : t.bad = none) (h : RRd w' p F t [r0, r1, r2, r3, pv', r5, r6]) (ho : w'.ownsRow base 3 1 pv' (m + 1) (nats (pl ++ [s.at_]))) (hO : Only (p :: pv.ownBlock.toList) w w') : Word6 w base p F f s m pl r0 r1 r2 r3 pv r5 r6 (.returned (.string v)) w' := by
  unfold Word6; rw [hw]; exact ⟨rfl, .inr ⟨hb, pv', h, ho, hO⟩⟩
set_option maxRecDepth 100000 in
set_option maxHeartbeats 8000000 in
theorem word6_any (w : World) (p B : Nat) (A : Option Addr) (n c : Nat) (f : List UInt8) (hl : f.length = n) (hR : Rd w B 1 A n (bvs f)) (hBp : B ≤ p) (hn : n ≤ 140737488351232) (hnc : n ≤ c) (s : RS) (hs : s.at_ ≤ n) (r0 r1 r2 r3 pv r5 r6 : Value)
    (h : RRd w p (.slice A n c) s [r0, r1, r2, r3, pv, r5, r6]) (base m : Nat) (pl : List Nat) (hbase : p < base) (hbw : base ≤ w.heap.size) (hm : m ≤ 4096) (hown : w.ownsRow base 3 1 pv m (nats pl)) :
    Calls Tryd.prog 48 #[.pointer (some ⟨p, 0, none⟩)] w (Word6 w base p (.slice A n c) f s m pl r0 r1 r2 r3 pv r5 r6) := by
  have h0 := h
  obtain ⟨hb, hg⟩ := h
  have c1 : w.cell? ⟨p, 1, none⟩ = some (.int .i64 (s.at_ : Int)) := hb.cell 1
  have hnum := number6_any w p B A n c f hl hR hBp hn hnc s hs [r0, r1, r2, r3, pv, r5, r6] 256 21 (by omega) (.inl (by omega)) h0
  have hat := numS_at f 256 21 s (by omega)
  obtain ⟨NS, hNS⟩ : ∃ z, z = numS f 256 21 s := ⟨_, rfl⟩
  have hw : wordS f s = if NS.2.bad.isSome = true then (ByteArray.empty, NS.2) else if NS.1 < 2 then (ByteArray.empty, NS.2.refuse s.at_ 21) else if f.length < NS.2.at_ + NS.1 then (ByteArray.empty, NS.2.refuse f.length 10) else (str ((f.drop NS.2.at_).take NS.1), ⟨NS.2.at_ + NS.1, none⟩) := by rw [hNS]; rfl
  rw [← hNS] at hnum hat
  have Hnum := Lib.hid hnum
  have Hown := Lib.hid hown
  have hpv : ∀ x, pv.ownBlock = some x → x ≠ p := fun x hx => by have := (own_lt hown hx).1; omega
  clear hNS h0 hb hg hnum hown
  obtain ⟨N, at1, bd1⟩ := NS
  simp only at hat hw
  cases bd1 with
  | some x =>
    rw [if_pos (show (some x).isSome = true from rfl)] at hw
    have Hw := Lib.hid hw
    clear hw
    go_enter Tryd.func48, Tryd.ntmps48
    go_wp2_with (fail)
    refine Hnum.out.mono ?_
    rintro e w1 ⟨rfl, h1, hO1⟩
    clear Hnum c1
    have h2 := Lib.hid h1
    have d3 : w1.cell? ⟨p, 3, none⟩ = some (.int .i64 (x.2 : Int)) := h1.1.cell 3
    have hx0 : x.2 ≠ 0 := h1.2 x rfl
    have hx1 : ((x.2 : Int) == 0) = false := by simp; exact hx0
    have hx2 : ((x.2 : Int) != 0) = true := by simp; exact hx0
    clear h1
    go_wp2_with (fail)
    go_quiet (fail)
    go_wp2_with (fail)
    go_ret
    exact Word6.ofBad Hw.out rfl (h2.out.only ((Only.refl [] w1).drewN _) (by simp)) (hO1.drewN _)
  | none =>
    rw [if_neg (by simp)] at hw
    by_cases hN : N < 2
    · rw [if_pos hN] at hw
      have Hw := Lib.hid hw
      clear hw
      have hNi : (N : Int) < 2 := by omega
      go_enter Tryd.func48, Tryd.ntmps48
      go_wp2_with (fail)
      refine Hnum.out.mono ?_
      rintro e w1 ⟨rfl, h1, hO1⟩
      clear Hnum c1
      have h2 := Lib.hid h1
      have d3 : w1.cell? ⟨p, 3, none⟩ = some (.int .i64 0) := h1.1.cell 3
      clear h1
      go_wp2_with (fail)
      refine (refuse6_any w1 p _ ⟨at1, none⟩ _ s.at_ 21 (by omega) h2.out).mono ?_
      rintro e w2 ⟨⟨v, rfl⟩, hR2, hO2⟩
      have h3 := Lib.hid hR2
      have d4 : w2.cell? ⟨p, 3, none⟩ = some (.int .i64 21) := hR2.1.cell 3
      clear hR2 d3
      go_wp2_with (fail)
      go_quiet (fail)
      go_wp2_with (fail)
      go_ret
      exact Word6.ofBad Hw.out rfl (h3.out.only ((Only.refl [] w2).drewN _) (by simp)) ((hO1.trans hO2).drewN _)
    · rw [if_neg hN] at hw
      have hNi : ¬ (N : Int) < 2 := by omega
      by_cases hfit : f.length < at1 + N
      · rw [if_pos hfit] at hw
        have Hw := Lib.hid hw
        clear hw
        have hwr : IntKind.i64.wrap ((n : Int) - (at1 : Int)) = (n : Int) - (at1 : Int) := IntWalk.i64_in _ (by omega)
        have hlt : decide ((n : Int) - (at1 : Int) < (N : Int)) = true := decide_eq_true (by omega)
        go_enter Tryd.func48, Tryd.ntmps48
        go_wp2_with (fail)
        refine Hnum.out.mono ?_
        rintro e w1 ⟨rfl, h1, hO1⟩
        clear Hnum c1
        have h2 := Lib.hid h1
        have d0 : w1.cell? ⟨p, 0, none⟩ = some (.slice A n c) := h1.1.cell 0
        have d1 : w1.cell? ⟨p, 1, none⟩ = some (.int .i64 (at1 : Int)) := h1.1.cell 1
        have d3 : w1.cell? ⟨p, 3, none⟩ = some (.int .i64 0) := h1.1.cell 3
        clear h1
        go_wp2_with (fail)
        go_quiet (fail)
        go_wp2_with (fail)
        rw [← hl]
        refine (refuse6_any _ p _ ⟨at1, none⟩ _ f.length 10 (by omega) (h2.out.only ((Only.refl [] w1).drewN _) (by simp))).mono ?_
        rintro e w2 ⟨⟨v, rfl⟩, hR2, hO2⟩
        have h3 := Lib.hid hR2
        have d4 : w2.cell? ⟨p, 3, none⟩ = some (.int .i64 10) := hR2.1.cell 3
        clear hR2 d3
        go_wp2_with (fail)
        go_ret
        exact Word6.ofBad Hw.out rfl h3.out ((hO1.drewN _).trans hO2)
      · rw [if_neg hfit] at hw
        have Hw := Lib.hid hw
        clear hw
        have hwr : IntKind.i64.wrap ((n : Int) - (at1 : Int)) = (n : Int) - (at1 : Int) := IntWalk.i64_in _ (by omega)
        have hlt : decide ((n : Int) - (at1 : Int) < (N : Int)) = false := decide_eq_false (by omega)
        go_enter Tryd.func48, Tryd.ntmps48
        go_wp2_with (fail)
        refine Hnum.out.mono ?_
        rintro e w1 ⟨rfl, h1, hO1⟩
        clear Hnum c1
        have h2 := Lib.hid h1
        have d0 : w1.cell? ⟨p, 0, none⟩ = some (.slice A n c) := h1.1.cell 0
        have d1 : w1.cell? ⟨p, 1, none⟩ = some (.int .i64 (at1 : Int)) := h1.1.cell 1
        have d3 : w1.cell? ⟨p, 3, none⟩ = some (.int .i64 0) := h1.1.cell 3
        clear h1
        go_wp2_with (fail)
        go_quiet (fail)
        go_wp2_with (fail)
        refine name_it (p := fun y => Code.wp _ _ _ _ y) ?_
        intro W2 H2
        have hO2 : Only [p] w W2 := by rw [H2.out]; exact hO1.drewN _
        have h3 : RRd W2 p (.slice A n c) ⟨at1, none⟩ [r0, r1, r2, r3, pv, r5, r6] := by rw [H2.out]; exact h2.out.only ((Only.refl [] w1).drewN _) (by simp)
        have hop : W2.ownsRow base 3 1 pv m (nats pl) := own_only Hown.out hO2 (by intro x hx; simp; exact hpv x hx)
        have hbz : base ≤ W2.heap.size := Nat.le_trans hbw hO2.size
        have k8 : W2.cell? ⟨p, 8, none⟩ = some pv := h3.1.cell 8
        have k8a : ∀ o, (W2.alloc o).cell? ⟨p, 8, none⟩ = some pv := fun o => (h3.1.alloc o).cell 8
        clear H2 h2 d0 d1 d3 hwr hlt hO1
        go_cut [] (fun wx => ∃ pv1, wx.ownsRow base 3 1 pv1 (m + 1) (nats (pl ++ [s.at_])) ∧ RRd wx p (.slice A n c) ⟨at1, none⟩ [r0, r1, r2, r3, pv1, r5, r6] ∧ Only (p :: pv.ownBlock.toList) W2 wx ∧ p < base)
        case first =>
          go_region_law (first
            | (refine step_append_row (v := pv) (by rfl) (.tmp 63) (.tmp 65) 51 (by rfl) base 3 (.int .i64 0) 1 8 Tryd.underlying51 intInfo6 rfl (by omega) (n := m) (xs := nats pl) (by rfl)
                 (by first | exact own_only hop ((Only.refl [] W2).alloc _) (by simp) | exact own_only hop (((Only.refl [] W2).alloc _).drew) (by simp) | exact own_only hop (((Only.refl [] W2).drew).alloc _) (by simp)) 1 (by rfl)
                 (by first | exact Rd.whole (Blk.new' _ _ _ rfl rfl) rfl | exact (Rd.whole (Blk.new' _ _ _ rfl rfl) rfl).drew) (by simp [Value.oneCell']) (by simp only [maxLen]; omega) (by omega) (by simp; omega) ?_
               intro pv1 w1 ho1 hO1 hn1
               replace hO1 : Only pv.ownBlock.toList W2 w1 := by first | exact ((Only.refl _ W2).alloc _).trans hO1 | exact (((Only.refl _ W2).alloc _).drew).trans hO1 | exact (((Only.refl _ W2).drew).alloc _).trans hO1
               have hb1 := h3.1.only hO1 (by intro hx; exact hpv p (by simpa using hx) rfl)
               have d3 : w1.frozen? ⟨p, 8, none⟩ = false := hb1.frozen 8
               have d4 : w1.cell? ⟨p, 8, none⟩ = some pv := hb1.cell 8
               obtain ⟨A1, c1', rfl, -⟩ := own_slice ho1))
          all_goals
            go_wp2
            go_meet
            case rel =>
              have hT : ∀ u, Only (p :: pv.ownBlock.toList) W2 (w1.setCell ⟨p, 8, none⟩ u) := fun u => (hO1.mono (fun x hx => .inl (List.mem_cons_of_mem _ hx))).setCell (.inl (by simp)) _
              refine ⟨.slice A1 (m + 1) c1', ?_, ?_, hT _, by omega⟩
              · have := own_only ho1 ((Only.refl [p] w1).setCell (p := ⟨p, 8, none⟩) (.inl (by simp)) (.slice A1 (m + 1) c1')) (by intro x hx; have := (own_lt ho1 hx).1; simp; omega)
                rw [nats_snoc]
                exact this
              · exact (h3.only hO1 (by intro hx; exact hpv p (by simpa using hx) rfl)).put 4 _
        case rest =>
          obtain ⟨pv1, hop1, h4, hO3, -⟩ := hcut
          replace hO3 : Only (p :: pv.ownBlock.toList) w wc := (hO2.mono (by simp)).trans hO3
          have hR3 : Rd wc B 1 A n (bvs f) := hR.only hO3 (by
            intro x hx; simp at hx
            rcases hx with rfl | e
            · exact hBp
            · have := (own_lt Hown.out e).1; omega)
          have d0 : wc.cell? ⟨p, 0, none⟩ = some (.slice A n c) := h4.1.cell 0
          have d1 : wc.cell? ⟨p, 1, none⟩ = some (.int .i64 (at1 : Int)) := h4.1.cell 1
          have z1 : wc.frozen? ⟨p, 1, none⟩ = false := h4.1.frozen 1
          obtain ⟨A', hsl, hX⟩ := hR3.slice_lh (P := Tryd.prog) Tryd.underlying22 (by kernel_rfl) (k := at1) (m := N) (c := c) (lo := (at1 : Int)) (hi := (at1 : Int) + (N : Int)) rfl (by omega) (by omega) hnc
          rw [Nat.mul_one, Nat.mul_one, bvs_drop, bvs_take] at hX
          have hcv := run_string_rd (P := Tryd.prog) 22 9 5 Tryd.underlying22 Tryd.underlying5 Tryd.underlying9 (c - at1) hX
          have hcvd : ∀ k, (convert 22 9 (.slice A' N (c - at1))).run Tryd.prog (wc.drewN k) = .ok (.string (str ((f.drop at1).take N))) (wc.drewN k) := fun k => run_string_rd (P := Tryd.prog) 22 9 5 Tryd.underlying22 Tryd.underlying5 Tryd.underlying9 (c - at1) (hX.drewN k)
          have hwa : IntKind.i64.wrap ((at1 : Int) + (N : Int)) = (at1 : Int) + (N : Int) := IntWalk.i64_in _ (by omega)
          have H4 := Lib.hid h4
          have Hop1 := Lib.hid hop1
          have HO3 := Lib.hid hO3
          clear h4 hop1 hO3 hX hR3 h3 hop k8 k8a hO2 Hown
          go_wp2_with (fail)
          go_quiet (fail)
          go_wp2_with (fail)
          go_ret
          have hS : ∀ k u, Only [p] wc ((wc.drewN k).setCell ⟨p, 1, none⟩ u) := fun k u => ((Only.refl [p] wc).drewN k).setCell (.inl (by simp)) u
          refine Word6.ofGood Hw.out rfl (pv' := pv1) ⟨?_, fun x hx => by cases hx⟩ ?_ (HO3.out.trans' (hS _ _) (by simp))
          · exact (H4.out.1.drewN _).set 1 _
          · exact own_only Hop1.out (hS _ _) (by intro x hx; have := (own_lt Hop1.out hx).1; simp; omega)
end Go.Proofs.YtgohinklnglgeaaDoor

set_option linter.unusedVariables false
set_option linter.unusedSimpArgs false
namespace Go.Proofs.YtgohinklnglgeaaDoor
open Go.RowKit
attribute [local go_sem] Oper.semAt_some

/-- what list leaves -/
def List6 (w : World) (p : Nat) (F : Value) (f : List UInt8) (s : RS) (restf : Value → List Value) (e : Ending) (w' : World) : Prop :=
  ∃ (v pv : Value) (m : Nat) (lp : List Nat) (ls : List Sp), e = .returned v ∧ w'.ownsRow w.heap.size 3 1 pv m (nats lp) ∧ w'.ownsRow w.heap.size 70 2 v m (ses ls) ∧ RRd w' p F (manyS (spanS f) (numS f 512 4 s).2 (numS f 512 4 s).1).2 (restf pv) ∧ Only [p] w w' ∧
    ((manyS (spanS f) (numS f 512 4 s).2 (numS f 512 4 s).1).2.bad = none → m = (numS f 512 4 s).1 ∧ lp = (manyS (spanS f) (numS f 512 4 s).2 (numS f 512 4 s).1).1.map Prod.fst ∧ ls = (manyS (spanS f) (numS f 512 4 s).2 (numS f 512 4 s).1).1.map Prod.snd)
/-- the loop's relation -/
def LRel (W0 wr : World) (p : Nat) (F : Value) (S : List (Nat × Sp) × RS) (k : Nat) (restf : Value → List Value) (v : Value) : Prop :=
  ∃ (pv : Value) (m : Nat) (lp : List Nat) (ls : List Sp), wr.ownsRow W0.heap.size 3 1 pv m (nats lp) ∧ wr.ownsRow W0.heap.size 70 2 v m (ses ls) ∧ RRd wr p F S.2 (restf pv) ∧ Only [p] W0 wr ∧ m ≤ k ∧ (S.2.bad = none → m = k ∧ lp = S.1.map Prod.fst ∧ ls = S.1.map Prod.snd)
theorem List6.of {w w3 w' : World} {p : Nat} {F : Value} {f : List UInt8} {s : RS} {restf : Value → List Value} {v : Value} (h : LRel w3 w' p F (manyS (spanS f) (numS f 512 4 s).2 (numS f 512 4 s).1) (numS f 512 4 s).1 restf v) (hO : Only [p] w w3) : List6 w p F f s restf (.returned v) w' := by
  obtain ⟨pv, m, lp, ls, h1, h2, h3, h4, -, h5⟩ := h
  exact ⟨v, pv, m, lp, ls, rfl, own_base h1 hO.size, own_base h2 hO.size, h3, hO.trans h4, h5⟩
theorem LRel.stuck {W0 wr : World} {p : Nat} {F : Value} {f : List UInt8} {s0 : RS} {k K : Nat} {restf : Value → List Value} {v : Value} (h : LRel W0 wr p F (manyS (spanS f) s0 k) k restf v) (hk : k ≤ K) (hb : (manyS (spanS f) s0 k).2.bad.isSome = true) : LRel W0 wr p F (manyS (spanS f) s0 K) K restf v := by
  obtain ⟨pv, m, lp, ls, h1, h2, h3, h4, h5, h6⟩ := h
  have e : (manyS (spanS f) s0 K).2 = (manyS (spanS f) s0 k).2 := by
    have := manyS_stick (spanS f) (fun s hs => by rw [spanS_stick f s hs]) s0 k (K - k) hb
    rwa [show k + (K - k) = K by omega] at this
  refine ⟨pv, m, lp, ls, h1, h2, by rw [e]; exact h3, h4, by omega, fun hn => ?_⟩
  rw [e] at hn; rw [hn] at hb; cases hb

set_option maxRecDepth 100000 in
set_option maxHeartbeats 8000000 in
theorem list6_1 (w : World) (p B : Nat) (A : Option Addr) (n c : Nat) (f : List UInt8) (hl : f.length = n) (hR : Rd w B 1 A n (bvs f)) (hBp : B ≤ p) (hn : n ≤ 140737488351232) (hnc : n ≤ c) (s : RS) (hs : s.at_ ≤ n) (P0 P2 P3 P4 P5 em : Value)
    (h : RRd w p (.slice A n c) s [P0, .slice none 0 0, P2, P3, P4, P5, em]) (hem : ∃ z, em = .int .i64 z) :
    Calls Tryd.prog 49 #[.pointer (some ⟨p, 0, none⟩), .int .i64 1] w (List6 w p (.slice A n c) f s (fun x => [P0, x, P2, P3, P4, P5, .int .i64 (s.at_ : Int)])) := by
  obtain ⟨z, rfl⟩ := hem
  have hb := h.1
  have c1 : w.cell? ⟨p, 1, none⟩ = some (.int .i64 (s.at_ : Int)) := hb.cell 1
  have c10 : w.cell? ⟨p, 10, none⟩ = some (.int .i64 z) := hb.cell 10
  have f10 : w.frozen? ⟨p, 10, none⟩ = false := hb.frozen 10
  have H := Lib.hid h
  have HR := Lib.hid hR
  have Hl := Lib.hid hl
  have hpw := h.lt
  clear hb h hR hl
  go_enter Tryd.func49, Tryd.ntmps49
  go_wp2_with (fail)
  refine name_it (p := fun y => Calls _ _ _ y _) ?_
  intro W2 H2
  have h2 : RRd W2 p (.slice A n c) s [P0, .slice none 0 0, P2, P3, P4, P5, .int .i64 (s.at_ : Int)] := by rw [H2.out]; exact H.out.put 6 _
  have hO2 : Only [p] w W2 := by rw [H2.out]; exact (Only.refl [p] w).setCell (.inl (by simp)) _
  clear H2 c1 c10 f10 H
  have hnum := number6_any W2 p B A n c f Hl.out (HR.out.only hO2 (by simp; omega)) hBp hn hnc s hs [P0, .slice none 0 0, P2, P3, P4, P5, .int .i64 (s.at_ : Int)] 512 4 (by omega) (.inl (by omega)) h2
  obtain ⟨NK, hNK⟩ : ∃ z, z = numS f 512 4 s := ⟨_, rfl⟩
  have hNb := numS_at f 512 4 s (by rw [Hl.out]; exact hs)
  rw [← hNK] at hnum hNb
  have HK := Lib.hid hNK
  refine hnum.mono ?_
  rintro e W3 ⟨rfl, h3, hO3⟩
  replace hO3 := hO2.trans hO3
  obtain ⟨K, S0⟩ := NK
  simp only at h3 hNb HK
  obtain ⟨hS0, hK⟩ := hNb
  have H3 := Lib.hid h3
  have HO3 := Lib.hid hO3
  have HR3 := Lib.hid (HR.out.only hO3 (by simp; omega))
  have hp3 : p < W3.heap.size := h3.lt
  have HS0 := Lib.hid hS0
  clear hnum hNK h2 hO2 h3 hO3 hS0
  go_wp2_with (fail)
  go_loopw [6, 7] (fun vl vi wr => ∃ k : Nat, vi = .int .i64 (k : Int) ∧ k ≤ K ∧ LRel W3 wr p (.slice A n c) (manyS (spanS f) S0 k) k (fun x => [P0, x, P2, P3, P4, P5, .int .i64 (s.at_ : Int)]) vl) (fun _ vi _ => K - (intOf vi).toNat)
  case atStart => exact ⟨0, rfl, by omega, .slice none 0 0, 0, [], [], ⟨rfl, .inl ⟨rfl, rfl⟩⟩, ⟨rfl, .inl ⟨rfl, rfl⟩⟩, H3.out, .refl _ _, by omega, fun _ => ⟨rfl, rfl, rfl⟩⟩
  case round =>
    obtain ⟨k, rfl, hk, hrelL⟩ := hrel
    have HL := Lib.hid hrelL
    obtain ⟨S, hS⟩ : ∃ S, S = manyS (spanS f) S0 k := ⟨_, rfl⟩
    have hSa : S.2.at_ ≤ n := by rw [hS, ← Hl.out]; exact (manyS_at _ _ (fun s => spanS_at f s) _ HS0.out k).1
    have hS1 : manyS (spanS f) S0 (k + 1) = (S.1 ++ [(S.2.at_, (spanS f S.2).1)], (spanS f S.2).2) := by rw [hS]; rfl
    rw [← hS] at hrelL
    have HS := Lib.hid hS
    have HS1 := Lib.hid hS1
    clear hS hS1
    obtain ⟨L, t⟩ := S
    obtain ⟨pv, m, lp, ls, hop, hod, hr, hO, hmk, hg⟩ := hrelL
    simp only at hr hg hSa
    have c3 : wr.cell? ⟨p, 3, none⟩ = some (.int .i64 ((badC t).2 : Int)) := hr.1.cell 3
    by_cases hlt : k < K
    · cases htb : t.bad with
      | some x =>
        have hg1 := hr.good (by rw [htb]; rfl)
        have hg2 : ((((badC t).2 : Nat) : Int) == 0) = false := by simp; exact hg1
        have htb2 : (manyS (spanS f) S0 k).2.bad.isSome = true := by rw [← HS.out]; simp only; rw [htb]; rfl
        have Htb := Lib.hid htb2
        clear hop hod hr hO hg htb htb2 hg1
        go_wp2_with (fail)
        go_ret
        have hfin := HL.out.stuck (by omega) Htb.out (K := K)
        exact List6.of (w3 := W3) (by rw [← HK.out]; exact hfin) HO3.out
      | none =>
        obtain ⟨hmk2, rfl, rfl⟩ := hg htb
        obtain rfl : k = m := hmk2.symm
        have e0 : badC t = (0, 0) := by unfold badC; rw [htb]; rfl
        rw [e0] at c3
        have hz0 : (((0 : Nat) : Int) == 0) = true := rfl
        have c1 : wr.cell? ⟨p, 1, none⟩ = some (.int .i64 (t.at_ : Int)) := hr.1.cell 1
        have GN := fun W (s' : RS) (hW : Only [p] wr W) (hs' : s'.at_ ≤ n) (hr' : RRd W p (.slice A n c) s' [P0, pv, P2, P3, P4, P5, .int .i64 (s.at_ : Int)]) => number6_any W p B A n c f Hl.out ((HR3.out.only hO (by simp; omega)).only hW (by simp; omega)) hBp hn hnc s' hs' [P0, pv, P2, P3, P4, P5, .int .i64 (s.at_ : Int)] 1114111 14 (by omega) (.inl (by omega)) hr'
        obtain ⟨⟨x1, t1⟩, hX1⟩ : ∃ z, z = numS f 1114111 14 t := ⟨_, rfl⟩
        have ha1 : t1.at_ ≤ n ∧ x1 ≤ 1114111 := by have := numS_at f 1114111 14 t (by rw [Hl.out]; omega); rw [← hX1, Hl.out] at this; exact this
        have G1 := GN wr t (.refl _ _) hSa hr
        rw [← hX1] at G1
        obtain ⟨⟨x2, t2⟩, hX2⟩ : ∃ z, z = numS f 1114111 14 t1 := ⟨_, rfl⟩
        have ha2 : t2.at_ ≤ n ∧ x2 ≤ 1114111 := by have := numS_at f 1114111 14 t1 (by rw [Hl.out]; omega); rw [← hX2, Hl.out] at this; exact this
        have G2 := Lib.hid (fun W (hW : Only [p] wr W) (hr' : RRd W p (.slice A n c) t1 [P0, pv, P2, P3, P4, P5, .int .i64 (s.at_ : Int)]) => GN W t1 hW ha1.1 hr')
        rw [← hX2] at G2
        have HWW := Lib.hid (show ((((x1 : Int), (x2 : Int)) : Sp), t2) = spanS f t by unfold spanS; rw [← hX1]; simp only; rw [← hX2])
        have hw1 : IntKind.i32.wrap ((x1 : Nat) : Int) = (x1 : Int) := IntWalk.i32_in _ (by omega)
        have hw2 : IntKind.i32.wrap ((x2 : Nat) : Int) = (x2 : Int) := IntWalk.i32_in _ (by omega)
        have hpv : ∀ x, pv.ownBlock = some x → x ≠ p := fun x hx => by have := (own_lt hop hx).1; omega
        have hdv : ∀ x, u6.ownBlock = some x → x ≠ p := fun x hx => by have := (own_lt hod hx).1; omega
        have G1' := Lib.hid G1
        have HO := Lib.hid hO
        have Hop := Lib.hid hop
        have Hod := Lib.hid hod
        have hbz : W3.heap.size ≤ wr.heap.size := hO.size
        clear GN hX1 hX2 hr hg htb e0 G1 hO hop hod hmk2
        go_wp2_with (fail)
        refine G1'.out.mono ?_
        rintro e w1 ⟨rfl, hr1, hO1⟩
        clear c3 c1 G1'
        go_wp2_with (fail)
        refine (G2.out w1 hO1 hr1).mono ?_
        rintro e w2 ⟨rfl, hr2, hO2⟩
        replace hO2 := hO1.trans hO2
        clear hr1 hO1 G2
        have d3 : w2.cell? ⟨p, 3, none⟩ = some (.int .i64 ((badC t2).2 : Int)) := hr2.1.cell 3
        have hop2 := own_only Hop.out hO2 (by intro x hx; simp; exact hpv x hx)
        have hod2 := own_only Hod.out hO2 (by intro x hx; simp; exact hdv x hx)
        cases htb : t2.bad with
        | some x =>
          have hg1 := hr2.good (by rw [htb]; rfl)
          have hg2 : ((((badC t2).2 : Nat) : Int) == 0) = false := by simp; exact hg1
          have Htb := Lib.hid htb
          have Hr2 := Lib.hid hr2
          have HO2 := Lib.hid hO2
          have Hop2 := Lib.hid hop2
          have Hod2 := Lib.hid hod2
          clear htb hr2 hg1 hop2 hod2 hO2
          go_wp2_with (fail)
          go_roundw
          case rel =>
            refine ⟨k + 1, by go_num, by omega, ?_⟩
            rw [HS1.out, ← HWW.out]
            exact ⟨pv, _, _, _, Hop2.out, Hod2.out, Hr2.out, HO.out.trans HO2.out, by omega, fun hb => by rw [show t2.bad = some x from Htb.out] at hb; cases hb⟩
          case measure => simp [intOf]; omega
        | none =>
          have e0 : badC t2 = (0, 0) := by unfold badC; rw [htb]; rfl
          rw [e0] at d3
          have k8 : w2.cell? ⟨p, 5, none⟩ = some pv := hr2.1.cell 5
          have k8a : ∀ o, (w2.alloc o).cell? ⟨p, 5, none⟩ = some pv := fun o => (hr2.1.alloc o).cell 5
          have hb2z : W3.heap.size ≤ w2.heap.size := Nat.le_trans hbz hO2.size
          have Htb := Lib.hid htb
          clear htb e0
          go_upto_region 11 with (fail)
          go_cut [] (fun wx => ∃ pv1, wx.ownsRow W3.heap.size 3 1 pv1 (k + 1) (nats (L.map Prod.fst ++ [t.at_])) ∧ RRd wx p (.slice A n c) t2 [P0, pv1, P2, P3, P4, P5, .int .i64 (s.at_ : Int)] ∧ wx.ownsRow W3.heap.size 70 2 u6 k (ses (L.map Prod.snd)) ∧ Only [p] W3 wx)
          case first =>
            go_region_law (first
              | (refine step_append_row (v := pv) (by rfl) (.tmp 54) (.tmp 56) 51 (by rfl) W3.heap.size 3 (.int .i64 0) 1 8 Tryd.underlying51 intInfo6 rfl (by omega) (n := k) (xs := nats (L.map Prod.fst)) (by rfl)
                   (by first | exact own_only hop2 ((Only.refl [] w2).alloc _) (by simp) | exact own_only hop2 (((Only.refl [] w2).alloc _).drew) (by simp) | exact own_only hop2 (((Only.refl [] w2).drew).alloc _) (by simp)) 1 (by rfl)
                   (by first | exact Rd.whole (Blk.new' _ _ _ rfl rfl) rfl | exact (Rd.whole (Blk.new' _ _ _ rfl rfl) rfl).drew) (by simp [Value.oneCell']) (by simp only [maxLen]; omega) (by omega) (by simp; omega) ?_
                 intro pv1 wy ho1 hO1 hn1
                 replace hO1 : Only pv.ownBlock.toList w2 wy := by first | exact ((Only.refl _ w2).alloc _).trans hO1 | exact (((Only.refl _ w2).alloc _).drew).trans hO1 | exact (((Only.refl _ w2).drew).alloc _).trans hO1
                 have hb1 := hr2.1.only hO1 (by intro hx; exact hpv p (by simpa using hx) rfl)
                 have d5 : wy.frozen? ⟨p, 5, none⟩ = false := hb1.frozen 5
                 have d4 : wy.cell? ⟨p, 5, none⟩ = some pv := hb1.cell 5
                 obtain ⟨A1, c1', rfl, -⟩ := own_slice ho1))
            all_goals
              go_wp2
              go_meet
              case rel =>
                have hT : ∀ u, Only (p :: pv.ownBlock.toList) w2 (wy.setCell ⟨p, 5, none⟩ u) := fun u => (hO1.mono (fun x hx => .inl (List.mem_cons_of_mem _ hx))).setCell (.inl (by simp)) _
                refine ⟨.slice A1 (k + 1) c1', ?_, ?_, ?_, ?_⟩
                · have := own_only ho1 ((Only.refl [p] wy).setCell (p := ⟨p, 5, none⟩) (.inl (by simp)) (.slice A1 (k + 1) c1')) (by intro x hx; have := (own_lt ho1 hx).1; simp; omega)
                  rw [nats_snoc]
                  exact this
                · exact (hr2.only hO1 (by intro hx; exact hpv p (by simpa using hx) rfl)).put 1 _
                · exact own_only hod2 (hT _) (by
                    intro x hx hxx; simp at hxx
                    rcases hxx with e | e
                    · exact hdv x hx e
                    · exact own_apart hod2 hop2 (by decide) hx e)
                · exact (HO.out.trans hO2).trans' (hT _) (by
                    intro x hx; simp at hx
                    rcases hx with rfl | e
                    · exact .inl (by simp)
                    · exact .inr (own_lt hop2 e).1)
          case rest =>
            obtain ⟨pv1, hop3, hr3, hod3, hO3⟩ := hcut
            clear hop2 hod2 k8 k8a d3 hpv hdv hb2z hr2 hO2
            obtain ⟨gz, hgz⟩ : ∃ gz, gz = wc.heap.size := ⟨_, rfl⟩
            obtain ⟨vn, wn, hrun, hown, hOn, hnb, -⟩ := run_append_row (P := Tryd.prog) (w := wc.alloc (.cells #[.int .i32 (x1 : Int), .int .i32 (x2 : Int)] 70)) W3.heap.size 36 36 70 (.agg #[.int .i32 0, .int .i32 0]) 2 8 Tryd.underlying36 spInfo6 rfl (by omega) (own_only hod3 ((Only.refl [] wc).alloc _) (by simp)) 1 (B := gz + 1) (m := 1) (X := some ⟨gz, 0, none⟩) (ys := [.int .i32 (x1 : Int), .int .i32 (x2 : Int)]) (Rd.whole (Blk.new' _ _ _ hgz.symm rfl) rfl) (by simp [Value.oneCell']) (by simp only [maxLen]; omega) (by omega) (by have := hO3.size; simp; omega)
            have Hrun := Lib.hid hrun
            have Hgz := Lib.hid hgz
            have hOn2 : Only u6.ownBlock.toList wc wn := ((Only.refl _ wc).alloc _).trans hOn
            have hdv3 : ∀ x, u6.ownBlock = some x → x ≠ p := fun x hx => by have := (own_lt hod3 hx).1; omega
            have Hf := Lib.hid (And.intro hop3 (And.intro hr3 (And.intro hod3 (And.intro hO3 (And.intro hown hOn2)))))
            clear hrun hgz hop3 hr3 hod3 hO3 hown hOn hOn2 hnb
            go_wp2_with (at_builtin; rw [← Hgz.out]; refine wpList_append_run (o := ⟨some 68, _, _, _, _, _⟩) (by rfl) (.tmp 61) (.tmp 67) 36 36 (by rfl) (by rfl) (by rfl) Hrun.out ?_)
            go_roundw
            case rel =>
              obtain ⟨hop3, hr3, hod3, hO3, hown, hOn2⟩ := Hf.out
              refine ⟨k + 1, by go_num, by omega, ?_⟩
              rw [HS1.out, ← HWW.out]
              refine ⟨pv1, k + 1, L.map Prod.fst ++ [t.at_], L.map Prod.snd ++ [((x1 : Int), (x2 : Int))], ?_, ?_, hr3.only hOn2 (by intro hx; exact hdv3 p (by simpa using hx) rfl), hO3.trans' hOn2 (by intro x hx; exact .inr (own_lt hod3 (by simpa using hx)).1), by omega, fun _ => ⟨rfl, by simp, by simp⟩⟩
              · exact own_only hop3 hOn2 (by intro x hx hxx; exact own_apart hop3 hod3 (by decide) hx (by simpa using hxx))
              · simpa [ses, spv] using hown
            case measure => simp [intOf]; omega
    · obtain rfl : k = K := by omega
      clear hop hod hr hO hg
      go_wp2_with (fail)
      go_ret
      exact List6.of (w3 := W3) (by rw [← HK.out]; exact HL.out) HO3.out

set_option maxRecDepth 100000 in
set_option maxHeartbeats 8000000 in
theorem list6_2 (w : World) (p B : Nat) (A : Option Addr) (n c : Nat) (f : List UInt8) (hl : f.length = n) (hR : Rd w B 1 A n (bvs f)) (hBp : B ≤ p) (hn : n ≤ 140737488351232) (hnc : n ≤ c) (s : RS) (hs : s.at_ ≤ n) (P0 P1 P3 P4 P5 em : Value)
    (h : RRd w p (.slice A n c) s [P0, P1, .slice none 0 0, P3, P4, P5, em]) (hem : ∃ z, em = .int .i64 z) :
    Calls Tryd.prog 49 #[.pointer (some ⟨p, 0, none⟩), .int .i64 2] w (List6 w p (.slice A n c) f s (fun x => [P0, P1, x, P3, P4, P5, .int .i64 (s.at_ : Int)])) := by
  obtain ⟨z, rfl⟩ := hem
  have hb := h.1
  have c1 : w.cell? ⟨p, 1, none⟩ = some (.int .i64 (s.at_ : Int)) := hb.cell 1
  have c10 : w.cell? ⟨p, 10, none⟩ = some (.int .i64 z) := hb.cell 10
  have f10 : w.frozen? ⟨p, 10, none⟩ = false := hb.frozen 10
  have H := Lib.hid h
  have HR := Lib.hid hR
  have Hl := Lib.hid hl
  have hpw := h.lt
  clear hb h hR hl
  go_enter Tryd.func49, Tryd.ntmps49
  go_wp2_with (fail)
  refine name_it (p := fun y => Calls _ _ _ y _) ?_
  intro W2 H2
  have h2 : RRd W2 p (.slice A n c) s [P0, P1, .slice none 0 0, P3, P4, P5, .int .i64 (s.at_ : Int)] := by rw [H2.out]; exact H.out.put 6 _
  have hO2 : Only [p] w W2 := by rw [H2.out]; exact (Only.refl [p] w).setCell (.inl (by simp)) _
  clear H2 c1 c10 f10 H
  have hnum := number6_any W2 p B A n c f Hl.out (HR.out.only hO2 (by simp; omega)) hBp hn hnc s hs [P0, P1, .slice none 0 0, P3, P4, P5, .int .i64 (s.at_ : Int)] 512 4 (by omega) (.inl (by omega)) h2
  obtain ⟨NK, hNK⟩ : ∃ z, z = numS f 512 4 s := ⟨_, rfl⟩
  have hNb := numS_at f 512 4 s (by rw [Hl.out]; exact hs)
  rw [← hNK] at hnum hNb
  have HK := Lib.hid hNK
  refine hnum.mono ?_
  rintro e W3 ⟨rfl, h3, hO3⟩
  replace hO3 := hO2.trans hO3
  obtain ⟨K, S0⟩ := NK
  simp only at h3 hNb HK
  obtain ⟨hS0, hK⟩ := hNb
  have H3 := Lib.hid h3
  have HO3 := Lib.hid hO3
  have HR3 := Lib.hid (HR.out.only hO3 (by simp; omega))
  have hp3 : p < W3.heap.size := h3.lt
  have HS0 := Lib.hid hS0
  clear hnum hNK h2 hO2 h3 hO3 hS0
  go_wp2_with (fail)
  go_loopw [6, 7] (fun vl vi wr => ∃ k : Nat, vi = .int .i64 (k : Int) ∧ k ≤ K ∧ LRel W3 wr p (.slice A n c) (manyS (spanS f) S0 k) k (fun x => [P0, P1, x, P3, P4, P5, .int .i64 (s.at_ : Int)]) vl) (fun _ vi _ => K - (intOf vi).toNat)
  case atStart => exact ⟨0, rfl, by omega, .slice none 0 0, 0, [], [], ⟨rfl, .inl ⟨rfl, rfl⟩⟩, ⟨rfl, .inl ⟨rfl, rfl⟩⟩, H3.out, .refl _ _, by omega, fun _ => ⟨rfl, rfl, rfl⟩⟩
  case round =>
    obtain ⟨k, rfl, hk, hrelL⟩ := hrel
    have HL := Lib.hid hrelL
    obtain ⟨S, hS⟩ : ∃ S, S = manyS (spanS f) S0 k := ⟨_, rfl⟩
    have hSa : S.2.at_ ≤ n := by rw [hS, ← Hl.out]; exact (manyS_at _ _ (fun s => spanS_at f s) _ HS0.out k).1
    have hS1 : manyS (spanS f) S0 (k + 1) = (S.1 ++ [(S.2.at_, (spanS f S.2).1)], (spanS f S.2).2) := by rw [hS]; rfl
    rw [← hS] at hrelL
    have HS := Lib.hid hS
    have HS1 := Lib.hid hS1
    clear hS hS1
    obtain ⟨L, t⟩ := S
    obtain ⟨pv, m, lp, ls, hop, hod, hr, hO, hmk, hg⟩ := hrelL
    simp only at hr hg hSa
    have c3 : wr.cell? ⟨p, 3, none⟩ = some (.int .i64 ((badC t).2 : Int)) := hr.1.cell 3
    by_cases hlt : k < K
    · cases htb : t.bad with
      | some x =>
        have hg1 := hr.good (by rw [htb]; rfl)
        have hg2 : ((((badC t).2 : Nat) : Int) == 0) = false := by simp; exact hg1
        have htb2 : (manyS (spanS f) S0 k).2.bad.isSome = true := by rw [← HS.out]; simp only; rw [htb]; rfl
        have Htb := Lib.hid htb2
        clear hop hod hr hO hg htb htb2 hg1
        go_wp2_with (fail)
        go_ret
        have hfin := HL.out.stuck (by omega) Htb.out (K := K)
        exact List6.of (w3 := W3) (by rw [← HK.out]; exact hfin) HO3.out
      | none =>
        obtain ⟨hmk2, rfl, rfl⟩ := hg htb
        obtain rfl : k = m := hmk2.symm
        have e0 : badC t = (0, 0) := by unfold badC; rw [htb]; rfl
        rw [e0] at c3
        have hz0 : (((0 : Nat) : Int) == 0) = true := rfl
        have c1 : wr.cell? ⟨p, 1, none⟩ = some (.int .i64 (t.at_ : Int)) := hr.1.cell 1
        have GN := fun W (s' : RS) (hW : Only [p] wr W) (hs' : s'.at_ ≤ n) (hr' : RRd W p (.slice A n c) s' [P0, P1, pv, P3, P4, P5, .int .i64 (s.at_ : Int)]) => number6_any W p B A n c f Hl.out ((HR3.out.only hO (by simp; omega)).only hW (by simp; omega)) hBp hn hnc s' hs' [P0, P1, pv, P3, P4, P5, .int .i64 (s.at_ : Int)] 1114111 14 (by omega) (.inl (by omega)) hr'
        obtain ⟨⟨x1, t1⟩, hX1⟩ : ∃ z, z = numS f 1114111 14 t := ⟨_, rfl⟩
        have ha1 : t1.at_ ≤ n ∧ x1 ≤ 1114111 := by have := numS_at f 1114111 14 t (by rw [Hl.out]; omega); rw [← hX1, Hl.out] at this; exact this
        have G1 := GN wr t (.refl _ _) hSa hr
        rw [← hX1] at G1
        obtain ⟨⟨x2, t2⟩, hX2⟩ : ∃ z, z = numS f 1114111 14 t1 := ⟨_, rfl⟩
        have ha2 : t2.at_ ≤ n ∧ x2 ≤ 1114111 := by have := numS_at f 1114111 14 t1 (by rw [Hl.out]; omega); rw [← hX2, Hl.out] at this; exact this
        have G2 := Lib.hid (fun W (hW : Only [p] wr W) (hr' : RRd W p (.slice A n c) t1 [P0, P1, pv, P3, P4, P5, .int .i64 (s.at_ : Int)]) => GN W t1 hW ha1.1 hr')
        rw [← hX2] at G2
        have HWW := Lib.hid (show ((((x1 : Int), (x2 : Int)) : Sp), t2) = spanS f t by unfold spanS; rw [← hX1]; simp only; rw [← hX2])
        have hw1 : IntKind.i32.wrap ((x1 : Nat) : Int) = (x1 : Int) := IntWalk.i32_in _ (by omega)
        have hw2 : IntKind.i32.wrap ((x2 : Nat) : Int) = (x2 : Int) := IntWalk.i32_in _ (by omega)
        have hpv : ∀ x, pv.ownBlock = some x → x ≠ p := fun x hx => by have := (own_lt hop hx).1; omega
        have hdv : ∀ x, u6.ownBlock = some x → x ≠ p := fun x hx => by have := (own_lt hod hx).1; omega
        have G1' := Lib.hid G1
        have HO := Lib.hid hO
        have Hop := Lib.hid hop
        have Hod := Lib.hid hod
        have hbz : W3.heap.size ≤ wr.heap.size := hO.size
        clear GN hX1 hX2 hr hg htb e0 G1 hO hop hod hmk2
        go_wp2_with (fail)
        refine G1'.out.mono ?_
        rintro e w1 ⟨rfl, hr1, hO1⟩
        clear c3 c1 G1'
        go_wp2_with (fail)
        refine (G2.out w1 hO1 hr1).mono ?_
        rintro e w2 ⟨rfl, hr2, hO2⟩
        replace hO2 := hO1.trans hO2
        clear hr1 hO1 G2
        have d3 : w2.cell? ⟨p, 3, none⟩ = some (.int .i64 ((badC t2).2 : Int)) := hr2.1.cell 3
        have hop2 := own_only Hop.out hO2 (by intro x hx; simp; exact hpv x hx)
        have hod2 := own_only Hod.out hO2 (by intro x hx; simp; exact hdv x hx)
        cases htb : t2.bad with
        | some x =>
          have hg1 := hr2.good (by rw [htb]; rfl)
          have hg2 : ((((badC t2).2 : Nat) : Int) == 0) = false := by simp; exact hg1
          have Htb := Lib.hid htb
          have Hr2 := Lib.hid hr2
          have HO2 := Lib.hid hO2
          have Hop2 := Lib.hid hop2
          have Hod2 := Lib.hid hod2
          clear htb hr2 hg1 hop2 hod2 hO2
          go_wp2_with (fail)
          go_roundw
          case rel =>
            refine ⟨k + 1, by go_num, by omega, ?_⟩
            rw [HS1.out, ← HWW.out]
            exact ⟨pv, _, _, _, Hop2.out, Hod2.out, Hr2.out, HO.out.trans HO2.out, by omega, fun hb => by rw [show t2.bad = some x from Htb.out] at hb; cases hb⟩
          case measure => simp [intOf]; omega
        | none =>
          have e0 : badC t2 = (0, 0) := by unfold badC; rw [htb]; rfl
          rw [e0] at d3
          have k8 : w2.cell? ⟨p, 6, none⟩ = some pv := hr2.1.cell 6
          have k8a : ∀ o, (w2.alloc o).cell? ⟨p, 6, none⟩ = some pv := fun o => (hr2.1.alloc o).cell 6
          have hb2z : W3.heap.size ≤ w2.heap.size := Nat.le_trans hbz hO2.size
          have Htb := Lib.hid htb
          clear htb e0
          go_upto_region 11 with (fail)
          go_cut [] (fun wx => ∃ pv1, wx.ownsRow W3.heap.size 3 1 pv1 (k + 1) (nats (L.map Prod.fst ++ [t.at_])) ∧ RRd wx p (.slice A n c) t2 [P0, P1, pv1, P3, P4, P5, .int .i64 (s.at_ : Int)] ∧ wx.ownsRow W3.heap.size 70 2 u6 k (ses (L.map Prod.snd)) ∧ Only [p] W3 wx)
          case first =>
            go_region_law (first
              | (refine step_append_row (v := pv) (by rfl) (.tmp 54) (.tmp 56) 51 (by rfl) W3.heap.size 3 (.int .i64 0) 1 8 Tryd.underlying51 intInfo6 rfl (by omega) (n := k) (xs := nats (L.map Prod.fst)) (by rfl)
                   (by first | exact own_only hop2 ((Only.refl [] w2).alloc _) (by simp) | exact own_only hop2 (((Only.refl [] w2).alloc _).drew) (by simp) | exact own_only hop2 (((Only.refl [] w2).drew).alloc _) (by simp)) 1 (by rfl)
                   (by first | exact Rd.whole (Blk.new' _ _ _ rfl rfl) rfl | exact (Rd.whole (Blk.new' _ _ _ rfl rfl) rfl).drew) (by simp [Value.oneCell']) (by simp only [maxLen]; omega) (by omega) (by simp; omega) ?_
                 intro pv1 wy ho1 hO1 hn1
                 replace hO1 : Only pv.ownBlock.toList w2 wy := by first | exact ((Only.refl _ w2).alloc _).trans hO1 | exact (((Only.refl _ w2).alloc _).drew).trans hO1 | exact (((Only.refl _ w2).drew).alloc _).trans hO1
                 have hb1 := hr2.1.only hO1 (by intro hx; exact hpv p (by simpa using hx) rfl)
                 have d5 : wy.frozen? ⟨p, 6, none⟩ = false := hb1.frozen 6
                 have d4 : wy.cell? ⟨p, 6, none⟩ = some pv := hb1.cell 6
                 obtain ⟨A1, c1', rfl, -⟩ := own_slice ho1))
            all_goals
              go_wp2
              go_meet
              case rel =>
                have hT : ∀ u, Only (p :: pv.ownBlock.toList) w2 (wy.setCell ⟨p, 6, none⟩ u) := fun u => (hO1.mono (fun x hx => .inl (List.mem_cons_of_mem _ hx))).setCell (.inl (by simp)) _
                refine ⟨.slice A1 (k + 1) c1', ?_, ?_, ?_, ?_⟩
                · have := own_only ho1 ((Only.refl [p] wy).setCell (p := ⟨p, 6, none⟩) (.inl (by simp)) (.slice A1 (k + 1) c1')) (by intro x hx; have := (own_lt ho1 hx).1; simp; omega)
                  rw [nats_snoc]
                  exact this
                · exact (hr2.only hO1 (by intro hx; exact hpv p (by simpa using hx) rfl)).put 2 _
                · exact own_only hod2 (hT _) (by
                    intro x hx hxx; simp at hxx
                    rcases hxx with e | e
                    · exact hdv x hx e
                    · exact own_apart hod2 hop2 (by decide) hx e)
                · exact (HO.out.trans hO2).trans' (hT _) (by
                    intro x hx; simp at hx
                    rcases hx with rfl | e
                    · exact .inl (by simp)
                    · exact .inr (own_lt hop2 e).1)
          case rest =>
            obtain ⟨pv1, hop3, hr3, hod3, hO3⟩ := hcut
            clear hop2 hod2 k8 k8a d3 hpv hdv hb2z hr2 hO2
            obtain ⟨gz, hgz⟩ : ∃ gz, gz = wc.heap.size := ⟨_, rfl⟩
            obtain ⟨vn, wn, hrun, hown, hOn, hnb, -⟩ := run_append_row (P := Tryd.prog) (w := wc.alloc (.cells #[.int .i32 (x1 : Int), .int .i32 (x2 : Int)] 70)) W3.heap.size 36 36 70 (.agg #[.int .i32 0, .int .i32 0]) 2 8 Tryd.underlying36 spInfo6 rfl (by omega) (own_only hod3 ((Only.refl [] wc).alloc _) (by simp)) 1 (B := gz + 1) (m := 1) (X := some ⟨gz, 0, none⟩) (ys := [.int .i32 (x1 : Int), .int .i32 (x2 : Int)]) (Rd.whole (Blk.new' _ _ _ hgz.symm rfl) rfl) (by simp [Value.oneCell']) (by simp only [maxLen]; omega) (by omega) (by have := hO3.size; simp; omega)
            have Hrun := Lib.hid hrun
            have Hgz := Lib.hid hgz
            have hOn2 : Only u6.ownBlock.toList wc wn := ((Only.refl _ wc).alloc _).trans hOn
            have hdv3 : ∀ x, u6.ownBlock = some x → x ≠ p := fun x hx => by have := (own_lt hod3 hx).1; omega
            have Hf := Lib.hid (And.intro hop3 (And.intro hr3 (And.intro hod3 (And.intro hO3 (And.intro hown hOn2)))))
            clear hrun hgz hop3 hr3 hod3 hO3 hown hOn hOn2 hnb
            go_wp2_with (at_builtin; rw [← Hgz.out]; refine wpList_append_run (o := ⟨some 68, _, _, _, _, _⟩) (by rfl) (.tmp 61) (.tmp 67) 36 36 (by rfl) (by rfl) (by rfl) Hrun.out ?_)
            go_roundw
            case rel =>
              obtain ⟨hop3, hr3, hod3, hO3, hown, hOn2⟩ := Hf.out
              refine ⟨k + 1, by go_num, by omega, ?_⟩
              rw [HS1.out, ← HWW.out]
              refine ⟨pv1, k + 1, L.map Prod.fst ++ [t.at_], L.map Prod.snd ++ [((x1 : Int), (x2 : Int))], ?_, ?_, hr3.only hOn2 (by intro hx; exact hdv3 p (by simpa using hx) rfl), hO3.trans' hOn2 (by intro x hx; exact .inr (own_lt hod3 (by simpa using hx)).1), by omega, fun _ => ⟨rfl, by simp, by simp⟩⟩
              · exact own_only hop3 hOn2 (by intro x hx hxx; exact own_apart hop3 hod3 (by decide) hx (by simpa using hxx))
              · simpa [ses, spv] using hown
            case measure => simp [intOf]; omega
    · obtain rfl : k = K := by omega
      clear hop hod hr hO hg
      go_wp2_with (fail)
      go_ret
      exact List6.of (w3 := W3) (by rw [← HK.out]; exact HL.out) HO3.out

set_option maxRecDepth 100000 in
set_option maxHeartbeats 8000000 in
theorem list6_3 (w : World) (p B : Nat) (A : Option Addr) (n c : Nat) (f : List UInt8) (hl : f.length = n) (hR : Rd w B 1 A n (bvs f)) (hBp : B ≤ p) (hn : n ≤ 140737488351232) (hnc : n ≤ c) (s : RS) (hs : s.at_ ≤ n) (P0 P1 P2 P4 P5 em : Value)
    (h : RRd w p (.slice A n c) s [P0, P1, P2, .slice none 0 0, P4, P5, em]) (hem : ∃ z, em = .int .i64 z) :
    Calls Tryd.prog 49 #[.pointer (some ⟨p, 0, none⟩), .int .i64 3] w (List6 w p (.slice A n c) f s (fun x => [P0, P1, P2, x, P4, P5, .int .i64 (s.at_ : Int)])) := by
  obtain ⟨z, rfl⟩ := hem
  have hb := h.1
  have c1 : w.cell? ⟨p, 1, none⟩ = some (.int .i64 (s.at_ : Int)) := hb.cell 1
  have c10 : w.cell? ⟨p, 10, none⟩ = some (.int .i64 z) := hb.cell 10
  have f10 : w.frozen? ⟨p, 10, none⟩ = false := hb.frozen 10
  have H := Lib.hid h
  have HR := Lib.hid hR
  have Hl := Lib.hid hl
  have hpw := h.lt
  clear hb h hR hl
  go_enter Tryd.func49, Tryd.ntmps49
  go_wp2_with (fail)
  refine name_it (p := fun y => Calls _ _ _ y _) ?_
  intro W2 H2
  have h2 : RRd W2 p (.slice A n c) s [P0, P1, P2, .slice none 0 0, P4, P5, .int .i64 (s.at_ : Int)] := by rw [H2.out]; exact H.out.put 6 _
  have hO2 : Only [p] w W2 := by rw [H2.out]; exact (Only.refl [p] w).setCell (.inl (by simp)) _
  clear H2 c1 c10 f10 H
  have hnum := number6_any W2 p B A n c f Hl.out (HR.out.only hO2 (by simp; omega)) hBp hn hnc s hs [P0, P1, P2, .slice none 0 0, P4, P5, .int .i64 (s.at_ : Int)] 512 4 (by omega) (.inl (by omega)) h2
  obtain ⟨NK, hNK⟩ : ∃ z, z = numS f 512 4 s := ⟨_, rfl⟩
  have hNb := numS_at f 512 4 s (by rw [Hl.out]; exact hs)
  rw [← hNK] at hnum hNb
  have HK := Lib.hid hNK
  refine hnum.mono ?_
  rintro e W3 ⟨rfl, h3, hO3⟩
  replace hO3 := hO2.trans hO3
  obtain ⟨K, S0⟩ := NK
  simp only at h3 hNb HK
  obtain ⟨hS0, hK⟩ := hNb
  have H3 := Lib.hid h3
  have HO3 := Lib.hid hO3
  have HR3 := Lib.hid (HR.out.only hO3 (by simp; omega))
  have hp3 : p < W3.heap.size := h3.lt
  have HS0 := Lib.hid hS0
  clear hnum hNK h2 hO2 h3 hO3 hS0
  go_wp2_with (fail)
  go_loopw [6, 7] (fun vl vi wr => ∃ k : Nat, vi = .int .i64 (k : Int) ∧ k ≤ K ∧ LRel W3 wr p (.slice A n c) (manyS (spanS f) S0 k) k (fun x => [P0, P1, P2, x, P4, P5, .int .i64 (s.at_ : Int)]) vl) (fun _ vi _ => K - (intOf vi).toNat)
  case atStart => exact ⟨0, rfl, by omega, .slice none 0 0, 0, [], [], ⟨rfl, .inl ⟨rfl, rfl⟩⟩, ⟨rfl, .inl ⟨rfl, rfl⟩⟩, H3.out, .refl _ _, by omega, fun _ => ⟨rfl, rfl, rfl⟩⟩
  case round =>
    obtain ⟨k, rfl, hk, hrelL⟩ := hrel
    have HL := Lib.hid hrelL
    obtain ⟨S, hS⟩ : ∃ S, S = manyS (spanS f) S0 k := ⟨_, rfl⟩
    have hSa : S.2.at_ ≤ n := by rw [hS, ← Hl.out]; exact (manyS_at _ _ (fun s => spanS_at f s) _ HS0.out k).1
    have hS1 : manyS (spanS f) S0 (k + 1) = (S.1 ++ [(S.2.at_, (spanS f S.2).1)], (spanS f S.2).2) := by rw [hS]; rfl
    rw [← hS] at hrelL
    have HS := Lib.hid hS
    have HS1 := Lib.hid hS1
    clear hS hS1
    obtain ⟨L, t⟩ := S
    obtain ⟨pv, m, lp, ls, hop, hod, hr, hO, hmk, hg⟩ := hrelL
    simp only at hr hg hSa
    have c3 : wr.cell? ⟨p, 3, none⟩ = some (.int .i64 ((badC t).2 : Int)) := hr.1.cell 3
    by_cases hlt : k < K
    · cases htb : t.bad with
      | some x =>
        have hg1 := hr.good (by rw [htb]; rfl)
        have hg2 : ((((badC t).2 : Nat) : Int) == 0) = false := by simp; exact hg1
        have htb2 : (manyS (spanS f) S0 k).2.bad.isSome = true := by rw [← HS.out]; simp only; rw [htb]; rfl
        have Htb := Lib.hid htb2
        clear hop hod hr hO hg htb htb2 hg1
        go_wp2_with (fail)
        go_ret
        have hfin := HL.out.stuck (by omega) Htb.out (K := K)
        exact List6.of (w3 := W3) (by rw [← HK.out]; exact hfin) HO3.out
      | none =>
        obtain ⟨hmk2, rfl, rfl⟩ := hg htb
        obtain rfl : k = m := hmk2.symm
        have e0 : badC t = (0, 0) := by unfold badC; rw [htb]; rfl
        rw [e0] at c3
        have hz0 : (((0 : Nat) : Int) == 0) = true := rfl
        have c1 : wr.cell? ⟨p, 1, none⟩ = some (.int .i64 (t.at_ : Int)) := hr.1.cell 1
        have GN := fun W (s' : RS) (hW : Only [p] wr W) (hs' : s'.at_ ≤ n) (hr' : RRd W p (.slice A n c) s' [P0, P1, P2, pv, P4, P5, .int .i64 (s.at_ : Int)]) => number6_any W p B A n c f Hl.out ((HR3.out.only hO (by simp; omega)).only hW (by simp; omega)) hBp hn hnc s' hs' [P0, P1, P2, pv, P4, P5, .int .i64 (s.at_ : Int)] 1114111 14 (by omega) (.inl (by omega)) hr'
        obtain ⟨⟨x1, t1⟩, hX1⟩ : ∃ z, z = numS f 1114111 14 t := ⟨_, rfl⟩
        have ha1 : t1.at_ ≤ n ∧ x1 ≤ 1114111 := by have := numS_at f 1114111 14 t (by rw [Hl.out]; omega); rw [← hX1, Hl.out] at this; exact this
        have G1 := GN wr t (.refl _ _) hSa hr
        rw [← hX1] at G1
        obtain ⟨⟨x2, t2⟩, hX2⟩ : ∃ z, z = numS f 1114111 14 t1 := ⟨_, rfl⟩
        have ha2 : t2.at_ ≤ n ∧ x2 ≤ 1114111 := by have := numS_at f 1114111 14 t1 (by rw [Hl.out]; omega); rw [← hX2, Hl.out] at this; exact this
        have G2 := Lib.hid (fun W (hW : Only [p] wr W) (hr' : RRd W p (.slice A n c) t1 [P0, P1, P2, pv, P4, P5, .int .i64 (s.at_ : Int)]) => GN W t1 hW ha1.1 hr')
        rw [← hX2] at G2
        have HWW := Lib.hid (show ((((x1 : Int), (x2 : Int)) : Sp), t2) = spanS f t by unfold spanS; rw [← hX1]; simp only; rw [← hX2])
        have hw1 : IntKind.i32.wrap ((x1 : Nat) : Int) = (x1 : Int) := IntWalk.i32_in _ (by omega)
        have hw2 : IntKind.i32.wrap ((x2 : Nat) : Int) = (x2 : Int) := IntWalk.i32_in _ (by omega)
        have hpv : ∀ x, pv.ownBlock = some x → x ≠ p := fun x hx => by have := (own_lt hop hx).1; omega
        have hdv : ∀ x, u6.ownBlock = some x → x ≠ p := fun x hx => by have := (own_lt hod hx).1; omega
        have G1' := Lib.hid G1
        have HO := Lib.hid hO
        have Hop := Lib.hid hop
        have Hod := Lib.hid hod
        have hbz : W3.heap.size ≤ wr.heap.size := hO.size
        clear GN hX1 hX2 hr hg htb e0 G1 hO hop hod hmk2
        go_wp2_with (fail)
        refine G1'.out.mono ?_
        rintro e w1 ⟨rfl, hr1, hO1⟩
        clear c3 c1 G1'
        go_wp2_with (fail)
        refine (G2.out w1 hO1 hr1).mono ?_
        rintro e w2 ⟨rfl, hr2, hO2⟩
        replace hO2 := hO1.trans hO2
        clear hr1 hO1 G2
        have d3 : w2.cell? ⟨p, 3, none⟩ = some (.int .i64 ((badC t2).2 : Int)) := hr2.1.cell 3
        have hop2 := own_only Hop.out hO2 (by intro x hx; simp; exact hpv x hx)
        have hod2 := own_only Hod.out hO2 (by intro x hx; simp; exact hdv x hx)
        cases htb : t2.bad with
        | some x =>
          have hg1 := hr2.good (by rw [htb]; rfl)
          have hg2 : ((((badC t2).2 : Nat) : Int) == 0) = false := by simp; exact hg1
          have Htb := Lib.hid htb
          have Hr2 := Lib.hid hr2
          have HO2 := Lib.hid hO2
          have Hop2 := Lib.hid hop2
          have Hod2 := Lib.hid hod2
          clear htb hr2 hg1 hop2 hod2 hO2
          go_wp2_with (fail)
          go_roundw
          case rel =>
            refine ⟨k + 1, by go_num, by omega, ?_⟩
            rw [HS1.out, ← HWW.out]
            exact ⟨pv, _, _, _, Hop2.out, Hod2.out, Hr2.out, HO.out.trans HO2.out, by omega, fun hb => by rw [show t2.bad = some x from Htb.out] at hb; cases hb⟩
          case measure => simp [intOf]; omega
        | none =>
          have e0 : badC t2 = (0, 0) := by unfold badC; rw [htb]; rfl
          rw [e0] at d3
          have k8 : w2.cell? ⟨p, 7, none⟩ = some pv := hr2.1.cell 7
          have k8a : ∀ o, (w2.alloc o).cell? ⟨p, 7, none⟩ = some pv := fun o => (hr2.1.alloc o).cell 7
          have hb2z : W3.heap.size ≤ w2.heap.size := Nat.le_trans hbz hO2.size
          have Htb := Lib.hid htb
          clear htb e0
          go_upto_region 11 with (fail)
          go_cut [] (fun wx => ∃ pv1, wx.ownsRow W3.heap.size 3 1 pv1 (k + 1) (nats (L.map Prod.fst ++ [t.at_])) ∧ RRd wx p (.slice A n c) t2 [P0, P1, P2, pv1, P4, P5, .int .i64 (s.at_ : Int)] ∧ wx.ownsRow W3.heap.size 70 2 u6 k (ses (L.map Prod.snd)) ∧ Only [p] W3 wx)
          case first =>
            go_region_law (first
              | (refine step_append_row (v := pv) (by rfl) (.tmp 54) (.tmp 56) 51 (by rfl) W3.heap.size 3 (.int .i64 0) 1 8 Tryd.underlying51 intInfo6 rfl (by omega) (n := k) (xs := nats (L.map Prod.fst)) (by rfl)
                   (by first | exact own_only hop2 ((Only.refl [] w2).alloc _) (by simp) | exact own_only hop2 (((Only.refl [] w2).alloc _).drew) (by simp) | exact own_only hop2 (((Only.refl [] w2).drew).alloc _) (by simp)) 1 (by rfl)
                   (by first | exact Rd.whole (Blk.new' _ _ _ rfl rfl) rfl | exact (Rd.whole (Blk.new' _ _ _ rfl rfl) rfl).drew) (by simp [Value.oneCell']) (by simp only [maxLen]; omega) (by omega) (by simp; omega) ?_
                 intro pv1 wy ho1 hO1 hn1
                 replace hO1 : Only pv.ownBlock.toList w2 wy := by first | exact ((Only.refl _ w2).alloc _).trans hO1 | exact (((Only.refl _ w2).alloc _).drew).trans hO1 | exact (((Only.refl _ w2).drew).alloc _).trans hO1
                 have hb1 := hr2.1.only hO1 (by intro hx; exact hpv p (by simpa using hx) rfl)
                 have d5 : wy.frozen? ⟨p, 7, none⟩ = false := hb1.frozen 7
                 have d4 : wy.cell? ⟨p, 7, none⟩ = some pv := hb1.cell 7
                 obtain ⟨A1, c1', rfl, -⟩ := own_slice ho1))
            all_goals
              go_wp2
              go_meet
              case rel =>
                have hT : ∀ u, Only (p :: pv.ownBlock.toList) w2 (wy.setCell ⟨p, 7, none⟩ u) := fun u => (hO1.mono (fun x hx => .inl (List.mem_cons_of_mem _ hx))).setCell (.inl (by simp)) _
                refine ⟨.slice A1 (k + 1) c1', ?_, ?_, ?_, ?_⟩
                · have := own_only ho1 ((Only.refl [p] wy).setCell (p := ⟨p, 7, none⟩) (.inl (by simp)) (.slice A1 (k + 1) c1')) (by intro x hx; have := (own_lt ho1 hx).1; simp; omega)
                  rw [nats_snoc]
                  exact this
                · exact (hr2.only hO1 (by intro hx; exact hpv p (by simpa using hx) rfl)).put 3 _
                · exact own_only hod2 (hT _) (by
                    intro x hx hxx; simp at hxx
                    rcases hxx with e | e
                    · exact hdv x hx e
                    · exact own_apart hod2 hop2 (by decide) hx e)
                · exact (HO.out.trans hO2).trans' (hT _) (by
                    intro x hx; simp at hx
                    rcases hx with rfl | e
                    · exact .inl (by simp)
                    · exact .inr (own_lt hop2 e).1)
          case rest =>
            obtain ⟨pv1, hop3, hr3, hod3, hO3⟩ := hcut
            clear hop2 hod2 k8 k8a d3 hpv hdv hb2z hr2 hO2
            obtain ⟨gz, hgz⟩ : ∃ gz, gz = wc.heap.size := ⟨_, rfl⟩
            obtain ⟨vn, wn, hrun, hown, hOn, hnb, -⟩ := run_append_row (P := Tryd.prog) (w := wc.alloc (.cells #[.int .i32 (x1 : Int), .int .i32 (x2 : Int)] 70)) W3.heap.size 36 36 70 (.agg #[.int .i32 0, .int .i32 0]) 2 8 Tryd.underlying36 spInfo6 rfl (by omega) (own_only hod3 ((Only.refl [] wc).alloc _) (by simp)) 1 (B := gz + 1) (m := 1) (X := some ⟨gz, 0, none⟩) (ys := [.int .i32 (x1 : Int), .int .i32 (x2 : Int)]) (Rd.whole (Blk.new' _ _ _ hgz.symm rfl) rfl) (by simp [Value.oneCell']) (by simp only [maxLen]; omega) (by omega) (by have := hO3.size; simp; omega)
            have Hrun := Lib.hid hrun
            have Hgz := Lib.hid hgz
            have hOn2 : Only u6.ownBlock.toList wc wn := ((Only.refl _ wc).alloc _).trans hOn
            have hdv3 : ∀ x, u6.ownBlock = some x → x ≠ p := fun x hx => by have := (own_lt hod3 hx).1; omega
            have Hf := Lib.hid (And.intro hop3 (And.intro hr3 (And.intro hod3 (And.intro hO3 (And.intro hown hOn2)))))
            clear hrun hgz hop3 hr3 hod3 hO3 hown hOn hOn2 hnb
            go_wp2_with (at_builtin; rw [← Hgz.out]; refine wpList_append_run (o := ⟨some 68, _, _, _, _, _⟩) (by rfl) (.tmp 61) (.tmp 67) 36 36 (by rfl) (by rfl) (by rfl) Hrun.out ?_)
            go_roundw
            case rel =>
              obtain ⟨hop3, hr3, hod3, hO3, hown, hOn2⟩ := Hf.out
              refine ⟨k + 1, by go_num, by omega, ?_⟩
              rw [HS1.out, ← HWW.out]
              refine ⟨pv1, k + 1, L.map Prod.fst ++ [t.at_], L.map Prod.snd ++ [((x1 : Int), (x2 : Int))], ?_, ?_, hr3.only hOn2 (by intro hx; exact hdv3 p (by simpa using hx) rfl), hO3.trans' hOn2 (by intro x hx; exact .inr (own_lt hod3 (by simpa using hx)).1), by omega, fun _ => ⟨rfl, by simp, by simp⟩⟩
              · exact own_only hop3 hOn2 (by intro x hx hxx; exact own_apart hop3 hod3 (by decide) hx (by simpa using hxx))
              · simpa [ses, spv] using hown
            case measure => simp [intOf]; omega
    · obtain rfl : k = K := by omega
      clear hop hod hr hO hg
      go_wp2_with (fail)
      go_ret
      exact List6.of (w3 := W3) (by rw [← HK.out]; exact HL.out) HO3.out
end Go.Proofs.YtgohinklnglgeaaDoor
