/- The law's list: what utf.Items hands out, gathered. -/
import Derived.Test.YteadcibbpbbehaaDoorUtfI
import Derived.RangeFuncWrites
import Derived.Maps.AppendAt
set_option linter.unusedVariables false
set_option linter.unusedSimpArgs false
namespace Go.Proofs.YteadcibbpbbehaaDoor
open Go.RowKit Go.Shelf

attribute [local go_sem] Oper.semAt_some

theorem grown_cells {W W' : World} {row : Option Nat} (hg : W.grownBy W' row) (hr : ∀ r, row = some r → ∃ o : Obj, W.heap[r]? = some o ∧ o.isCells = false) {k : Nat} {A : Array Value} {t : TypeId} {f : Nat × Nat} (h : W.heap[k]? = some (.cells A t f)) : W'.heap[k]? = some (.cells A t f) := by
  refine (hg.block k (Array.getElem?_eq_some_iff.1 h).1 (fun e => ?_)).trans h
  obtain ⟨o, ho, hc⟩ := hr k e.symm
  rw [h] at ho; cases ho; cases hc
theorem own_grown {W W' : World} {row : Option Nat} (hg : W.grownBy W' row) (hr : ∀ r, row = some r → ∃ o : Obj, W.heap[r]? = some o ∧ o.isCells = false) {base : Nat} {e : TypeId} {size : Nat} {v : Value} {n : Nat} {xs : List Value} (h : W.ownsRow base e size v n xs) : W'.ownsRow base e size v n xs := by
  refine ⟨h.1, ?_⟩
  rcases h.2 with hn | ⟨g, cap, cur, rfl, hb, hgg, rest⟩
  · exact .inl hn
  · exact .inr ⟨g, cap, cur, rfl, hb, grown_cells hg hr hgg, rest⟩

theorem eql_func_nil (f : Fn) (a b : Array Value) (w : World) : (binOp .eql 30 (.func f a b) .nilFunc).run Tryd.prog w = .ok (.bool false) w := by
  have hd : ∀ d : Nat, (Op.equalIn (d + 1) 30 (.func f a b) .nilFunc).run Tryd.prog w = .ok false w := fun d => by
    simp [Op.equalIn, run_underlying Tryd.underlying30]
  have h : (Op.equalIn (9999 + 1) 30 (.func f a b) .nilFunc).run Tryd.prog w = .ok false w := hd 9999
  have h2 : (Op.equal 30 (.func f a b) .nilFunc).run Tryd.prog w = .ok false w := h
  simp [binOp, h2]

/-- an item appended: a single item in a box stays as it is -/
theorem app_it2 (P : Program) (t e : TypeId) (ht : P.underlying t = some (.slice e)) (hinfo : (P.info? e).map (fun i => (i.zero, i.size, i.bytes)) = some (some (.agg #[.int .i64 0, .int .i64 0, .int .i32 0, .bool false]), 4, 24))
    {w : World} {base : Nat} {v : Value} {l : List It} (hown : w.ownsRow base e 4 v l.length (l.flatMap It.enc)) (hnil : l = [] → v = .slice none 0 0) (x : It) (hl : l.length + 1 ≤ 5000000)
    {v' : Value} {w' : World} (hrun : (Builtin.append_ #[t, t] t #[v, .slice (some ⟨w.heap.size, 0, none⟩) 1 1]).run P (w.alloc (.cells x.enc.toArray e)) = .ok v' w') (hO : Only v.ownBlock.toList w w') :
    ∀ (k : Nat) (cs : Array Value), w.heap[k]? = some (.cells cs e (0, 0)) → cs.size = 4 → w'.heap[k]? = w.heap[k]? := by
  intro k cs hk hcs
  have hlt := (Array.getElem?_eq_some_iff.1 hk).1
  by_cases hv : v.ownBlock = some k
  · rcases hown.2 with ⟨h1, _⟩ | ⟨g, cap, cur, h1, _, hg, hnc, hcm, hsz, _⟩
    · rw [h1] at hv; cases hv
    · rw [h1] at hv
      obtain rfl : g = k := by simpa [Value.ownBlock] using hv
      rw [hk] at hg
      injection hg with hg
      injection hg with hg _
      rw [hg] at hcs
      have hl0 : l ≠ [] := fun h => by rw [hnil h] at h1; cases h1
      have hl1 : 0 < l.length := List.length_pos_iff.2 hl0
      have hw : Only [] w (w.alloc (.cells x.enc.toArray e)) := (Only.refl _ _).alloc _
      have hx : Rd (w.alloc (.cells x.enc.toArray e)) (w.heap.size + 1) 4 (some ⟨g, 0, none⟩) l.length (l.flatMap It.enc) := by
        have h : Rd w w.heap.size 4 (some ⟨g, 0, none⟩) l.length (l.flatMap It.enc) := Rd.of_own (by rw [h1] at hown; exact hown)
        exact (h.only hw (by simp)).more (by omega)
      have hy : Rd (w.alloc (.cells x.enc.toArray e)) (w.heap.size + 1) 4 (some ⟨w.heap.size, 0, none⟩) 1 x.enc := Rd.whole (t := e) (Blk.new' _ _ _ rfl rfl) rfl
      obtain ⟨cap2, w2, hrun2, _, hO2⟩ := run_append_new (P := P) t t e (.agg #[.int .i64 0, .int .i64 0, .int .i32 0, .bool false]) 4 24 ht hinfo rfl (by omega) hx (c := cap) (by omega) (by simp) 1 hy (by omega) (by omega) (by simp only [maxLen]; omega)
      rw [h1] at hrun
      rw [hrun] at hrun2
      injection hrun2 with _ hw2
      rw [hw2]
      exact (hw.trans hO2).block g hlt (by simp)
  · exact hO.block k hlt (by simpa using hv)
theorem keeps_of_only {B : Nat} {L : List Nat} {W W' : World} (h : Only L W W') (hL : ∀ x ∈ L, ∃ A t f, W.heap[x]? = some (.cells A t f)) : KeepsFrom B W W' := by
  refine ⟨h.size, fun k o _ hk ho => (h.block k (Array.getElem?_eq_some_iff.1 hk).1 (fun hm => ?_)).trans hk⟩
  obtain ⟨A, t, f, e⟩ := hL k hm
  rw [hk] at e; cases e; cases ho

theorem itemsF_len (s : ByteArray) : ∀ (f p : Nat), (itemsF s f p).length ≤ s.size - p
  | 0, p => by simp [itemsF]
  | f + 1, p => by
    rw [itemsF]
    by_cases hp : p < s.size
    · have h1 := Lib.width_pos s p
      have := itemsF_len s f (p + (Utf8.decode s p).2)
      rw [if_pos hp, List.length_cons]
      omega
    · rw [if_neg hp]; simp
/-- the call of append by its run, inside a fence -/
theorem wpListIn_append_run {F : Fence} {n : Nat} {P : Program} {w : World} {ops : Array Oper} {rest : List Oper} {o : Oper} {a : Act} {Q : Exit → Act → World → Prop} (hg : o.guard = none) (s x : Operand) (t u : TypeId)
    (hop : o.op = Op.call { callee := Callee.builtin Builtin.append, args := #[s, x], argTypes := #[t, u] }) {v1 v2 : Value} (hs : a.eval s = v1) (hx : a.eval x = v2) {v' : Value} {w' : World}
    (hrun : (Builtin.append_ #[t, u] o.type #[v1, v2]).run P w = .ok v' w') (hK : wpListIn F n P ops Q rest (a.put o.dst v') w') : wpListIn F n P ops Q (o :: rest) a w := by
  refine wpListIn_plain hg fun K hK' => ?_
  unfold Oper.wpIn
  refine ⟨?_, ?_⟩
  · simp [Oper.about, hop, resolve, Target.leads, Sem.run_pure]
  · rw [Oper.semAt_plain F _ _ (by rw [hop]; intro c hc'; cases hc')]
    simp [execOp, hop, resolve, invoke, builtin, hs, hx, hrun, Result.andThen]
    exact hK' _ _ hK

/-- what the loop holds between two rounds -/
def LI (w : World) (bl : Nat) (pre : List It) (W : World) : Prop := ∃ v, Blk W bl 24 [v] ∧ W.ownsRow (bl + 1) 33 4 v pre.length (pre.flatMap It.enc) ∧ (pre = [] → v = .slice none 0 0) ∧ Below w.heap.size w W
theorem LI.own (w : World) (bl B : Nat) (hb : w.heap.size ≤ B) : OwnFrom B (LI w bl) := by
  rintro pre W W' row ⟨v, h1, h2, h3, h4⟩ hg hr
  exact ⟨v, grown_cells hg (fun r e => (hr r e).2) h1, own_grown hg (fun r e => (hr r e).2) h2, h3, h4.grown hg h4.size (fun k e => Nat.le_trans hb (hr k e).1)⟩

set_option maxRecDepth 100000 in
set_option maxHeartbeats 4000000 in
theorem list_any' (s : ByteArray) (hs : s.size ≤ 4500000) (w : World) (hT : Tabs w) (h2 : 2 ≤ w.heap.size) :
    Calls Tryd.prog 12 #[.string s] w fun e w' => ∃ v, e = .returned (.tuple #[v, .bool true]) ∧ w'.ownsRow w.heap.size 33 4 v (itemsU s).length ((itemsU s).flatMap It.enc) ∧ Only [] w w' := by
  refine (callsIn_wide (n := 3)).1 ?_
  refine callsIn_of_wp_marks Tryd.func12 rfl trivial ?_ rfl
  simp only [Tryd.ntmps12, List.size_toArray, List.length_cons, List.length_nil, Nat.reduceAdd, Nat.reduceSub, Array.replicate_succ, Array.replicate_zero, List.push_toArray, List.append_toArray, List.nil_append, List.cons_append]
  have hnil := eql_func_nil (.func 32) #[] #[.pointer (some ⟨w.heap.size, 0, none⟩)] (w.alloc (.cells #[.string s] 9))
  gi_wp2_with (refine ⟨trivial, ?_⟩; gi_at_call 15; refine (callsIn_wide.2 (items_any s _)).mono ?_; rintro e w' ⟨rfl, rfl⟩)
  obtain ⟨bl, hbl⟩ : ∃ b, b = w.heap.size + 1 := ⟨_, rfl⟩
  have hO0 : Only [] w ((w.alloc (.cells #[.string s] 9)).alloc (.cells #[.slice none 0 0] 24)) := ((Only.refl _ _).alloc _).alloc _
  have hb0 : Blk ((w.alloc (.cells #[.string s] 9)).alloc (.cells #[.slice none 0 0] 24)) bl 24 [.slice none 0 0] := Blk.new' _ _ _ (by simp; omega) rfl
  have hbs : Blk ((w.alloc (.cells #[.string s] 9)).alloc (.cells #[.slice none 0 0] 24)) w.heap.size 9 [.string s] := (Blk.new' _ _ _ rfl rfl).alloc _
  rw [← hbl]
  refine name_it (p := fun y => Code.wpIn _ _ _ _ _ _ y) ?_
  intro w2 H2
  have hz : w2.heap.size = bl + 1 := by rw [H2.out]; simp; omega
  rw [← H2.out] at hO0 hb0 hbs
  have hB0 : Below w.heap.size w w2 := hO0.below
  have Hbl := Lib.hid hbl
  have hbw : w.heap.size + 1 ≤ bl := by omega
  have hbw2 : w.heap.size < bl := by omega
  clear H2 hnil hbl
  refine wpIn_rangeFunc_ownH rfl (by omega) (gf := 32) (lb := #[.pointer (some ⟨w.heap.size, 0, none⟩)]) rfl trivial (enters_of Tryd.func32 (by kernel_rfl) rfl)
    (items_stops 2 (by omega) w.heap.size bl s (by omega) w2 (by omega) (by omega) (by omega) (hbs.cell 0) (hT.only hO0 (by simp) (by simp)))
    KpIt.trans (KpIt.put (by omega)) (Below.refl _ _) (fun _ => rfl) (LI w bl) (fun _ _ _ => False) (LI.own w bl _ (by omega)) (fun _ _ _ _ _ hs _ _ => hs)
    ⟨_, hb0, ⟨rfl, .inl ⟨rfl, rfl⟩⟩, fun _ => rfl, hB0⟩
    (fun x a' W => ∃ Bx, Blk W Bx 33 x.enc ∧ bl < Bx ∧ a' = { tmps := #[.string s, undef, .slice none 0 0, .bool false, .func (.func 32) #[] #[.pointer (some ⟨w.heap.size, 0, none⟩)], .pointer (some ⟨bl, 0, none⟩), .pointer (some ⟨Bx, 0, none⟩), .string s, .func (.func 32) #[] #[.pointer (some ⟨w.heap.size, 0, none⟩)], .func (.func 32) #[] #[.pointer (some ⟨w.heap.size, 0, none⟩)], .bool false, .func (.func 32) #[] #[.pointer (some ⟨w.heap.size, 0, none⟩)], .agg x.enc.toArray, undef, undef, undef, undef, undef], defers := [] })
    (fun x a' => by
      rintro _ W W' row ⟨Bx, h1, h2, h3⟩ hg hr
      exact ⟨Bx, grown_cells hg (fun r e => (hr r e).2) h1, h2, h3⟩) ?assign ?body ?done ?stop
  case assign =>
    rintro l pre ⟨xa, xn, xr, xb⟩ W K hi hK
    simp only [It.enc] at hK ⊢
    gi_wp2
    obtain ⟨v, h1, h2, h3, h4⟩ := hi
    have hsz := h1.lt
    have hOa : Only [] W (W.alloc (.cells #[.int .i64 (xa : Int), .int .i64 (xn : Int), .int .i32 (xr : Int), .bool xb] 33)) := (Only.refl _ _).alloc _
    exact hK _ _ ((KeepsOthers.alloc _ _).from _) ⟨(Below.refl _ W).alloc (by omega) _, fun k cs hk _ => hOa.block k (Array.getElem?_eq_some_iff.1 hk).1 (by simp)⟩
      ⟨v, h1.alloc _, own_only h2 hOa (by simp), h3, h4.alloc h4.size _⟩ ⟨W.heap.size, Blk.new' _ _ _ rfl rfl, hsz, rfl⟩
  case body =>
    rintro l pre ⟨xa, xn, xr, xb⟩ a' W hl ⟨r, hr⟩ ⟨v, h1, h2, h3, h4⟩ ⟨Bx, hbx, hBx, rfl⟩ hlen
    have hll := itemsF_len s s.size 0
    have hsz := h1.lt
    obtain ⟨v', w', hrun, hown', hO', hat⟩ := app_it Tryd.prog 24 33 Tryd.underlying24 (by kernel_rfl) h2 (by omega) ⟨xa, xn, xr, xb⟩ (by unfold itemsU at hlen; omega)
    have hkp := app_it2 Tryd.prog 24 33 Tryd.underlying24 (by kernel_rfl) h2 h3 ⟨xa, xn, xr, xb⟩ (by unfold itemsU at hlen; omega) hrun hO'
    have hne : bl ∉ v.ownBlock.toList := by
      intro hm
      have := (own_lt h2 (by simpa using hm)).1
      omega
    have hb' := h1.only hO' hne
    have c0 : W.cell? ⟨bl, 0, none⟩ = some v := h1.cell 0
    have e0 : W.cell? ⟨Bx, 0, none⟩ = some (.int .i64 (xa : Int)) := hbx.cell 0
    have e1 : W.cell? ⟨Bx, 1, none⟩ = some (.int .i64 (xn : Int)) := hbx.cell 1
    have e2 : W.cell? ⟨Bx, 2, none⟩ = some (.int .i32 (xr : Int)) := hbx.cell 2
    have e3 : W.cell? ⟨Bx, 3, none⟩ = some (.bool xb) := hbx.cell 3
    have k0 : w'.cell? ⟨bl, 0, none⟩ = some v := hb'.cell 0
    have f0 : w'.frozen? ⟨bl, 0, none⟩ = false := hb'.frozen 0
    have hOe : Only (bl :: v.ownBlock.toList) W w' := hO'.mono (by intro x hx; exact .inl (by simp [hx]))
    simp only [It.enc] at hrun
    have Hrun := Lib.hid hrun
    have Hown := Lib.hid hown'
    clear hrun hown' hll
    obtain ⟨A', cp, rfl, _⟩ := own_slice Hown.out
    gi_wp2_with (gi_at_builtin; refine wpListIn_append_run (o := ⟨some 16, _, _, _, _, _⟩) (by rfl) (.tmp 13) (.tmp 15) 24 24 (by rfl) (by rfl) (by rfl) Hrun.out ?_)
    have hown2 := Hown.out
    have hOs : Only (bl :: v.ownBlock.toList) W (w'.setCell ⟨bl, 0, none⟩ (.slice A' (pre.length + 1) cp)) := hOe.setCell (.inl (by simp)) _
    have hOb : Only [bl] w' (w'.setCell ⟨bl, 0, none⟩ (.slice A' (pre.length + 1) cp)) := (Only.refl _ _).setCell (.inl (by simp)) _
    have hLb : ∀ x ∈ bl :: v.ownBlock.toList, bl ≤ x := by
      intro x hx
      rcases List.mem_cons.1 hx with rfl | hx
      · omega
      · have := (own_lt h2 (by simpa using hx)).1; omega
    refine ⟨keeps_of_only hOs ?_, ⟨hOs.belowB (by omega) hLb, ?_⟩, ?_⟩
    · intro x hx
      rcases List.mem_cons.1 hx with rfl | hx
      · exact ⟨_, _, _, h1⟩
      · rcases h2.2 with ⟨e, _⟩ | ⟨g, cap, cur, e, _, hg, _⟩
        · rw [e] at hx; simp [Value.ownBlock] at hx
        · rw [e] at hx
          obtain rfl : x = g := by simpa [Value.ownBlock] using hx
          exact ⟨_, _, _, hg⟩
    · intro k cs hk hcs
      have hk1 := hkp k cs hk hcs
      have hkb : k ≠ bl := by
        rintro rfl
        have e := hk.symm.trans h1
        injection e with e; injection e with e e2
        rw [e] at hcs; cases hcs
      exact (hOb.block k (Array.getElem?_eq_some_iff.1 (hk1.trans hk)).1 (by simpa using hkb)).trans hk1
    · refine ⟨_, hb'.set 0 _, ?_, by simp, h4.trans (hOs.belowB h4.size (fun x hx => by have := hLb x hx; omega))⟩
      rw [List.length_append] at hown2 ⊢
      exact own_only hown2 hOb (by
        intro k hk hm
        have := (own_lt hown2 hk).1
        simp at hm; omega)
  case done =>
    rintro D ys W hD rfl ⟨v, h1, h2, h3, h4⟩ hK
    have c0 : W.cell? ⟨bl, 0, none⟩ = some v := h1.cell 0
    obtain ⟨A', cp, rfl, _⟩ := own_slice h2
    gi_wp2
    refine ⟨by simp, .inl ⟨_, _, rfl, run_takeDeferred hK, ?_⟩⟩
    have hg := grownBy_putObj' W D (.deferred none)
    have hOw : Only [] w (W.putObj D (.deferred none)) := Only.of_below (h4.trans (belowK_b (w := w2) (by omega) W D _ _ hD hK rfl rfl))
    exact ⟨_, results_tmp2 rfl _ _ _, _, rfl, own_grown hg (fun r e => by cases e; exact ⟨_, hK, rfl⟩) (own_base h2 (by omega)), hOw⟩
  case stop =>
    rintro D c pre W _ _ h _
    exact h.elim
theorem list_any (s : ByteArray) (hs : s.size ≤ 1048576) (w : World) (hT : Tabs w) (h2 : 2 ≤ w.heap.size) :
    Calls Tryd.prog 12 #[.string s] w fun e w' => ∃ v, e = .returned (.tuple #[v, .bool true]) ∧ w'.ownsRow w.heap.size 33 4 v (itemsU s).length ((itemsU s).flatMap It.enc) ∧ Only [] w w' :=
  list_any' s (by omega) w hT h2
end Go.Proofs.YteadcibbpbbehaaDoor
