/- ClassesNumbers: the walk. -/
import Derived.Test.YtodgllnmepnpfaaDoorRn5
import Derived.Test.YtodgllnmepnpfaaDoorRn3
import Derived.Test.YtodgllnmepnpfaaDoorKnow2
import Derived.Maps.AppendAt
set_option linter.unusedVariables false
set_option linter.unusedSimpArgs false
namespace Go.Proofs.YtodgllnmepnpfaaDoor
open Go.RowKit
attribute [local go_sem] Oper.semAt_some

/-- the call of append by its run, inside a fence -/
theorem wpListIn_append_run {F : Fence} {n : Nat} {P : Program} {w : World} {ops : Array Oper} {rest : List Oper} {o : Oper} {a : Act} {Q : Exit → Act → World → Prop} (hg : o.guard = none) (s x : Operand) (t u : TypeId)
    (hop : o.op = Op.call { callee := Callee.builtin Builtin.append, args := #[s, x], argTypes := #[t, u] }) {v1 v2 : Value} (hs : a.eval s = v1) (hx : a.eval x = v2) {v' : Value} {w' : World}
    (hrun : (Builtin.append_ #[t, u] o.type #[v1, v2]).run P w = .ok v' w') (hK : wpListIn F n P ops Q rest (a.put o.dst v') w') : wpListIn F n P ops Q (o :: rest) a w := by
  refine wpListIn_plain hg fun K hK' => ?_
  unfold Oper.wpIn
  refine ⟨?_, ?_⟩
  · simp [Oper.about, hop, resolve, Target.leads, Sem.run_pure]
  · rw [Oper.semAt_plain F _ _ (by rw [hop]; intro c hc'; cases hc')]
    simp [execOp, hop, resolve, invoke, builtin, hs, hx, hrun, Result.andThen]
    exact hK' _ _ hK

/-- a run appended: a single run in a box stays as it is -/
theorem app_rn2 (P : Program) (t e : TypeId) (ht : P.underlying t = some (.slice e)) (hinfo : (P.info? e).map (fun i => (i.zero, i.size, i.bytes)) = some (some (.agg #[.int .i64 0, .int .i64 0, .int .i64 0, .int .i64 0]), 4, 32))
    {w : World} {base : Nat} {v : Value} {l : List RunD} (hown : w.ownsRow base e 4 v l.length (rns l)) (hnil : l = [] → v = .slice none 0 0) (x : RunD) (hl : l.length + 1 ≤ 4000000)
    {v' : Value} {w' : World} (hrun : (Builtin.append_ #[t, t] t #[v, .slice (some ⟨w.heap.size, 0, none⟩) 1 1]).run P (w.alloc (.cells x.enc.toArray e)) = .ok v' w') (hO : Only v.ownBlock.toList w w') :
    ∀ (k : Nat) (cs : Array Value), w.heap[k]? = some (.cells cs e (0, 0)) → cs.size = 4 → w'.heap[k]? = w.heap[k]? := by
  intro k cs hk hcs
  have hlt := (Array.getElem?_eq_some_iff.1 hk).1
  by_cases hv : v.ownBlock = some k
  · rcases hown.2 with ⟨h1, _⟩ | ⟨g, cap, cur, h1, _, hg, hnc, hcm, hsz, _⟩
    · rw [h1] at hv; cases hv
    · rw [h1] at hv
      obtain rfl : g = k := by simpa [Value.ownBlock] using hv
      rw [hk] at hg
      injection hg with hg
      injection hg with hg _
      rw [hg] at hcs
      have hl0 : l ≠ [] := fun h => by rw [hnil h] at h1; cases h1
      have hl1 : 0 < l.length := List.length_pos_iff.2 hl0
      have hw : Only [] w (w.alloc (.cells x.enc.toArray e)) := (Only.refl _ _).alloc _
      have hx : Rd (w.alloc (.cells x.enc.toArray e)) (w.heap.size + 1) 4 (some ⟨g, 0, none⟩) l.length (rns l) := by
        have h : Rd w w.heap.size 4 (some ⟨g, 0, none⟩) l.length (rns l) := Rd.of_own (by rw [h1] at hown; exact hown)
        exact (h.only hw (by simp)).more (by omega)
      have hy : Rd (w.alloc (.cells x.enc.toArray e)) (w.heap.size + 1) 4 (some ⟨w.heap.size, 0, none⟩) 1 x.enc := Rd.whole (t := e) (Blk.new' _ _ _ rfl rfl) rfl
      obtain ⟨cap2, w2, hrun2, _, hO2⟩ := run_append_new (P := P) t t e (.agg #[.int .i64 0, .int .i64 0, .int .i64 0, .int .i64 0]) 4 32 ht hinfo rfl (by omega) hx (c := cap) (by omega) (by simp) 1 hy (by omega) (by omega) (by simp only [maxLen]; omega)
      rw [h1] at hrun
      rw [hrun] at hrun2
      injection hrun2 with _ hw2
      rw [hw2]
      exact (hw.trans hO2).block g hlt (by simp)
  · exact hO.block k hlt (by simpa using hv)
theorem own_ownC {W W' : World} {row : Option Nat} {B q base : Nat} (hg : W.grownBy W' row) (hr : ∀ r, row = some r → B ≤ r ∧ ((∃ o : Obj, W.heap[r]? = some o ∧ o.isCells = false) ∨ r = q)) (hq : q < base) {e : TypeId} {size : Nat} {v : Value} {n : Nat} {xs : List Value} (h : W.ownsRow base e size v n xs) : W'.ownsRow base e size v n xs := by
  refine ⟨h.1, ?_⟩
  rcases h.2 with hn | ⟨g, cap, cur, rfl, hb, hgg, rest⟩
  · exact .inl hn
  · refine .inr ⟨g, cap, cur, rfl, hb, (hg.block g (Array.getElem?_eq_some_iff.1 hgg).1 (fun e => ?_)).trans hgg, rest⟩
    rcases (hr g e.symm).2 with ⟨o, ho, hc⟩ | h2
    · rw [hgg] at ho; cases ho; cases hc
    · omega
/-- what the loop holds between two rounds -/
def NI (w : World) (bl : Nat) (pre : List RunD) (W : World) : Prop := ∃ v, Blk W bl 35 [v] ∧ W.ownsRow (w.heap.size + 3) 39 4 v pre.length (rns pre) ∧ (pre = [] → v = .slice none 0 0) ∧ Only [bl] w W
theorem NI.own (w : World) (bl : Nat) (h : bl < w.heap.size) : OwnFromC w.heap.size (w.heap.size + 2) (NI w bl) := by
  rintro pre W W' row ⟨v, h1, h2, h3, h4⟩ hg hr
  exact ⟨v, blk_ownC h1 hg hr (by omega), own_ownC hg hr (by omega) h2, h3, only_ownC h4 hg hr⟩

def nmS : ByteArray := ⟨#[97, 98, 49, 32, 226, 130, 172]⟩
def nmL : List RunD := [⟨1, 0, 2, 2⟩, ⟨2, 2, 3, 1⟩, ⟨3, 3, 4, 1⟩, ⟨4, 4, 7, 1⟩]
theorem nm_runs : runsU ltr nmb spc nmS = nmL := by kernel_rfl
theorem nm_check : checkW [(48, 57)] [(48, 57)] [(32, 32)] = (16, 2, 0) := by decide

set_option maxRecDepth 100000 in
set_option maxHeartbeats 8000000 in
theorem classesNumbers_walk (w : World) (hT : Tabs w) :
    Calls Tryd.prog 3 #[] w fun e w' => e = .returned (.bool true) ∧ Only [] w w' := by
  have h2w := tabs_two hT
  refine (callsIn_wide (n := 8)).1 ?_
  refine callsIn_of_wp_marks Tryd.func3 rfl trivial ?_ rfl
  simp only [Tryd.ntmps3, List.size_toArray, List.length_cons, List.length_nil, Nat.reduceAdd, Nat.reduceSub, Array.replicate_succ, Array.replicate_zero, List.push_toArray, List.append_toArray, List.nil_append, List.cons_append]
  gi_wp2_with (fail)
  refine ⟨trivial, ?_⟩
  obtain ⟨w0, hw0⟩ : ∃ z, z = ((w.alloc (.cells #[.int .i32 48, .int .i32 57] 29)).alloc (.cells #[.int .i32 48, .int .i32 57] 29)).alloc (.cells #[.int .i32 32, .int .i32 32] 29) := ⟨_, rfl⟩
  rw [← hw0]
  have hO0 : Only [] w w0 := by rw [hw0]; exact (((Only.refl _ _).alloc _).alloc _).alloc _
  have r1 : Rd w0 w0.heap.size 2 (some ⟨w.heap.size, 0, none⟩) 1 (ses [(48, 57)]) := by rw [hw0]; exact (Rd.whole (t := 29) (((Blk.new' _ _ _ rfl rfl).alloc _).alloc _) rfl).more (by simp)
  have r2 : Rd w0 w0.heap.size 2 (some ⟨w.heap.size + 1, 0, none⟩) 1 (ses [(48, 57)]) := by rw [hw0]; exact (Rd.whole (t := 29) ((Blk.new' _ _ _ (by simp) rfl).alloc _) rfl).more (by simp)
  have r3 : Rd w0 w0.heap.size 2 (some ⟨w.heap.size + 1 + 1, 0, none⟩) 1 (ses [(32, 32)]) := by rw [hw0]; exact (Rd.whole (t := 29) (Blk.new' _ _ _ (by simp) rfl) rfl).more (by simp)
  clear hw0
  refine (callsIn_wide.2 (new_any w0 _ _ _ 1 1 1 1 1 1 [(48, 57)] [(48, 57)] [(32, 32)] rfl rfl rfl (by omega) (by omega) (by omega) _ r1 r2 r3)).mono ?_
  rintro e w1 ⟨v, rfl, hO1, hv⟩
  rw [nm_check] at hv ⊢
  rcases hv with ⟨_, _, hz, _⟩ | ⟨rfl, _⟩
  · cases hz
  clear r1 r2 r3
  have hO1w := hO0.trans hO1
  gi_upto_region 2 with (fail)
  obtain ⟨w2, hw2⟩ : ∃ z, z = w1.alloc (.cells #[.int .i64 16, .int .i64 2, .int .i64 0] 25) := ⟨_, rfl⟩
  obtain ⟨bw, hbw⟩ : ∃ z, z = w1.heap.size := ⟨_, rfl⟩
  have kw : Blk w2 bw 25 [.int .i64 16, .int .i64 2, .int .i64 0] := by rw [hw2]; exact Blk.new' _ _ _ hbw.symm rfl
  have hO2w : Only [] w w2 := by rw [hw2]; exact hO1w.alloc _
  rw [← hbw]
  try rw [← hw2]
  clear hw2 hbw hO0 hO1 hO1w
  gi_wp2_with (fail)
  refine ⟨trivial, ?_⟩
  refine (callsIn_wide.2 (table_any w2)).mono ?_
  rintro e w3 ⟨g, rfl, hO3, hTab⟩
  have kw3 := kw.only hO3 (by simp)
  have hO3w := hO2w.trans hO3
  have hz3 := hO3.size
  have d0 : w3.cell? ⟨bw, 0, none⟩ = some (.int .i64 16) := kw3.cell 0
  have d1 : w3.cell? ⟨bw, 1, none⟩ = some (.int .i64 2) := kw3.cell 1
  have d2 : w3.cell? ⟨bw, 2, none⟩ = some (.int .i64 0) := kw3.cell 2
  clear kw hO2w
  gi_wp2_with (fail)
  refine ⟨trivial, ?_⟩
  clear d0 d1 d2 kw3
  obtain ⟨S, hS⟩ : ∃ z, z = nmS := ⟨_, rfl⟩
  rw [show (ByteArray.mk #[97, 98, 49, 32, 226, 130, 172]) = S from hS.symm]
  have hSz : S.size = 7 := by rw [hS]; rfl
  have HS := Lib.hid hS
  clear hS
  refine (callsIn_wide.2 (runs_any S g w3)).mono ?_
  obtain ⟨bq, hbq⟩ : ∃ k, k = w3.heap.size := ⟨_, rfl⟩
  rw [← hbq]
  have kq : Blk ((w3.alloc (.cells #[.pointer (some ⟨g, 0, none⟩)] 22)).alloc (.cells #[.string S] 9)) bq 22 [.pointer (some ⟨g, 0, none⟩)] := (Blk.new' _ _ _ hbq.symm rfl).alloc _
  have kr : Blk ((w3.alloc (.cells #[.pointer (some ⟨g, 0, none⟩)] 22)).alloc (.cells #[.string S] 9)) (bq + 1) 9 [.string S] := Blk.new' _ _ _ (by simp; omega) rfl
  have hO34 : Only [] w3 ((w3.alloc (.cells #[.pointer (some ⟨g, 0, none⟩)] 22)).alloc (.cells #[.string S] 9)) := ((Only.refl _ _).alloc _).alloc _
  have hz4 : ((w3.alloc (.cells #[.pointer (some ⟨g, 0, none⟩)] 22)).alloc (.cells #[.string S] 9)).heap.size = bq + 2 := by simp; omega
  rintro e w4 ⟨rfl, hw4⟩
  rw [← hw4] at kq kr hO34 hz4
  have hsn := eql_seq_nil (.func 21) #[] #[.pointer (some ⟨bq + 1, 0, none⟩), .pointer (some ⟨bq, 0, none⟩)] w4
  have hO4w := hO3w.trans hO34
  have hTt4 := hT.only hO4w (by simp) (by simp)
  have hrs := runs_stops 7 (by omega) (bq + 1) bq w4.heap.size S (by omega) w4 w2.heap.size g ltr nmb spc (hTab.only hO34 (by simp)) (by omega) rfl (kr.cell 0) (kq.cell 0) hTt4
  rw [HS.out, nm_runs] at hrs
  have Hrs := Lib.hid hrs
  have Hz4 := Lib.hid hz4
  have HO4w := Lib.hid hO4w
  clear hw4 hbq hO3w hO34 hrs hz4 hTt4 kq kr hTab hO3 hO4w
  gi_wp2_with (fail)
  obtain ⟨bl, hbl⟩ : ∃ z, z = w4.heap.size := ⟨_, rfl⟩
  rw [← hbl]
  obtain ⟨w5, hw5⟩ : ∃ z, z = w4.alloc (.cells #[.slice none 0 0] 35) := ⟨_, rfl⟩
  rw [← hw5]
  have kl : Blk w5 bl 35 [.slice none 0 0] := by rw [hw5]; exact Blk.new' _ _ _ hbl.symm rfl
  have hO45 : Only [] w4 w5 := by rw [hw5]; exact (Only.refl _ _).alloc _
  have hz5 : w5.heap.size = bl + 1 := by rw [hw5]; simp; omega
  have Hz5 := Lib.hid hz5
  have HO45 := Lib.hid hO45
  have Hbl := Lib.hid hbl
  clear hw5 hbl hO45 hz5 hsn
  refine wpIn_rangeFunc_ownC rfl (by omega) (gf := 21) (lb := #[.pointer (some ⟨bq + 1, 0, none⟩), .pointer (some ⟨bq, 0, none⟩)]) rfl trivial (enters_of Tryd.func21 (by kernel_rfl) rfl)
    Hrs.out KpRn.trans (KpRn.put (by have := Hz5.out; have := Hbl.out; omega)) (HO45.out.belowB (Nat.le_refl _) (by simp)) (fun _ => rfl) (NI w5 bl) (fun _ _ _ => False) (NI.own w5 bl kl.lt) (fun c => fun _ _ _ _ h => h.elim)
    ⟨_, kl, ⟨rfl, .inl ⟨rfl, rfl⟩⟩, fun _ => rfl, Only.refl _ _⟩
    (fun x a' W => ∃ Bx, Blk W Bx 39 x.enc ∧ bl < Bx ∧ a' = { tmps := #[.bool false, .pointer none, .pointer (some ⟨bw, 0, none⟩), .pointer (some ⟨g, 0, none⟩), .func (.func 21) #[] #[.pointer (some ⟨bq + 1, 0, none⟩), .pointer (some ⟨bq, 0, none⟩)], .pointer (some ⟨bl, 0, none⟩), .pointer (some ⟨Bx, 0, none⟩), .tuple #[.pointer none, .agg #[.int .i64 16, .int .i64 2, .int .i64 0]], .agg #[.int .i32 48, .int .i32 57], .slice (some ⟨w.heap.size, 0, none⟩) 1 1, .agg #[.int .i32 48, .int .i32 57], .slice (some ⟨w.heap.size + 1, 0, none⟩) 1 1, .agg #[.int .i32 32, .int .i32 32], .slice (some ⟨w.heap.size + 1 + 1, 0, none⟩) 1 1, .tuple #[.pointer none, .agg #[.int .i64 16, .int .i64 2, .int .i64 0]], .pointer none, .agg #[.int .i64 16, .int .i64 2, .int .i64 0], .pointer (some ⟨g, 0, none⟩), .pointer (some ⟨g, 0, none⟩), .bool false, .bool false, .bool false, .bool false, .bool false, .bool false, .bool false, .bool false, .agg #[.int .i64 16, .int .i64 2, .int .i64 0], .agg #[.int .i64 16, .int .i64 2, .int .i64 0], .bool false, .bool false, .pointer (some ⟨g, 0, none⟩), .func (.func 21) #[] #[.pointer (some ⟨bq + 1, 0, none⟩), .pointer (some ⟨bq, 0, none⟩)], .func (.func 21) #[] #[.pointer (some ⟨bq + 1, 0, none⟩), .pointer (some ⟨bq, 0, none⟩)], .bool false, .func (.func 21) #[] #[.pointer (some ⟨bq + 1, 0, none⟩), .pointer (some ⟨bq, 0, none⟩)], .agg x.enc.toArray, undef, undef, undef, undef, undef, undef, undef, undef, undef, undef, undef, undef, undef, undef, undef, undef, undef, undef, undef, undef, undef, undef, undef, undef, undef, undef], defers := [] })
    (fun x a' => by
      rintro _ W W' row ⟨Bx, h1, h2, h3⟩ hg hr
      exact ⟨Bx, grown_cells hg (fun r e => (hr r e).2) h1, h2, h3⟩) ?assign ?body ?done ?stop
  case assign =>
    rintro l pre ⟨xk, xf, xt, xn⟩ W K hsz hsp hi hK
    simp only [RunD.enc] at hK ⊢
    gi_wp2
    obtain ⟨v, h1, h2, h3, h4⟩ := hi
    have hlt := h1.lt
    have hz := h4.size
    have hOa : Only [] W (W.alloc (.cells #[.int .i64 (xk : Int), .int .i64 (xf : Int), .int .i64 (xt : Int), .int .i64 (xn : Int)] 39)) := (Only.refl _ _).alloc _
    have hz5 := Hz5.out
    have hbl := Hbl.out
    exact hK _ _ ((KeepsOthers.alloc _ _).from _) (KpRn.only hOa (by omega) (by simp) (by simp)) ⟨v, h1.alloc _, own_only h2 hOa (by simp), h3, h4.alloc _⟩ (by simp; omega) ⟨W.heap.size, Blk.new' _ _ _ rfl rfl, hlt, rfl⟩
  case stop =>
    rintro D c pre W _ _ h _
    exact h.elim
  case body =>
    rintro l pre ⟨xk, xf, xt, xn⟩ a' W hl ⟨r, hr⟩ hszz ⟨v, h1, h2, h3, h4⟩ ⟨Bx, hbx, hBx, rfl⟩ hlen hspx
    replace hlen : pre.length < 4 := hlen
    have hz5 := Hz5.out
    have hbl := Hbl.out
    have hsz := h1.lt
    have hOa : Only [] W (W.alloc (.cells (RunD.enc ⟨xk, xf, xt, xn⟩).toArray 39)) := (Only.refl _ _).alloc _
    obtain ⟨v', w', hrun, hown', hO', -, hnv⟩ := run_append_row (P := Tryd.prog) (w := W.alloc (.cells (RunD.enc ⟨xk, xf, xt, xn⟩).toArray 39)) (w5.heap.size + 3) 35 35 39 (.agg #[.int .i64 0, .int .i64 0, .int .i64 0, .int .i64 0]) 4 32 Tryd.underlying35 (by kernel_rfl) rfl (by omega) (own_only h2 hOa (by simp)) 1 (Rd.whole (Blk.new' _ _ _ rfl rfl) rfl) (by simp [Value.oneCell', RunD.enc]) (by simp only [maxLen]; omega) (by omega) (by simp; omega)
    have hOW' : Only v.ownBlock.toList W w' := (hOa.mono (by simp)).trans hO'
    have hkp := app_rn2 Tryd.prog 35 39 Tryd.underlying35 (by kernel_rfl) h2 h3 ⟨xk, xf, xt, xn⟩ (by omega) hrun hOW'
    have hne : bl ∉ v.ownBlock.toList := by
      intro hm
      have := (own_lt h2 (by simpa using hm)).1
      omega
    have hb' := h1.only hOW' hne
    have c0 : W.cell? ⟨bl, 0, none⟩ = some v := h1.cell 0
    have e0 : W.cell? ⟨Bx, 0, none⟩ = some (.int .i64 (xk : Int)) := hbx.cell 0
    have e1 : W.cell? ⟨Bx, 1, none⟩ = some (.int .i64 (xf : Int)) := hbx.cell 1
    have e2 : W.cell? ⟨Bx, 2, none⟩ = some (.int .i64 (xt : Int)) := hbx.cell 2
    have e3 : W.cell? ⟨Bx, 3, none⟩ = some (.int .i64 (xn : Int)) := hbx.cell 3
    have k0 : w'.cell? ⟨bl, 0, none⟩ = some v := hb'.cell 0
    have f0 : w'.frozen? ⟨bl, 0, none⟩ = false := hb'.frozen 0
    have hOe : Only (bl :: v.ownBlock.toList) W w' := hOW'.mono (by intro x hx; exact .inl (by simp [hx]))
    simp only [RunD.enc] at hrun
    have Hrun := Lib.hid hrun
    have Hown := Lib.hid hown'
    have Hbl2 := Lib.hid hbl
    have Hz52 := Lib.hid hz5
    clear hrun hown' hnv hbl hz5 hspx
    obtain ⟨A', cp, rfl, _⟩ := own_slice Hown.out
    obtain ⟨A0, cp0, rfl, _⟩ := own_slice h2
    gi_wp2_with (gi_at_builtin; refine wpListIn_append_run (o := ⟨some 40, _, _, _, _, _⟩) (by rfl) (.tmp 37) (.tmp 39) 35 35 (by rfl) (by rfl) (by rfl) Hrun.out ?_)
    have hz5 := Hz52.out
    have hbl := Hbl2.out
    have hown2 := Hown.out
    have hOs : Only (bl :: (Value.slice A0 pre.length cp0).ownBlock.toList) W (w'.setCell ⟨bl, 0, none⟩ (.slice A' (pre.length + 1) cp)) := hOe.setCell (.inl (by simp)) _
    have hOb : Only [bl] w' (w'.setCell ⟨bl, 0, none⟩ (.slice A' (pre.length + 1) cp)) := (Only.refl _ _).setCell (.inl (by simp)) _
    have hLb : ∀ x ∈ bl :: (Value.slice A0 pre.length cp0).ownBlock.toList, bl ≤ x := by
      intro x hx
      rcases List.mem_cons.1 hx with rfl | hx
      · omega
      · have := (own_lt h2 (by simpa using hx)).1; omega
    have hLc : ∀ x ∈ bl :: (Value.slice A0 pre.length cp0).ownBlock.toList, ∃ A t f, W.heap[x]? = some (.cells A t f) := by
      intro x hx
      rcases List.mem_cons.1 hx with rfl | hx
      · exact ⟨_, _, _, h1⟩
      · rcases h2.2 with ⟨e, _⟩ | ⟨g, cap, cur, e, _, hg, _⟩
        · rw [e] at hx; simp [Value.ownBlock] at hx
        · rw [e] at hx
          obtain rfl : x = g := by simpa [Value.ownBlock] using hx
          exact ⟨_, _, _, hg⟩
    refine ⟨keeps_of_only hOs hLc, ⟨hOs.belowB (by omega) (fun x hx => by have := hLb x hx; omega), ?_, ?_⟩, ?_⟩
    · intro k cs hk hcs
      have hk1 := hkp k cs hk hcs
      have hkb : k ≠ bl := by
        rintro rfl
        have e := hk.symm.trans h1
        injection e with e; injection e with e e2
        rw [e] at hcs; cases hcs
      exact (hOb.block k (Array.getElem?_eq_some_iff.1 (hk1.trans hk)).1 (by simpa using hkb)).trans hk1
    · intro k s p hk
      refine hOs.block k (Array.getElem?_eq_some_iff.1 hk).1 (fun hm => ?_)
      obtain ⟨A, t, f, e⟩ := hLc k hm
      rw [hk] at e; cases e
    · have e2 : rns (pre ++ [(⟨xk, xf, xt, xn⟩ : RunD)]) = rns pre ++ RunD.enc ⟨xk, xf, xt, xn⟩ := by unfold rns; simp
      refine ⟨_, hb'.set 0 _, ?_, by simp, ?_⟩
      · rw [List.length_append, e2]
        exact own_only hown2 hOb (by
          intro k hk hm
          have := (own_lt hown2 hk).1
          simp at hm; omega)
      · refine ((h4.mono (fun x hx => .inl (by rw [List.mem_singleton.1 hx]; exact List.mem_cons_self ..))).trans hOs).mono (fun x hx => ?_)
        rcases List.mem_cons.1 hx with rfl | hx
        · exact .inl (by simp)
        · have := (own_lt h2 (by simpa using hx)).1
          exact .inr (by omega)
  case done =>
    rintro D ys W hD rfl ⟨v, h1, h2, h3, h4⟩ hK
    obtain ⟨g', cap, sp, rfl, hbg, -, -, hncap, hcapm⟩ := own_shape h2 (by decide)
    have hz5 := Hz5.out
    have hbl := Hbl.out
    replace h2 : W.ownsRow (w5.heap.size + 3) 39 4 (.slice (some ⟨g', 0, none⟩) 4 cap) 4 (rns nmL) := h2
    replace h1 : Blk W bl 35 [.slice (some ⟨g', 0, none⟩) 4 cap] := h1
    have c0 : W.cell? ⟨bl, 0, none⟩ = some (.slice (some ⟨g', 0, none⟩) 4 cap) := h1.cell 0
    have a0 : W.cell? ⟨g', 0, none⟩ = some (.int .i64 1) := (own_cell h2 (by omega) (j := 0) rfl).1
    have a1 : W.cell? ⟨g', 1, none⟩ = some (.int .i64 0) := (own_cell h2 (by omega) (j := 1) rfl).1
    have a2 : W.cell? ⟨g', 2, none⟩ = some (.int .i64 2) := (own_cell h2 (by omega) (j := 2) rfl).1
    have a3 : W.cell? ⟨g', 3, none⟩ = some (.int .i64 2) := (own_cell h2 (by omega) (j := 3) rfl).1
    have a12 : W.cell? ⟨g', 12, none⟩ = some (.int .i64 4) := (own_cell h2 (by omega) (j := 12) rfl).1
    have a13 : W.cell? ⟨g', 13, none⟩ = some (.int .i64 4) := (own_cell h2 (by omega) (j := 13) rfl).1
    have a14 : W.cell? ⟨g', 14, none⟩ = some (.int .i64 7) := (own_cell h2 (by omega) (j := 14) rfl).1
    have a15 : W.cell? ⟨g', 15, none⟩ = some (.int .i64 1) := (own_cell h2 (by omega) (j := 15) rfl).1
    have Hz52 := Lib.hid hz5
    have Hbl2 := Lib.hid hbl
    clear hz5 hbl h1 h2
    gi_wp2_with (fail)
    refine ⟨trivial, ?_⟩
    refine (callsIn_wide.2 (known_any W)).mono ?_
    rintro e W2 ⟨rfl, hO2⟩
    have hK2 := (hO2.block D (Array.getElem?_eq_some_iff.1 hK).1 (by simp)).trans hK
    have hOw := HO4w.out
    have hz4 := hOw.size
    have hz5 := Hz52.out
    have hbl := Hbl2.out
    have hOx : Only [] w W2 := ((hOw.trans HO45.out).trans' h4 (by simp; omega)).trans hO2
    have hwD : w.heap.size ≤ D := by omega
    have HbX := Lib.hid hbl
    clear hO2 hK c0 a0 a1 a2 a3 a12 a13 a14 a15 hbl
    gi_wp2_with (fail)
    refine ⟨by simp, .inl ⟨_, _, rfl, run_takeDeferred hK2, ?_⟩⟩
    have hOz : Only [] w (W2.putObj D (.deferred none)) := hOx.trans' (l' := [D]) ⟨rfl, rfl, rfl, by simp [World.putObj], fun k _ hk => World.putObj_heap_other (by simpa using hk)⟩ (by simpa using hwD)
    exact ⟨.bool true, by simp [results, Tryd.results3, go_sem], rfl, hOz⟩
end Go.Proofs.YtodgllnmepnpfaaDoor
