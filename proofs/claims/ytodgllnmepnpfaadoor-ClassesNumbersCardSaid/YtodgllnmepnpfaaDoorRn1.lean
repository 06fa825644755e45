/- classes.one: the item at a place. -/
import Derived.Test.YtodgllnmepnpfaaDoorRn0
import Derived.Test.YtodgllnmepnpfaaDoorRgC
import Derived.Test.YtodgllnmepnpfaaDoorCls2
import Derived.RangeFuncWrites
import Derived.RangeFuncCalls
set_option linter.unusedVariables false
set_option linter.unusedSimpArgs false
namespace Go.Proofs.YtodgllnmepnpfaaDoor
open Go.RowKit Go.Shelf
attribute [local go_sem] Oper.semAt_some

theorem grown_cells {W W' : World} {row : Option Nat} (hg : W.grownBy W' row) (hr : ∀ r, row = some r → ∃ o : Obj, W.heap[r]? = some o ∧ o.isCells = false) {k : Nat} {A : Array Value} {t : TypeId} {f : Nat × Nat} (h : W.heap[k]? = some (.cells A t f)) : W'.heap[k]? = some (.cells A t f) := by
  refine (hg.block k (Array.getElem?_eq_some_iff.1 h).1 (fun e => ?_)).trans h
  obtain ⟨o, ho, hc⟩ := hr k e.symm
  rw [h] at ho; cases ho; cases hc
theorem keeps_of_only {B : Nat} {L : List Nat} {W W' : World} (h : Only L W W') (hL : ∀ x ∈ L, ∃ A t f, W.heap[x]? = some (.cells A t f)) : KeepsFrom B W W' := by
  refine ⟨h.size, fun k o _ hk ho => (h.block k (Array.getElem?_eq_some_iff.1 hk).1 (fun hm => ?_)).trans hk⟩
  obtain ⟨A, t, f, e⟩ := hL k hm
  rw [hk] at e; cases e; cases ho
theorem only_grown {l : List Nat} {w W W' : World} {row : Option Nat} (h : Only l w W) (hg : W.grownBy W' row) (hr : ∀ r, row = some r → w.heap.size ≤ r) : Only l w W' := h.grown hg (fun k e => .inr (hr k e))
theorem itemsU_head {t : ByteArray} (h : 0 < t.size) : ∃ l, itemsU t = itAt t 0 :: l := by
  unfold itemsU
  obtain ⟨m, hm⟩ : ∃ m, t.size = m + 1 := ⟨t.size - 1, by omega⟩
  rw [hm]
  obtain ⟨g, hg⟩ := itemsF_cons (s := t) (f := m) (p := 0) (by omega)
  exact ⟨_, hg⟩

theorem tabs_two {w : World} (h : Tabs w) : 2 ≤ w.heap.size := by
  have := World.block_lt_of_cell? w ⟨1, 2 * 0, none⟩ (h.2 0 (by omega)).1
  show 1 < _
  exact this

def I1 (w : World) (pre : List It) (W : World) : Prop := pre = [] ∧ Only [] w W
def X1 (w : World) (b4 : Nat) (c : Code) (pre : List It) (W : World) : Prop := c = .ret ∧ ∃ x, pre = [x] ∧ Blk W b4 58 x.enc ∧ Only [b4] w W
theorem I1.own (w : World) (B : Nat) (hB : w.heap.size ≤ B) : OwnFrom B (I1 w) := by
  rintro pre W W' row ⟨h1, h2⟩ hg hr
  exact ⟨h1, only_grown h2 hg (fun r e => Nat.le_trans hB (hr r e).1)⟩
theorem X1.own (w : World) (b4 : Nat) (c : Code) (B : Nat) (hB : w.heap.size ≤ B) : OwnFrom B (X1 w b4 c) := by
  rintro pre W W' row ⟨h1, x, h2, h3, h4⟩ hg hr
  exact ⟨h1, x, h2, grown_cells hg (fun r e => (hr r e).2) h3, only_grown h4 hg (fun r e => Nat.le_trans hB (hr r e).1)⟩

set_option maxRecDepth 100000 in
set_option maxHeartbeats 4000000 in
theorem one_any (s : ByteArray) (p : Nat) (hp : p < s.size) (hs : s.size ≤ 4500000) (w : World) (hT : Tabs w) :
    Calls Tryd.prog 22 #[.string s, .int .i64 (p : Int)] w fun e w' => e = .returned (.agg (itAt (s.extract p s.size) 0).enc.toArray) ∧ Only [] w w' := by
  obtain ⟨t, ht⟩ : ∃ t, t = s.extract p s.size := ⟨_, rfl⟩
  have hts : 0 < t.size := by rw [ht, ByteArray.size_extract]; omega
  have hts2 : t.size ≤ 4500000 := by rw [ht, ByteArray.size_extract]; omega
  rw [← ht]
  have Ht := Lib.hid ht
  clear ht
  refine (callsIn_wide (n := 3)).1 ?_
  refine callsIn_of_wp_marks Tryd.func22 rfl trivial ?_ rfl
  simp only [Tryd.ntmps22, List.size_toArray, List.length_cons, List.length_nil, Nat.reduceAdd, Nat.reduceSub, Array.replicate_succ, Array.replicate_zero, List.push_toArray, List.append_toArray, List.nil_append, List.cons_append]
  gi_wp2_with (fail)
  refine ⟨trivial, ?_⟩
  rw [← Ht.out]
  refine (callsIn_wide.2 (items_any t _)).mono ?_
  obtain ⟨b4, hb4⟩ : ∃ k, k = w.heap.size := ⟨_, rfl⟩
  have hz1 : (w.alloc (.cells #[.int .i64 0, .int .i64 0, .int .i32 0, .bool false] 58)).heap.size = b4 + 1 := by simp; omega
  rw [hz1, ← hb4]
  have k4 : Blk ((w.alloc (.cells #[.int .i64 0, .int .i64 0, .int .i32 0, .bool false] 58)).alloc (.cells #[.string t] 9)) b4 58 [.int .i64 0, .int .i64 0, .int .i32 0, .bool false] := (Blk.new' _ _ _ hb4.symm rfl).alloc _
  have kS : Blk ((w.alloc (.cells #[.int .i64 0, .int .i64 0, .int .i32 0, .bool false] 58)).alloc (.cells #[.string t] 9)) (b4 + 1) 9 [.string t] := Blk.new' _ _ _ hz1 rfl
  have hO : Only [] w ((w.alloc (.cells #[.int .i64 0, .int .i64 0, .int .i32 0, .bool false] 58)).alloc (.cells #[.string t] 9)) := ((Only.refl _ _).alloc _).alloc _
  have hz2 : ((w.alloc (.cells #[.int .i64 0, .int .i64 0, .int .i32 0, .bool false] 58)).alloc (.cells #[.string t] 9)).heap.size = b4 + 2 := by simp; omega
  have hwb : w.heap.size ≤ b4 := by omega
  rintro e w2 ⟨rfl, hw2⟩
  rw [← hw2] at k4 kS hO hz2
  have hT2 := hT.only hO (by simp) (by simp)
  have h2z := tabs_two hT
  clear hw2 hb4 hz1
  gi_wp2_with (fail)
  refine wpIn_rangeFunc_ownH rfl (by omega) (gf := 26) (lb := #[.pointer (some ⟨b4 + 1, 0, none⟩)]) rfl trivial (enters_of Tryd.func26 (by kernel_rfl) rfl)
    (items_stops 2 (by omega) (b4 + 1) (b4 + 2) t (by omega) w2 (by omega) (by omega) (by omega) (kS.cell 0) hT2)
    KpIt.trans (KpIt.put (by omega)) (Below.refl _ _) (fun _ => rfl) (I1 w2) (X1 w2 b4) (I1.own w2 _ (by omega)) (fun c => X1.own w2 b4 c _ (by omega))
    ⟨rfl, Only.refl _ _⟩
    (fun x a' W => ∃ Bx, Blk W Bx 58 x.enc ∧ b4 < Bx ∧ a' = { tmps := #[.string s, .int .i64 (p : Int), undef, undef, .pointer (some ⟨b4, 0, none⟩), .pointer (some ⟨Bx, 0, none⟩), .string s, .int .i64 (p : Int), .string t, .func (.func 26) #[] #[.pointer (some ⟨b4 + 1, 0, none⟩)], .agg x.enc.toArray, undef, undef], defers := [] })
    (fun x a' => by
      rintro _ W W' row ⟨Bx, h1, h2, h3⟩ hg hr
      exact ⟨Bx, grown_cells hg (fun r e => (hr r e).2) h1, h2, h3⟩) ?assign ?body ?done ?stop
  case assign =>
    rintro l pre ⟨xa, xn, xr, xb⟩ W K hi hK
    simp only [It.enc] at hK ⊢
    gi_wp2
    obtain ⟨h1, h2⟩ := hi
    have hsz := h2.size
    have hOa : Only [] W (W.alloc (.cells #[.int .i64 (xa : Int), .int .i64 (xn : Int), .int .i32 (xr : Int), .bool xb] 58)) := (Only.refl _ _).alloc _
    exact hK _ _ ((KeepsOthers.alloc _ _).from _) ⟨(Below.refl _ W).alloc (by omega) _, fun k cs hk _ => hOa.block k (Array.getElem?_eq_some_iff.1 hk).1 (by simp)⟩ ⟨h1, h2.alloc _⟩ ⟨W.heap.size, Blk.new' _ _ _ rfl rfl, by omega, rfl⟩
  case body =>
    rintro l pre ⟨xa, xn, xr, xb⟩ a' W hl ⟨r, hr⟩ ⟨h1, h2⟩ ⟨Bx, hbx, hBx, rfl⟩ hlen
    have hb4 := k4.only h2 (by simp)
    have e0 : W.cell? ⟨Bx, 0, none⟩ = some (.int .i64 (xa : Int)) := hbx.cell 0
    have e1 : W.cell? ⟨Bx, 1, none⟩ = some (.int .i64 (xn : Int)) := hbx.cell 1
    have e2 : W.cell? ⟨Bx, 2, none⟩ = some (.int .i32 (xr : Int)) := hbx.cell 2
    have e3 : W.cell? ⟨Bx, 3, none⟩ = some (.bool xb) := hbx.cell 3
    have g0 : W.cell? ⟨b4, 0, none⟩ = some (.int .i64 0) := hb4.cell 0
    have g1 : W.cell? ⟨b4, 1, none⟩ = some (.int .i64 0) := hb4.cell 1
    have g2 : W.cell? ⟨b4, 2, none⟩ = some (.int .i32 0) := hb4.cell 2
    have g3 : W.cell? ⟨b4, 3, none⟩ = some (.bool false) := hb4.cell 3
    have f0 := hb4.frozen 0
    have f1 := hb4.frozen 1
    have f2 := hb4.frozen 2
    have f3 := hb4.frozen 3
    gi_wp2_with (fail)
    have hS := (((((Only.refl [b4] W).setCell (p := ⟨b4, 0, none⟩) (.inl (by simp)) (.int .i64 (xa : Int))).setCell (p := ⟨b4, 1, none⟩) (.inl (by simp)) (.int .i64 (xn : Int))).setCell (p := ⟨b4, 2, none⟩) (.inl (by simp)) (.int .i32 (xr : Int))).setCell (p := ⟨b4, 3, none⟩) (.inl (by simp)) (.bool xb))
    refine ⟨keeps_of_only hS (by simp; exact ⟨_, _, _, _, hb4⟩), rfl, ⟨xa, xn, xr, xb⟩, by rw [h1]; rfl, (((hb4.set 0 _).set 1 _).set 2 _).set 3 _, (h2.mono (by simp)).trans hS⟩
  case done =>
    rintro D ys W hD rfl ⟨h1, h2⟩ hK
    exfalso
    obtain ⟨l, hl⟩ := itemsU_head hts
    rw [hl] at h1; cases h1
  case stop =>
    rintro D c pre W hD hpre ⟨rfl, x, rfl, hb, hOb⟩ hK
    obtain ⟨l, hl⟩ := itemsU_head hts
    rw [hl] at hpre
    obtain rfl : x = itAt t 0 := by simpa using hpre
    have hb' := hb.only (w' := W.putObj D (.deferred none)) (l := [D]) ⟨rfl, rfl, rfl, by simp [World.putObj], fun k _ hk => World.putObj_heap_other (by simpa using hk)⟩ (by simp; omega)
    gi_wp2_with (fail)
    refine ⟨by simp, .inl ⟨_, _, rfl, run_takeDeferred hK, ?_⟩⟩
    have hOx : Only [] w W := hO.trans' hOb (by simp; omega)
    have hOy : Only [] w (W.putObj D (.deferred none)) := hOx.trans' (l' := [D]) ⟨rfl, rfl, rfl, by simp [World.putObj], fun k _ hk => World.putObj_heap_other (by simpa using hk)⟩ (by simp; omega)
    refine ⟨.agg (itAt t 0).enc.toArray, ?_, rfl, hOy⟩
    rw [results_cell1 rfl]
    exact load4 hb'
end Go.Proofs.YtodgllnmepnpfaaDoor
