/- Several texts in one: Rows of the call's own that may begin within their block; a book of lists: over any program.; A book of lists: over any program. -/
import Derived.Test.YtgohinklnglgeaaDoorApStepK
import Derived.Test.YtgohinklnglgeaaDoorPk1
import Derived.ArgAppend
set_option linter.unusedVariables false
set_option linter.unusedSimpArgs false
namespace Go.Proofs.YtgohinklnglgeaaDoor
open Go.RowKit

/-- a slice whose places (one cell each), its spare room too, lie in a block of the call's own -/
def OwnS (w : World) (base : Nat) (e : TypeId) (v : Value) (xs : List Value) : Prop :=
  (v = .slice none 0 0 ∧ xs = []) ∨ ∃ g o cap cs, v = .slice (some ⟨g, o, none⟩) xs.length cap ∧ base ≤ g ∧ Blk w g e cs ∧ o + cap ≤ cs.length ∧ xs.length ≤ cap ∧ cap ≤ maxLen ∧ (cs.drop o).take xs.length = xs

theorem OwnS.nil (w : World) (base : Nat) (e : TypeId) : OwnS w base e (.slice none 0 0) [] := .inl ⟨rfl, rfl⟩
theorem OwnS.of_own {w : World} {base : Nat} {e : TypeId} {v : Value} {n : Nat} {xs : List Value} (h : w.ownsRow base e 1 v n xs) : OwnS w base e v xs := by
  have hl : xs.length = n := by have := h.1; omega
  rcases h.2 with ⟨hv, h0⟩ | ⟨g, cap, cur, hv, hb, hg, hnc, hcm, hcs, htake⟩
  · subst h0
    exact .inl ⟨hv, List.eq_nil_of_length_eq_zero hl⟩
  · refine .inr ⟨g, 0, cap, cur.toList, by rw [hl]; exact hv, hb, Blk.mk' hg rfl, by rw [Array.length_toList, hcs]; omega, by omega, hcm, ?_⟩
    rw [List.drop_zero, hl]
    rwa [Nat.mul_one] at htake
theorem OwnS.only {w w' : World} {base : Nat} {e : TypeId} {v : Value} {xs : List Value} (h : OwnS w base e v xs) {l : List Nat} (ho : Only l w w') (hl : ∀ k, v.ownBlock = some k → k ∉ l) : OwnS w' base e v xs := by
  rcases h with h | ⟨g, o, cap, cs, rfl, hb, hg, r⟩
  · exact .inl h
  · exact .inr ⟨g, o, cap, cs, rfl, hb, hg.only ho (hl g rfl), r⟩
theorem OwnS.lt {w : World} {base : Nat} {e : TypeId} {v : Value} {xs : List Value} (h : OwnS w base e v xs) {k : Nat} (hk : v.ownBlock = some k) : base ≤ k ∧ k < w.heap.size := by
  rcases h with ⟨rfl, _⟩ | ⟨g, o, cap, cs, rfl, hb, hg, _⟩
  · simp [Value.ownBlock] at hk
  · simp [Value.ownBlock] at hk; subst hk; exact ⟨hb, hg.lt⟩
theorem OwnS.form {w : World} {base : Nat} {e : TypeId} {v : Value} {xs : List Value} (h : OwnS w base e v xs) : ∃ A c, v = .slice A xs.length c ∧ xs.length ≤ c ∧ Rd w w.heap.size 1 A xs.length xs ∧ ∀ ad, A = some ad → v.ownBlock = some ad.block := by
  rcases h with ⟨rfl, rfl⟩ | ⟨g, o, cap, cs, rfl, hb, hg, hoc, hnc, hcm, ht⟩
  · exact ⟨none, 0, rfl, by simp, Rd.zero _ _ _ _, by simp⟩
  · refine ⟨_, cap, rfl, hnc, ?_, by intro ad e; injection e with e; subst e; rfl⟩
    have := Rd.of_blk (n := xs.length) (size := 1) hg hg.lt (o := o) (by omega)
    rwa [Nat.mul_one, ht] at this

/-- one element more: in place, or in a new block -/
theorem run_append_own1 {P : Program} {w : World} (base t ty e : Nat) (z : Value) (bytes : Nat) (ht : P.underlying t = some (.slice e)) (hinfo : (P.info? e).map (fun i => (i.zero, i.size, i.bytes)) = some (some z, 1, bytes))
    (hzs : z.cells.size = 1) {v : Value} {xs : List Value} (h : OwnS w base e v xs) {B : Nat} {X : Option Addr} (c : Nat) {u : Value} (hy : Rd w B 1 X 1 [u]) (h1 : u.oneCell' = true)
    (h63 : xs.length + 1 ≤ maxLen) (hbytes : (xs.length + 1) * bytes ≤ 140737488355328) (hbase : base ≤ w.heap.size) :
    ∃ v' w', (Builtin.append_ #[t, t] ty #[v, .slice X 1 c]).run P w = .ok v' w' ∧ OwnS w' base e v' (xs ++ [u]) ∧ Only v.ownBlock.toList w w' ∧ (v'.ownBlock = v.ownBlock ∨ v'.ownBlock = some w.heap.size) := by
  have hu1 : ∀ x ∈ [u], x.oneCell' = true := by intro x hx; simp at hx; subst hx; exact h1
  rcases h with ⟨rfl, rfl⟩ | ⟨g, o, cap, cs, rfl, hb, hg, hoc, hnc, hcm, htk⟩
  · obtain ⟨v', w', g1, g2, g3, g4, _⟩ := run_append_row (P := P) (w := w) base t ty e z 1 bytes ht hinfo hzs (by omega) (v := .slice none 0 0) (n := 0) (xs := []) ⟨rfl, .inl ⟨rfl, rfl⟩⟩ c hy hu1 (by simpa using h63) (by simpa using hbytes) hbase
    exact ⟨v', w', g1, OwnS.of_own g2, g3, g4⟩
  · have hx : Rd w w.heap.size 1 (some ⟨g, o, none⟩) xs.length xs := by
      have := Rd.of_blk (n := xs.length) (size := 1) hg hg.lt (o := o) (by omega)
      rwa [Nat.mul_one, htk] at this
    by_cases hroom : xs.length + 1 ≤ cap
    · obtain ⟨i, hi, hz, hs, hb'⟩ := info_parts hinfo
      obtain ⟨ad, rfl, _, _, _, hcy⟩ := hy.2 (by omega)
      have hlt : o + xs.length < cs.length := by omega
      have hr := run_append_room_cells (P := P) w t ty e i ht hi g o xs.length cap ad 1 c [u] (by rw [hs]; rfl) hcy hu1 hroom
        (by intro j hj; simp at hj; subst hj; rw [hs, Nat.mul_one, Nat.add_zero, hg.cell]; simp [hlt])
        (by intro j hj; exact hg.frozen _)
      refine ⟨_, _, hr, ?_, ?_, .inl rfl⟩
      · rw [hs, Nat.mul_one]
        refine .inr ⟨g, o, cap, cs.set (o + xs.length) u, by simp, hb, hg.set _ _, by simpa using hoc, by simpa using hroom, hcm, ?_⟩
        rw [List.length_append, List.drop_set, if_neg (by omega), show o + xs.length - o = xs.length by omega]
        show ((cs.drop o).set xs.length u).take (xs.length + 1) = xs ++ [u]
        rw [List.take_add_one, List.take_set_of_le (by omega), htk, List.getElem?_set_self (by rw [List.length_drop]; omega)]
        rfl
      · rw [hs, Nat.mul_one]
        exact (Only.refl _ w).setCell (.inl (by simp [Value.ownBlock])) u
    · obtain ⟨cap', w', g1, g2, g3⟩ := run_append_new (P := P) (w := w) t ty e z 1 bytes ht hinfo hzs (by omega) hx (c := cap) (m := 1) (by omega) (by simp) c hy (by omega) hbytes h63
      exact ⟨_, w', g1, OwnS.of_own (own_base g2 hbase), g3.mono (by simp), .inr rfl⟩

/-- the same at a plain region's list, and at a step of a region that draws its order -/
theorem wpList_append_own1 {P : Program} {w : World} {ops : Array Oper} {rest : List Oper} {o : Oper} {a : Act} {Q : Exit → Act → World → Prop} (hgd : o.guard = none) (s x : Operand) (t : TypeId)
    (ho : o.op = .call { callee := .builtin .append, args := #[s, x], argTypes := #[t, t] }) (base e : Nat) (z : Value) (bytes : Nat) (ht : P.underlying t = some (.slice e)) (hinfo : (P.info? e).map (fun i => (i.zero, i.size, i.bytes)) = some (some z, 1, bytes))
    (hzs : z.cells.size = 1) {v : Value} {xs : List Value} (hs : a.eval s = v) (h : OwnS w base e v xs) {B : Nat} {X : Option Addr} (c : Nat) {u : Value} (hx : a.eval x = .slice X 1 c) (hy : Rd w B 1 X 1 [u]) (h1 : u.oneCell' = true)
    (h63 : xs.length + 1 ≤ maxLen) (hbytes : (xs.length + 1) * bytes ≤ 140737488355328) (hbase : base ≤ w.heap.size)
    (hk : ∀ v' w', OwnS w' base e v' (xs ++ [u]) → Only v.ownBlock.toList w w' → (v'.ownBlock = v.ownBlock ∨ v'.ownBlock = some w.heap.size) → wpList P ops Q rest (a.put o.dst v') w') : wpList P ops Q (o :: rest) a w := by
  obtain ⟨v', w', hr, g1, g2, g3⟩ := run_append_own1 (P := P) (w := w) base t o.type e z bytes ht hinfo hzs h c hy h1 h63 hbytes hbase
  exact wpList_append_run hgd s x t t ho hs hx hr (hk v' w' g1 g2 g3)
theorem step_append_own1 {P : Program} {w : World} {ops : Array Oper} {o : Oper} {a : Act} {K : Act → World → Prop} {Q : Exit → Act → World → Prop} {E : Prop} (hgd : o.guard = none) (s x : Operand) (t : TypeId)
    (ho : o.op = .call { callee := .builtin .append, args := #[s, x], argTypes := #[t, t] }) (base e : Nat) (z : Value) (bytes : Nat) (ht : P.underlying t = some (.slice e)) (hinfo : (P.info? e).map (fun i => (i.zero, i.size, i.bytes)) = some (some z, 1, bytes))
    (hzs : z.cells.size = 1) {v : Value} {xs : List Value} (hs : a.eval s = v) (h : OwnS w base e v xs) {B : Nat} {X : Option Addr} (c : Nat) {u : Value} (hx : a.eval x = .slice X 1 c) (hy : Rd w B 1 X 1 [u]) (h1 : u.oneCell' = true)
    (h63 : xs.length + 1 ≤ maxLen) (hbytes : (xs.length + 1) * bytes ≤ 140737488355328) (hbase : base ≤ w.heap.size)
    (hk : ∀ v' w', OwnS w' base e v' (xs ++ [u]) → Only v.ownBlock.toList w w' → (v'.ownBlock = v.ownBlock ∨ v'.ownBlock = some w.heap.size) → K (a.put o.dst v') w') :
    if Region.wanted o (yielded ops a.tmps) = true then Oper.wp P o a w K Q else E := by
  have hw : Region.wanted o (yielded ops a.tmps) = true := by simp [Region.wanted, hgd]
  rw [if_pos hw]
  obtain ⟨v', w', hr, g1, g2, g3⟩ := run_append_own1 (P := P) (w := w) base t o.type e z bytes ht hinfo hzs h c hy h1 h63 hbytes hbase
  exact wp_append_run s x t t ho hs hx hr (hk v' w' g1 g2 g3)

/-- 's[i]', and in which block -/
theorem OwnS.index {P : Program} {w : World} {base t e : Nat} {v : Value} {xs : List Value} (ht : P.underlying t = some (.slice e)) (hsz : (P.info? e).map (·.size) = some 1) (h : OwnS w base e v xs) {i : Nat} (hi : i < xs.length) :
    ∃ g o, v.ownBlock = some g ∧ (∀ (q : IntKind) (W : World), (Instr.indexAt t v (.int q (i : Int))).run P W = .ok (.pointer (some ⟨g, o, none⟩)) W) ∧ w.cell? ⟨g, o, none⟩ = xs[i]? := by
  rcases h with ⟨_, rfl⟩ | ⟨g, o, cap, cs, rfl, hb, hg, hoc, hnc, hcm, htk⟩
  · simp at hi
  · refine ⟨g, o + i, rfl, fun q W => ?_, ?_⟩
    · cases hin : P.info? e with
      | none => simp [hin] at hsz
      | some j =>
        have hs : j.size = 1 := by simpa [hin] using hsz
        simp [Instr.indexAt, run_underlying ht, asIntOf, sizeOf, typeInfo, hin, hs, hi, add_lit]
    · rw [hg.cell, ← htk, List.getElem?_take, if_pos hi, List.getElem?_drop]

/-- 's[1:]' -/
theorem OwnS.tail {P : Program} {w : World} {base t e : Nat} {v u : Value} {xs : List Value} (ht : P.underlying t = some (.slice e)) (hsz : (P.info? e).map (·.size) = some 1) (h : OwnS w base e v (u :: xs)) :
    ∃ v', (∀ (q : IntKind) (W : World), (Instr.slice t v (some (.int q 1)) none none).run P W = .ok v' W) ∧ OwnS w base e v' xs ∧ v'.ownBlock = v.ownBlock := by
  rcases h with ⟨_, h0⟩ | ⟨g, o, cap, cs, rfl, hb, hg, hoc, hnc, hcm, htk⟩
  · cases h0
  · cases hi : P.info? e with
    | none => simp [hi] at hsz
    | some i =>
      have hs : i.size = 1 := by simpa [hi] using hsz
      have hn : xs.length + 1 ≤ cap := by simpa using hnc
      have hxs : (cs.drop (o + 1)).take xs.length = xs := by
        have := congrArg (List.drop 1) htk
        rw [List.drop_take, List.drop_drop] at this
        simpa using this
      refine ⟨.slice (if cap = 1 then some ⟨g, o, none⟩ else some ⟨g, o + 1, none⟩) xs.length (cap - 1), fun q W => ?_, ?_, ?_⟩
      · have h2 := run_sliceBound (P := P) W q 1 (xs.length + 1) .sliceB (by omega) (by omega)
        by_cases hc : cap = 1
        · subst hc; simp [Instr.slice, run_underlying ht, Instr.sliceBounds, run_sliceBound, sizeOf, typeInfo, hi, hs, h2]
        · simp [Instr.slice, run_underlying ht, Instr.sliceBounds, run_sliceBound, sizeOf, typeInfo, hi, hs, h2, hc, add_lit]
      · by_cases hc : cap = 1
        · subst hc
          have h0 : xs = [] := List.eq_nil_of_length_eq_zero (by omega)
          subst h0
          exact .inr ⟨g, o, 0, cs, rfl, hb, hg, by omega, by simp, by simp [maxLen], rfl⟩
        · rw [if_neg hc]
          exact .inr ⟨g, o + 1, cap - 1, cs, rfl, hb, hg, by omega, by omega, by omega, hxs⟩
      · by_cases hc : cap = 1 <;> simp [hc, Value.ownBlock]
end Go.Proofs.YtgohinklnglgeaaDoor

set_option linter.unusedVariables false
set_option linter.unusedSimpArgs false
namespace Go.Proofs.YtgohinklnglgeaaDoor
open Go.RowKit

/-- a list that was handed out: its value, how many things, their cells -/
structure Ent where
  v : Value
  n : Nat
  xs : List Value

structure BookAt (ok : Ent → Prop) (w : World) (base : Nat) (tb tl te size g : Nat) (bl : List Nat) (L : List Ent) (lv wv : Value) (held : Int) (ws : List Value) : Prop where
  blk : Blk w g tb [lv, wv, .int .i64 held, .bool false]
  lists : OwnS w base tl lv (L.map Ent.v)
  was : OwnS w base tl wv ws
  len : ws.length = L.length
  apart : ∀ k, lv.ownBlock = some k → wv.ownBlock ≠ some k
  inl : ∀ k, lv.ownBlock = some k → k ∈ bl
  inw : ∀ k, wv.ownBlock = some k → k ∈ bl
  ing : g ∈ bl
  data : ∀ (i : Nat) e u, L[i]? = some e → ws[i]? = some u → w.ownsRow base te size u e.n e.xs ∧ ∀ k, u.ownBlock = some k → k ∈ bl
  ents : ∀ e ∈ L, w.ownsRow base te size e.v e.n e.xs ∧ ∀ k, e.v.ownBlock = some k → k ∉ bl
  dist : L.Pairwise fun e f => ∀ k, e.v.ownBlock = some k → f.v.ownBlock ≠ some k
  own : ∀ x ∈ bl, base ≤ x ∧ x < w.heap.size
  ne : tb ≠ tl ∧ tb ≠ te ∧ tl ≠ te
  good : ∀ e ∈ L, ok e

section
variable {ok : Ent → Prop} {w w' : World} {base tb tl te size g : Nat} {bl : List Nat} {L : List Ent} {lv wv : Value} {held : Int} {ws : List Value}

/-- what touches neither the book nor its lists -/
theorem BookAt.only (h : BookAt ok w base tb tl te size g bl L lv wv held ws) {l : List Nat} (ho : Only l w w') (h1 : ∀ x ∈ l, x ∉ bl) (h2 : ∀ e ∈ L, ∀ k, e.v.ownBlock = some k → k ∉ l) : BookAt ok w' base tb tl te size g bl L lv wv held ws where
  blk := h.blk.only ho fun hg => h1 _ hg h.ing
  lists := h.lists.only ho fun k hk hkl => h1 _ hkl (h.inl k hk)
  was := h.was.only ho fun k hk hkl => h1 _ hkl (h.inw k hk)
  len := h.len
  apart := h.apart
  inl := h.inl
  inw := h.inw
  ing := h.ing
  data i e u he hu := ⟨own_only (h.data i e u he hu).1 ho fun k hk hkl => h1 _ hkl ((h.data i e u he hu).2 k hk), (h.data i e u he hu).2⟩
  ents e he := ⟨own_only (h.ents e he).1 ho fun k hk => h2 e he k hk, (h.ents e he).2⟩
  dist := h.dist
  own x hx := ⟨(h.own x hx).1, Nat.lt_of_lt_of_le (h.own x hx).2 ho.size⟩
  ne := h.ne
  good := h.good
theorem BookAt.only0 (h : BookAt ok w base tb tl te size g bl L lv wv held ws) (ho : Only [] w w') : BookAt ok w' base tb tl te size g bl L lv wv held ws := h.only ho (by simp) (by simp)

theorem blockNe {e t : TypeId} {v : Value} {xs cs : List Value} {k : Nat} (h : OwnS w base e v xs) (hg : Blk w g t cs) (hne : t ≠ e) (hk : v.ownBlock = some k) : k ≠ g := by
  intro hkg
  subst hkg
  rcases h with ⟨rfl, _⟩ | ⟨g', o', cap', cs', rfl, _, hg', _⟩
  · simp [Value.ownBlock] at hk
  · simp [Value.ownBlock] at hk; subst hk
    exact hg'.ne hg (Ne.symm hne) rfl
theorem own_blk {e n : Nat} {v : Value} {xs : List Value} (h : w.ownsRow base e size v n xs) {k : Nat} (hk : v.ownBlock = some k) : ∃ cs, Blk w k e cs := by
  rcases h.2 with ⟨rfl, _⟩ | ⟨g', cap, cur, rfl, _, hg', _⟩
  · simp [Value.ownBlock] at hk
  · simp [Value.ownBlock] at hk; subst hk
    exact ⟨cur.toList, Blk.mk' hg' rfl⟩
theorem ownNe {e t n : Nat} {v u : Value} {xs ys : List Value} {k : Nat} (h : OwnS w base e v xs) (hu : w.ownsRow base t size u n ys) (hne : e ≠ t) (hk : v.ownBlock = some k) : u.ownBlock ≠ some k := by
  intro hk2
  obtain ⟨cs, hb⟩ := own_blk hu hk2
  exact blockNe h hb (Ne.symm hne) hk rfl

/-- one list more -/
theorem BookAt.push (h : BookAt ok w base tb tl te size g bl L lv wv held ws) {Z : List Nat} (hO : Only Z w w') (hZ : ∀ k ∈ Z, k = g ∨ lv.ownBlock = some k ∨ wv.ownBlock = some k) {lv' wv' u : Value} {held' : Int} {e : Ent}
    (hb : Blk w' g tb [lv', wv', .int .i64 held', .bool false]) (hl : OwnS w' base tl lv' (L.map Ent.v ++ [e.v])) (hw : OwnS w' base tl wv' (ws ++ [u])) (hu : w'.ownsRow base te size u e.n e.xs) (hul : ∀ k, u.ownBlock = some k → w.heap.size ≤ k)
    (hln : ∀ k, lv'.ownBlock = some k → lv.ownBlock = some k ∨ w.heap.size ≤ k) (hwn : ∀ k, wv'.ownBlock = some k → wv.ownBlock = some k ∨ w.heap.size ≤ k) (hlw : ∀ k, lv'.ownBlock = some k → wv'.ownBlock ≠ some k)
    (he : w.ownsRow base te size e.v e.n e.xs) (hfar : ∀ k, e.v.ownBlock = some k → k ∉ bl) (hd : ∀ f ∈ L, ∀ k, f.v.ownBlock = some k → e.v.ownBlock ≠ some k) (hok : ok e) :
    ∃ bl', BookAt ok w' base tb tl te size g bl' (L ++ [e]) lv' wv' held' (ws ++ [u]) ∧ ∀ x ∈ bl', x ∈ bl ∨ w.heap.size ≤ x := by
  have hZb : ∀ k ∈ Z, k ∈ bl := by
    intro k hk
    rcases hZ k hk with rfl | h1 | h1
    · exact h.ing
    · exact h.inl k h1
    · exact h.inw k h1
  have hnew : ∀ x ∈ bl ++ (lv'.ownBlock.toList ++ (wv'.ownBlock.toList ++ u.ownBlock.toList)), x ∈ bl ∨ w.heap.size ≤ x := by
    intro x hx
    simp only [List.mem_append, Option.mem_toList] at hx
    rcases hx with hx | hx | hx | hx
    · exact .inl hx
    · rcases hln x hx with h1 | h1
      · exact .inl (h.inl x h1)
      · exact .inr h1
    · rcases hwn x hx with h1 | h1
      · exact .inl (h.inw x h1)
      · exact .inr h1
    · exact .inr (hul x hx)
  have hgood : ∀ f ∈ L ++ [e], ok f := by
    intro f hf
    simp only [List.mem_append, List.mem_singleton] at hf
    rcases hf with hf | rfl
    · exact h.good f hf
    · exact hok
  refine ⟨bl ++ (lv'.ownBlock.toList ++ (wv'.ownBlock.toList ++ u.ownBlock.toList)), ⟨hb, ?_, hw, ?_, hlw, ?_, ?_, ?_, ?_, ?_, ?_, ?_, h.ne, hgood⟩, hnew⟩
  · simpa using hl
  · simp [h.len]
  · intro k hk; simp [hk]
  · intro k hk; simp [hk]
  · simp [h.ing]
  · intro i f v hf hv
    by_cases hi : i < L.length
    · rw [List.getElem?_append_left hi] at hf
      rw [List.getElem?_append_left (by rw [h.len]; exact hi)] at hv
      obtain ⟨d1, d2⟩ := h.data i f v hf hv
      refine ⟨own_only d1 hO ?_, fun k hk => by simp [d2 k hk]⟩
      intro k hk hkz
      rcases hZ k hkz with rfl | h1 | h1
      · obtain ⟨cs, hc⟩ := own_blk d1 hk
        exact h.blk.ne hc h.ne.2.1 rfl
      · exact ownNe h.lists d1 h.ne.2.2 h1 hk
      · exact ownNe h.was d1 h.ne.2.2 h1 hk
    · rw [List.getElem?_append_right (by omega)] at hf
      rw [List.getElem?_append_right (by rw [h.len]; omega), h.len] at hv
      have hi0 : i - L.length = 0 := by
        have := (List.getElem?_eq_some_iff.1 hf).1
        simp at this; omega
      rw [hi0] at hf hv
      simp at hf hv
      subst hf hv
      exact ⟨hu, fun k hk => by simp [hk]⟩
  · intro f hf
    simp only [List.mem_append, List.mem_singleton] at hf
    have key : w.ownsRow base te size f.v f.n f.xs ∧ ∀ k, f.v.ownBlock = some k → k ∉ bl := by
      rcases hf with hf | rfl
      · exact h.ents f hf
      · exact ⟨he, hfar⟩
    refine ⟨own_only key.1 hO fun k hk hkz => key.2 k hk (hZb k hkz), fun k hk hkb => ?_⟩
    rcases hnew k hkb with h1 | h1
    · exact key.2 k hk h1
    · have := own_lt key.1 hk; omega
  · rw [List.pairwise_append]
    refine ⟨h.dist, by simp, fun f hf f' hf' => ?_⟩
    simp at hf'; subst hf'
    exact hd f hf
  · intro x hx
    simp only [List.mem_append, Option.mem_toList] at hx
    rcases hx with hx | hx | hx | hx
    · exact ⟨(h.own x hx).1, Nat.lt_of_lt_of_le (h.own x hx).2 hO.size⟩
    · exact hl.lt hx
    · exact hw.lt hx
    · exact own_lt hu hx

/-- the count written anew -/
theorem BookAt.poke (h : BookAt ok w base tb tl te size g bl L lv wv held ws) (hO : Only [g] w w') {held' : Int} (hb : Blk w' g tb [lv, wv, .int .i64 held', .bool false]) : BookAt ok w' base tb tl te size g bl L lv wv held' ws where
  blk := hb
  lists := h.lists.only hO fun k hk => by have := blockNe h.lists h.blk h.ne.1 hk; simpa using this
  was := h.was.only hO fun k hk => by have := blockNe h.was h.blk h.ne.1 hk; simpa using this
  len := h.len
  apart := h.apart
  inl := h.inl
  inw := h.inw
  ing := h.ing
  data i f v hf hv := by
    obtain ⟨d1, d2⟩ := h.data i f v hf hv
    refine ⟨own_only d1 hO fun k hk hkg => ?_, d2⟩
    simp at hkg; subst hkg
    obtain ⟨cs, hc⟩ := own_blk d1 hk
    exact h.blk.ne hc h.ne.2.1 rfl
  ents f hf := by
    obtain ⟨d1, d2⟩ := h.ents f hf
    refine ⟨own_only d1 hO fun k hk hkg => ?_, d2⟩
    simp at hkg; subst hkg
    exact d2 k hk h.ing
  dist := h.dist
  own x hx := ⟨(h.own x hx).1, Nat.lt_of_lt_of_le (h.own x hx).2 hO.size⟩
  ne := h.ne
  good := h.good

/-- the first list let go -/
theorem BookAt.pop {e : Ent} {u : Value} (h : BookAt ok w base tb tl te size g bl (e :: L) lv wv held (u :: ws)) (hO : Only [g] w w') {lv' wv' : Value} {held' : Int} (hb : Blk w' g tb [lv', wv', .int .i64 held', .bool false])
    (hl : OwnS w base tl lv' (L.map Ent.v)) (hw : OwnS w base tl wv' ws) (e1 : lv'.ownBlock = lv.ownBlock) (e2 : wv'.ownBlock = wv.ownBlock) : BookAt ok w' base tb tl te size g bl L lv' wv' held' ws where
  blk := hb
  lists := hl.only hO fun k hk => by rw [e1] at hk; have := blockNe h.lists h.blk h.ne.1 hk; simpa using this
  was := hw.only hO fun k hk => by rw [e2] at hk; have := blockNe h.was h.blk h.ne.1 hk; simpa using this
  len := by have := h.len; simpa using this
  apart k hk := by rw [e1] at hk; rw [e2]; exact h.apart k hk
  inl k hk := by rw [e1] at hk; exact h.inl k hk
  inw k hk := by rw [e2] at hk; exact h.inw k hk
  ing := h.ing
  data i f v hf hv := by
    obtain ⟨d1, d2⟩ := h.data (i + 1) f v (by simpa using hf) (by simpa using hv)
    refine ⟨own_only d1 hO fun k hk hkg => ?_, d2⟩
    simp at hkg; subst hkg
    obtain ⟨cs, hc⟩ := own_blk d1 hk
    exact h.blk.ne hc h.ne.2.1 rfl
  ents f hf := by
    obtain ⟨d1, d2⟩ := h.ents f (by simp [hf])
    refine ⟨own_only d1 hO fun k hk hkg => ?_, d2⟩
    simp at hkg; subst hkg
    exact d2 k hk h.ing
  dist := (List.pairwise_cons.1 h.dist).2
  own x hx := ⟨(h.own x hx).1, Nat.lt_of_lt_of_le (h.own x hx).2 hO.size⟩
  ne := h.ne
  good f hf := h.good f (by simp [hf])
end
end Go.Proofs.YtgohinklnglgeaaDoor
