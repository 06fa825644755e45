/- A book of lists: over any program. -/
import Derived.Test.YteadcibbpbbehaaDoorBook0
set_option linter.unusedVariables false
set_option linter.unusedSimpArgs false
namespace Go.Proofs.YteadcibbpbbehaaDoor
open Go.RowKit

/-- a list that was handed out: its value, how many things, their cells -/
structure Ent where
  v : Value
  n : Nat
  xs : List Value

structure BookAt (ok : Ent → Prop) (w : World) (base : Nat) (tb tl te size g : Nat) (bl : List Nat) (L : List Ent) (lv wv : Value) (held : Int) (ws : List Value) : Prop where
  blk : Blk w g tb [lv, wv, .int .i64 held, .bool false]
  lists : OwnS w base tl lv (L.map Ent.v)
  was : OwnS w base tl wv ws
  len : ws.length = L.length
  apart : ∀ k, lv.ownBlock = some k → wv.ownBlock ≠ some k
  inl : ∀ k, lv.ownBlock = some k → k ∈ bl
  inw : ∀ k, wv.ownBlock = some k → k ∈ bl
  ing : g ∈ bl
  data : ∀ (i : Nat) e u, L[i]? = some e → ws[i]? = some u → w.ownsRow base te size u e.n e.xs ∧ ∀ k, u.ownBlock = some k → k ∈ bl
  ents : ∀ e ∈ L, w.ownsRow base te size e.v e.n e.xs ∧ ∀ k, e.v.ownBlock = some k → k ∉ bl
  dist : L.Pairwise fun e f => ∀ k, e.v.ownBlock = some k → f.v.ownBlock ≠ some k
  own : ∀ x ∈ bl, base ≤ x ∧ x < w.heap.size
  ne : tb ≠ tl ∧ tb ≠ te ∧ tl ≠ te
  good : ∀ e ∈ L, ok e

section
variable {ok : Ent → Prop} {w w' : World} {base tb tl te size g : Nat} {bl : List Nat} {L : List Ent} {lv wv : Value} {held : Int} {ws : List Value}

/-- what touches neither the book nor its lists -/
theorem BookAt.only (h : BookAt ok w base tb tl te size g bl L lv wv held ws) {l : List Nat} (ho : Only l w w') (h1 : ∀ x ∈ l, x ∉ bl) (h2 : ∀ e ∈ L, ∀ k, e.v.ownBlock = some k → k ∉ l) : BookAt ok w' base tb tl te size g bl L lv wv held ws where
  blk := h.blk.only ho fun hg => h1 _ hg h.ing
  lists := h.lists.only ho fun k hk hkl => h1 _ hkl (h.inl k hk)
  was := h.was.only ho fun k hk hkl => h1 _ hkl (h.inw k hk)
  len := h.len
  apart := h.apart
  inl := h.inl
  inw := h.inw
  ing := h.ing
  data i e u he hu := ⟨own_only (h.data i e u he hu).1 ho fun k hk hkl => h1 _ hkl ((h.data i e u he hu).2 k hk), (h.data i e u he hu).2⟩
  ents e he := ⟨own_only (h.ents e he).1 ho fun k hk => h2 e he k hk, (h.ents e he).2⟩
  dist := h.dist
  own x hx := ⟨(h.own x hx).1, Nat.lt_of_lt_of_le (h.own x hx).2 ho.size⟩
  ne := h.ne
  good := h.good
theorem BookAt.only0 (h : BookAt ok w base tb tl te size g bl L lv wv held ws) (ho : Only [] w w') : BookAt ok w' base tb tl te size g bl L lv wv held ws := h.only ho (by simp) (by simp)

theorem blockNe {e t : TypeId} {v : Value} {xs cs : List Value} {k : Nat} (h : OwnS w base e v xs) (hg : Blk w g t cs) (hne : t ≠ e) (hk : v.ownBlock = some k) : k ≠ g := by
  intro hkg
  subst hkg
  rcases h with ⟨rfl, _⟩ | ⟨g', o', cap', cs', rfl, _, hg', _⟩
  · simp [Value.ownBlock] at hk
  · simp [Value.ownBlock] at hk; subst hk
    exact hg'.ne hg (Ne.symm hne) rfl
theorem own_blk {e n : Nat} {v : Value} {xs : List Value} (h : w.ownsRow base e size v n xs) {k : Nat} (hk : v.ownBlock = some k) : ∃ cs, Blk w k e cs := by
  rcases h.2 with ⟨rfl, _⟩ | ⟨g', cap, cur, rfl, _, hg', _⟩
  · simp [Value.ownBlock] at hk
  · simp [Value.ownBlock] at hk; subst hk
    exact ⟨cur.toList, Blk.mk' hg' rfl⟩
theorem ownNe {e t n : Nat} {v u : Value} {xs ys : List Value} {k : Nat} (h : OwnS w base e v xs) (hu : w.ownsRow base t size u n ys) (hne : e ≠ t) (hk : v.ownBlock = some k) : u.ownBlock ≠ some k := by
  intro hk2
  obtain ⟨cs, hb⟩ := own_blk hu hk2
  exact blockNe h hb (Ne.symm hne) hk rfl

/-- one list more -/
theorem BookAt.push (h : BookAt ok w base tb tl te size g bl L lv wv held ws) {Z : List Nat} (hO : Only Z w w') (hZ : ∀ k ∈ Z, k = g ∨ lv.ownBlock = some k ∨ wv.ownBlock = some k) {lv' wv' u : Value} {held' : Int} {e : Ent}
    (hb : Blk w' g tb [lv', wv', .int .i64 held', .bool false]) (hl : OwnS w' base tl lv' (L.map Ent.v ++ [e.v])) (hw : OwnS w' base tl wv' (ws ++ [u])) (hu : w'.ownsRow base te size u e.n e.xs) (hul : ∀ k, u.ownBlock = some k → w.heap.size ≤ k)
    (hln : ∀ k, lv'.ownBlock = some k → lv.ownBlock = some k ∨ w.heap.size ≤ k) (hwn : ∀ k, wv'.ownBlock = some k → wv.ownBlock = some k ∨ w.heap.size ≤ k) (hlw : ∀ k, lv'.ownBlock = some k → wv'.ownBlock ≠ some k)
    (he : w.ownsRow base te size e.v e.n e.xs) (hfar : ∀ k, e.v.ownBlock = some k → k ∉ bl) (hd : ∀ f ∈ L, ∀ k, f.v.ownBlock = some k → e.v.ownBlock ≠ some k) (hok : ok e) :
    ∃ bl', BookAt ok w' base tb tl te size g bl' (L ++ [e]) lv' wv' held' (ws ++ [u]) ∧ ∀ x ∈ bl', x ∈ bl ∨ w.heap.size ≤ x := by
  have hZb : ∀ k ∈ Z, k ∈ bl := by
    intro k hk
    rcases hZ k hk with rfl | h1 | h1
    · exact h.ing
    · exact h.inl k h1
    · exact h.inw k h1
  have hnew : ∀ x ∈ bl ++ (lv'.ownBlock.toList ++ (wv'.ownBlock.toList ++ u.ownBlock.toList)), x ∈ bl ∨ w.heap.size ≤ x := by
    intro x hx
    simp only [List.mem_append, Option.mem_toList] at hx
    rcases hx with hx | hx | hx | hx
    · exact .inl hx
    · rcases hln x hx with h1 | h1
      · exact .inl (h.inl x h1)
      · exact .inr h1
    · rcases hwn x hx with h1 | h1
      · exact .inl (h.inw x h1)
      · exact .inr h1
    · exact .inr (hul x hx)
  have hgood : ∀ f ∈ L ++ [e], ok f := by
    intro f hf
    simp only [List.mem_append, List.mem_singleton] at hf
    rcases hf with hf | rfl
    · exact h.good f hf
    · exact hok
  refine ⟨bl ++ (lv'.ownBlock.toList ++ (wv'.ownBlock.toList ++ u.ownBlock.toList)), ⟨hb, ?_, hw, ?_, hlw, ?_, ?_, ?_, ?_, ?_, ?_, ?_, h.ne, hgood⟩, hnew⟩
  · simpa using hl
  · simp [h.len]
  · intro k hk; simp [hk]
  · intro k hk; simp [hk]
  · simp [h.ing]
  · intro i f v hf hv
    by_cases hi : i < L.length
    · rw [List.getElem?_append_left hi] at hf
      rw [List.getElem?_append_left (by rw [h.len]; exact hi)] at hv
      obtain ⟨d1, d2⟩ := h.data i f v hf hv
      refine ⟨own_only d1 hO ?_, fun k hk => by simp [d2 k hk]⟩
      intro k hk hkz
      rcases hZ k hkz with rfl | h1 | h1
      · obtain ⟨cs, hc⟩ := own_blk d1 hk
        exact h.blk.ne hc h.ne.2.1 rfl
      · exact ownNe h.lists d1 h.ne.2.2 h1 hk
      · exact ownNe h.was d1 h.ne.2.2 h1 hk
    · rw [List.getElem?_append_right (by omega)] at hf
      rw [List.getElem?_append_right (by rw [h.len]; omega), h.len] at hv
      have hi0 : i - L.length = 0 := by
        have := (List.getElem?_eq_some_iff.1 hf).1
        simp at this; omega
      rw [hi0] at hf hv
      simp at hf hv
      subst hf hv
      exact ⟨hu, fun k hk => by simp [hk]⟩
  · intro f hf
    simp only [List.mem_append, List.mem_singleton] at hf
    have key : w.ownsRow base te size f.v f.n f.xs ∧ ∀ k, f.v.ownBlock = some k → k ∉ bl := by
      rcases hf with hf | rfl
      · exact h.ents f hf
      · exact ⟨he, hfar⟩
    refine ⟨own_only key.1 hO fun k hk hkz => key.2 k hk (hZb k hkz), fun k hk hkb => ?_⟩
    rcases hnew k hkb with h1 | h1
    · exact key.2 k hk h1
    · have := own_lt key.1 hk; omega
  · rw [List.pairwise_append]
    refine ⟨h.dist, by simp, fun f hf f' hf' => ?_⟩
    simp at hf'; subst hf'
    exact hd f hf
  · intro x hx
    simp only [List.mem_append, Option.mem_toList] at hx
    rcases hx with hx | hx | hx | hx
    · exact ⟨(h.own x hx).1, Nat.lt_of_lt_of_le (h.own x hx).2 hO.size⟩
    · exact hl.lt hx
    · exact hw.lt hx
    · exact own_lt hu hx

/-- the count written anew -/
theorem BookAt.poke (h : BookAt ok w base tb tl te size g bl L lv wv held ws) (hO : Only [g] w w') {held' : Int} (hb : Blk w' g tb [lv, wv, .int .i64 held', .bool false]) : BookAt ok w' base tb tl te size g bl L lv wv held' ws where
  blk := hb
  lists := h.lists.only hO fun k hk => by have := blockNe h.lists h.blk h.ne.1 hk; simpa using this
  was := h.was.only hO fun k hk => by have := blockNe h.was h.blk h.ne.1 hk; simpa using this
  len := h.len
  apart := h.apart
  inl := h.inl
  inw := h.inw
  ing := h.ing
  data i f v hf hv := by
    obtain ⟨d1, d2⟩ := h.data i f v hf hv
    refine ⟨own_only d1 hO fun k hk hkg => ?_, d2⟩
    simp at hkg; subst hkg
    obtain ⟨cs, hc⟩ := own_blk d1 hk
    exact h.blk.ne hc h.ne.2.1 rfl
  ents f hf := by
    obtain ⟨d1, d2⟩ := h.ents f hf
    refine ⟨own_only d1 hO fun k hk hkg => ?_, d2⟩
    simp at hkg; subst hkg
    exact d2 k hk h.ing
  dist := h.dist
  own x hx := ⟨(h.own x hx).1, Nat.lt_of_lt_of_le (h.own x hx).2 hO.size⟩
  ne := h.ne
  good := h.good

/-- the first list let go -/
theorem BookAt.pop {e : Ent} {u : Value} (h : BookAt ok w base tb tl te size g bl (e :: L) lv wv held (u :: ws)) (hO : Only [g] w w') {lv' wv' : Value} {held' : Int} (hb : Blk w' g tb [lv', wv', .int .i64 held', .bool false])
    (hl : OwnS w base tl lv' (L.map Ent.v)) (hw : OwnS w base tl wv' ws) (e1 : lv'.ownBlock = lv.ownBlock) (e2 : wv'.ownBlock = wv.ownBlock) : BookAt ok w' base tb tl te size g bl L lv' wv' held' ws where
  blk := hb
  lists := hl.only hO fun k hk => by rw [e1] at hk; have := blockNe h.lists h.blk h.ne.1 hk; simpa using this
  was := hw.only hO fun k hk => by rw [e2] at hk; have := blockNe h.was h.blk h.ne.1 hk; simpa using this
  len := by have := h.len; simpa using this
  apart k hk := by rw [e1] at hk; rw [e2]; exact h.apart k hk
  inl k hk := by rw [e1] at hk; exact h.inl k hk
  inw k hk := by rw [e2] at hk; exact h.inw k hk
  ing := h.ing
  data i f v hf hv := by
    obtain ⟨d1, d2⟩ := h.data (i + 1) f v (by simpa using hf) (by simpa using hv)
    refine ⟨own_only d1 hO fun k hk hkg => ?_, d2⟩
    simp at hkg; subst hkg
    obtain ⟨cs, hc⟩ := own_blk d1 hk
    exact h.blk.ne hc h.ne.2.1 rfl
  ents f hf := by
    obtain ⟨d1, d2⟩ := h.ents f (by simp [hf])
    refine ⟨own_only d1 hO fun k hk hkg => ?_, d2⟩
    simp at hkg; subst hkg
    exact d2 k hk h.ing
  dist := (List.pairwise_cons.1 h.dist).2
  own x hx := ⟨(h.own x hx).1, Nat.lt_of_lt_of_le (h.own x hx).2 hO.size⟩
  ne := h.ne
  good f hf := h.good f (by simp [hf])
end
end Go.Proofs.YteadcibbpbbehaaDoor
