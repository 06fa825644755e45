/- A book of tessera/utf.Item, all its blocks named. -/
import Derived.Test.YteadcibbpbbehaaDoorBookAI
set_option linter.unusedVariables false
set_option linter.unusedSimpArgs false
namespace Go.Proofs.YteadcibbpbbehaaDoor
open Go.RowKit

/-- an empty book -/
theorem book_newI {w : World} {base g : Nat} (hb : Blk w g 47 [.slice none 0 0, .slice none 0 0, .int .i64 0, .bool false]) (h : base ≤ g) : BookBI w base g [g] [] (.slice none 0 0) (.slice none 0 0) 0 [] where
  blk := hb
  lists := OwnS.nil _ _ _
  was := OwnS.nil _ _ _
  len := rfl
  apart k hk := by simp [Value.ownBlock] at hk
  inl k hk := by simp [Value.ownBlock] at hk
  inw k hk := by simp [Value.ownBlock] at hk
  ing := by simp
  data i e u he := by simp at he
  ents e he := by simp at he
  dist := List.Pairwise.nil
  own x hx := by simp at hx; subst hx; exact ⟨h, hb.lt⟩
  ne := ⟨by decide, by decide, by decide⟩
  good e he := by simp at he

theorem own_rowI {w : World} {base o m : Nat} {l : List It} (hb : Blk w o 33 (its l)) (hl : l.length = m) (hbo : base ≤ o) (hm : m ≤ 1000000) : w.ownsRow base 33 4 (.slice (some ⟨o, 0, none⟩) m m) m (its l) :=
  own_of_blk (sp := []) (by simpa using hb) hbo (by rw [its_length, hl]) (by simp) (Nat.le_refl _) (by simp only [maxLen]; omega)
theorem keep_blkI (w : World) (base g : Nat) (bl : List Nat) (L : List Ent) (lv wv : Value) (held : Int) (ws : List Value) (h : BookBI w base g bl L lv wv held ws) (hL : L.length ≤ 4000) (o m : Nat) (l : List It) (hb : Blk w o 33 (its l)) (hl : l.length = m) (hm : m ≤ 1000000)
    (hbo : base ≤ o) (ho : o ∉ bl) (hd : ∀ e ∈ L, e.v.ownBlock ≠ some o) :
    Calls Tryd.prog 23 #[.pointer (some ⟨g, 0, none⟩), .slice (some ⟨o, 0, none⟩) m m] w fun e w' => e = .returned (.tuple #[]) ∧ KeptBI w w' base g bl (L ++ [⟨.slice (some ⟨o, 0, none⟩) m m, m, its l⟩]) :=
  keep_anyI w base g bl L lv wv held ws h hL _ m m l (own_rowI hb hl hbo hm) (by intro k hk; simp [Value.ownBlock] at hk; subst hk; exact ho) (by intro e he k hk hk2; simp [Value.ownBlock] at hk2; subst hk2; exact hd e he hk) hm

/-- behind a Keep: the book, and what it left alone -/
theorem KeptBI.next {w0 wP w' : World} {base g lo : Nat} {bl : List Nat} {L : List Ent} (h : KeptBI wP w' base g bl L) (hlo : ∀ x ∈ bl, lo ≤ x) (hs : lo ≤ wP.heap.size) (hb : w0.heap.size ≤ lo) (hO : Only [] w0 wP) :
    ∃ j bl' lv' wv' held' ws', BookBI w' base g bl' (L.drop j) lv' wv' held' ws' ∧ (L.drop j).length ≤ 4000 ∧ (∀ x ∈ bl', lo ≤ x) ∧ Only bl wP w' ∧ Only [] w0 w' ∧ ∀ x ∈ bl', x ∈ bl ∨ wP.heap.size ≤ x := by
  obtain ⟨j, bl', lv', wv', held', ws', hB, hl, hj, hO2, hbl⟩ := h
  refine ⟨j, bl', lv', wv', held', ws', hB, hl, ?_, hO2, hO.trans' hO2 ?_, hbl⟩
  · intro x hx
    rcases hbl x hx with h1 | h1
    · exact hlo x h1
    · omega
  · intro x hx; have := hlo x hx; omega


/-- a book whose blocks all lie in Z; it holds at most n lists -/
def KbI (w : World) (base g : Nat) (Z : List Nat) (n : Nat) : Prop := (∃ bl L lv wv held ws, BookBI w base g bl L lv wv held ws ∧ L.length ≤ n ∧ (∀ x ∈ bl, x ∈ Z) ∧ (∀ e ∈ L, ∀ k, e.v.ownBlock = some k → k ∈ Z)) ∧ ∀ x ∈ Z, base ≤ x ∧ x < w.heap.size
section
variable {w w' : World} {base g n : Nat} {Z : List Nat}
theorem KbI.new (hb : Blk w g 47 [.slice none 0 0, .slice none 0 0, .int .i64 0, .bool false]) (h : base ≤ g) : KbI w base g [g] 0 :=
  ⟨⟨[g], [], _, _, _, _, book_newI hb h, by simp, by simp, by simp⟩, by intro x hx; simp at hx; subst hx; exact ⟨h, hb.lt⟩⟩
theorem KbI.only (h : KbI w base g Z n) {l : List Nat} (ho : Only l w w') (hl : ∀ x ∈ l, x ∉ Z) : KbI w' base g Z n := by
  obtain ⟨⟨bl, L, lv, wv, held, ws, hB, h1, h2, h3⟩, h4⟩ := h
  exact ⟨⟨bl, L, lv, wv, held, ws, hB.only ho (fun x hx hxb => hl x hx (h2 x hxb)) (fun e he k hk hkl => hl k hkl (h3 e he k hk)), h1, h2, h3⟩, fun x hx => ⟨(h4 x hx).1, Nat.lt_of_lt_of_le (h4 x hx).2 ho.size⟩⟩
theorem KbI.only0 (h : KbI w base g Z n) (ho : Only [] w w') : KbI w' base g Z n := h.only ho (by simp)
set_option maxRecDepth 100000 in
theorem kbKeepI (h : KbI w base g Z n) (hn : n ≤ 4000) (A : Option Addr) (m c : Nat) (l : List It) (hv : w.ownsRow base 33 4 (.slice A m c) m (its l)) (hfar : ∀ k, (Value.slice A m c).ownBlock = some k → k ∉ Z) (hm : m ≤ 1000000) :
    Calls Tryd.prog 23 #[.pointer (some ⟨g, 0, none⟩), .slice A m c] w fun e w' => e = .returned (.tuple #[]) ∧ ∃ Z', KbI w' base g Z' (n + 1) ∧ Only Z w w' ∧ ∀ x ∈ Z', x ∈ Z ∨ (Value.slice A m c).ownBlock = some x ∨ w.heap.size ≤ x := by
  obtain ⟨⟨bl, L, lv, wv, held, ws, hB, h1, h2, h3⟩, h4⟩ := h
  refine (keep_anyI w base g bl L lv wv held ws hB (by omega) A m c l hv (fun k hk hkb => hfar k hk (h2 k hkb)) (fun e he k hk hk2 => hfar k hk2 (h3 e he k hk)) hm).mono ?_
  rintro e w1 ⟨rfl, j, bl', lv', wv', held', ws', hB', hl', hj, hO, hbl⟩
  refine ⟨rfl, bl' ++ ((L ++ [(⟨.slice A m c, m, its l⟩ : Ent)]).drop j).flatMap (fun e => e.v.ownBlock.toList), ⟨⟨bl', _, lv', wv', held', ws', hB', ?_, fun x hx => by simp [hx], ?_⟩, ?_⟩, hO.mono (fun x hx => .inl (h2 x hx)), ?_⟩
  · simp; omega
  · intro e he k hk
    simp only [List.mem_append, List.mem_flatMap, Option.mem_toList]
    exact .inr ⟨e, he, hk⟩
  · intro x hx
    simp only [List.mem_append, List.mem_flatMap, Option.mem_toList] at hx
    rcases hx with hx | ⟨e, he, hk⟩
    · exact hB'.own x hx
    · exact own_lt (hB'.ents e he).1 hk
  · intro x hx
    simp only [List.mem_append, List.mem_flatMap, Option.mem_toList] at hx
    rcases hx with hx | ⟨e, he, hk⟩
    · rcases hbl x hx with h5 | h5
      · exact .inl (h2 x h5)
      · exact .inr (.inr h5)
    · have he := List.mem_of_mem_drop he
      simp only [List.mem_append, List.mem_singleton] at he
      rcases he with he | rfl
      · exact .inl (h3 e he x hk)
      · exact .inr (.inl hk)
set_option maxRecDepth 100000 in
theorem kbApartI (h : KbI w base g Z n) (hn : n ≤ 4001) :
    Calls Tryd.prog 26 #[.pointer (some ⟨g, 0, none⟩), .func (.func 27) #[] #[]] w fun e w' => e = .returned (.bool true) ∧ Only Z w w' := by
  obtain ⟨⟨bl, L, lv, wv, held, ws, hB, h1, h2, h3⟩, h4⟩ := h
  refine (apart_anyI w base g bl L lv wv held ws hB (by omega)).mono ?_
  rintro e w1 ⟨rfl, hO⟩
  refine ⟨rfl, hO.mono ?_⟩
  intro x hx
  simp only [List.mem_append, List.mem_flatMap, Option.mem_toList] at hx
  rcases hx with hx | ⟨e, he, hk⟩
  · exact .inl (h2 x hx)
  · exact .inl (h3 e he x hk)
end
end Go.Proofs.YteadcibbpbbehaaDoor
