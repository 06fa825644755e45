/- A book that is made, and a Keep in the caller's words. -/
import Derived.Test.YtjjfnepmnjjemaaBookA
namespace Go.Proofs.Ytjjfnepmnjjemaa
open Go.RowKit

/-- an empty book -/
theorem book_new {w : World} {base g : Nat} (hb : Blk w g 42 [.slice none 0 0, .slice none 0 0, .int .i64 0, .bool false]) (h : base ≤ g) : BookB w base g [g] [] (.slice none 0 0) (.slice none 0 0) 0 [] where
  blk := hb
  lists := OwnS.nil _ _ _
  was := OwnS.nil _ _ _
  len := rfl
  apart k hk := by simp [Value.ownBlock] at hk
  inl k hk := by simp [Value.ownBlock] at hk
  inw k hk := by simp [Value.ownBlock] at hk
  ing := by simp
  data i e u he := by simp at he
  ents e he := by simp at he
  dist := List.Pairwise.nil
  own x hx := by simp at hx; subst hx; exact ⟨h, hb.lt⟩
  ne := ⟨by decide, by decide, by decide⟩
  good e he := by simp at he

theorem own_row {w : World} {base o m : Nat} {l : List UInt8} (hb : Blk w o 5 (bvs l)) (hl : l.length = m) (hbo : base ≤ o) (hm : m ≤ 70368744177664) : w.ownsRow base 5 1 (.slice (some ⟨o, 0, none⟩) m m) m (bvs l) :=
  own_of_blk (sp := []) (by simpa using hb) hbo (by rw [bvs_length, hl, Nat.mul_one]) (by simp) (Nat.le_refl _) (by simp only [maxLen]; omega)
theorem keep_blk (w : World) (base g : Nat) (bl : List Nat) (L : List Ent) (lv wv : Value) (held : Int) (ws : List Value) (h : BookB w base g bl L lv wv held ws) (hL : L.length ≤ 4000) (o m : Nat) (l : List UInt8) (hb : Blk w o 5 (bvs l)) (hl : l.length = m) (hm : m ≤ 70368744177664)
    (hbo : base ≤ o) (ho : o ∉ bl) (hd : ∀ e ∈ L, e.v.ownBlock ≠ some o) :
    Calls Try.prog 24 #[.pointer (some ⟨g, 0, none⟩), .slice (some ⟨o, 0, none⟩) m m] w fun e w' => e = .returned (.tuple #[]) ∧ KeptB w w' base g bl (L ++ [⟨.slice (some ⟨o, 0, none⟩) m m, m, bvs l⟩]) :=
  keep_any w base g bl L lv wv held ws h hL _ m m l (own_row hb hl hbo hm) (by intro k hk; simp [Value.ownBlock] at hk; subst hk; exact ho) (by intro e he k hk hk2; simp [Value.ownBlock] at hk2; subst hk2; exact hd e he hk) hm

/-- behind a Keep: the book, and what it left alone -/
theorem KeptB.next {w0 wP w' : World} {base g lo : Nat} {bl : List Nat} {L : List Ent} (h : KeptB wP w' base g bl L) (hlo : ∀ x ∈ bl, lo ≤ x) (hs : lo ≤ wP.heap.size) (hb : w0.heap.size ≤ lo) (hO : Only [] w0 wP) :
    ∃ j bl' lv' wv' held' ws', BookB w' base g bl' (L.drop j) lv' wv' held' ws' ∧ (L.drop j).length ≤ 4000 ∧ (∀ x ∈ bl', lo ≤ x) ∧ Only bl wP w' ∧ Only [] w0 w' ∧ ∀ x ∈ bl', x ∈ bl ∨ wP.heap.size ≤ x := by
  obtain ⟨j, bl', lv', wv', held', ws', hB, hl, hj, hO2, hbl⟩ := h
  refine ⟨j, bl', lv', wv', held', ws', hB, hl, ?_, hO2, hO.trans' hO2 ?_, hbl⟩
  · intro x hx
    rcases hbl x hx with h1 | h1
    · exact hlo x h1
    · omega
  · intro x hx; have := hlo x hx; omega

end Go.Proofs.Ytjjfnepmnjjemaa
