/- classes.New: what it answers, in plain words. -/
import Derived.Test.YtodgllnmepnpfaaDoorCls
import Derived.Laws.ResultCell
set_option linter.unusedVariables false
set_option linter.unusedSimpArgs false
namespace Go.Proofs.YtodgllnmepnpfaaDoor
open Go.RowKit

theorem results_tmp_cell {fn : Func} {p u : Tmp} {ty : TypeId} (h : fn.results = #[.tmp u, .cell p ty]) (tmps : Array Value) (P : Program) (w : World) :
    (results fn tmps).run P w =
      ((asAddr (tmps.getD p undef)).run P w).andThen fun a w₁ => ((loadVar ty a).run P w₁).andThen fun v w₂ => .ok (.tuple #[tmps.getD u undef, v]) w₂ := by
  simp only [results, h]
  simp [Sem.run_bind, Result.andThen]

abbrev Wr := Nat × Nat × Nat
def longW (i : Nat) (l : List Sp) : Option Wr := if 512 < l.length then some (4, i + 1, 512) else none
def rightW (i : Nat) (l : List Sp) : Option Wr := if (rightFrom none 0 l).2 = 0 then none else some ((rightFrom none 0 l).2, i + 1, (rightFrom none 0 l).1)
def least2 : Option Nat → Option Nat → Option Nat
  | some x, some y => some (min x y)
  | some x, none => some x
  | none, o => o
def over1 (a b : List Sp) : Option Wr := (meetFrom a 0 b).map fun r => (16, 2, r)
def over2 (a b d : List Sp) : Option Wr := (least2 (meetFrom a 0 d) (meetFrom b 0 d)).map fun r => (16, 3, r)
def blankW (a b d : List Sp) : Option Wr := if inSpans d 32 = true ∧ inSpans a 39 = false ∧ inSpans b 39 = false ∧ inSpans d 39 = false then none else some (20, 3, 0)
def stagesW (a b d : List Sp) : List (Option Wr) := [longW 0 a, longW 1 b, longW 2 d, rightW 0 a, rightW 1 b, rightW 2 d, over1 a b, over2 a b d, blankW a b d]
def checkW (a b d : List Sp) : Wr := ((stagesW a b d).findSome? id).getD (0, 0, 0)
theorem firstSome {l : List (Option Wr)} (i : Nat) {x : Wr} (hi : l[i]? = some (some x)) (hn : ∀ t : Nat, t < i → l[t]? = some none) : (l.findSome? id).getD (0, 0, 0) = x := by
  induction l generalizing i with
  | nil => simp at hi
  | cons u l ih =>
    cases i with
    | zero => simp at hi; subst hi; rfl
    | succ i =>
      have h0 := hn 0 (by omega)
      simp at h0; subst h0
      simp only [List.findSome?_cons, id]
      exact ih i (by simpa using hi) (fun t ht => by have := hn (t + 1) (by omega); simpa using this)
theorem noneW {l : List (Option Wr)} (h : ∀ u ∈ l, u = none) : (l.findSome? id).getD (0, 0, 0) = (0, 0, 0) := by
  rw [List.findSome?_eq_none_iff.2 (by intro x hx; rw [h x hx]; rfl)]; rfl

theorem rightFrom_why (prev : Option Int) (i : Nat) (l : List Sp) : (rightFrom prev i l).2 = 0 ∨ (rightFrom prev i l).2 = 14 ∨ (rightFrom prev i l).2 = 15 := by
  induction l generalizing prev i with
  | nil => exact .inl rfl
  | cons p l ih =>
    unfold rightFrom
    split
    · exact .inr (.inl rfl)
    · split
      · exact .inr (.inr rfl)
      · exact ih _ _
theorem rightFrom_right (prev : Option Int) (i : Nat) (l : List Sp) (h : (rightFrom prev i l).2 = 0) : RightL l ∧ ∀ h', prev = some h' → ∀ p ∈ l, h' < p.1 := by
  induction l generalizing prev i with
  | nil => exact ⟨⟨by simp, by simp⟩, by simp⟩
  | cons p l ih =>
    unfold rightFrom at h
    split at h
    · cases h
    · rename_i hv
      split at h
      · cases h
      · rename_i ho
        obtain ⟨hR, hlt⟩ := ih _ _ h
        have hlt := hlt p.2 rfl
        simp only [Bool.and_eq_false_iff, not_or, Bool.not_eq_false] at hv
        have h1 : p.1 ≤ p.2 := by omega
        refine ⟨⟨?_, ?_⟩, ?_⟩
        · intro q hq
          rcases List.mem_cons.1 hq with rfl | hq
          · exact ⟨hv.1, hv.2, h1⟩
          · exact hR.each q hq
        · intro s t x y hst hx hy
          cases t with
          | zero => omega
          | succ t =>
            rw [List.getElem?_cons_succ] at hy
            cases s with
            | zero => simp at hx; subst hx; exact hlt y (List.mem_of_getElem? hy)
            | succ s => rw [List.getElem?_cons_succ] at hx; exact hR.order s t x y (by omega) hx hy
        · intro h' e q hq
          have h2 : h' < p.1 := by
            by_cases h : h' < p.1
            · exact h
            · exact absurd (.inr ⟨h', e, by omega⟩) ho
          rcases List.mem_cons.1 hq with rfl | hq
          · exact h2
          · have := hlt q hq; omega
theorem RightL.of {l : List Sp} (h : (rightFrom none 0 l).2 = 0) : RightL l := (rightFrom_right none 0 l h).1

theorem meetFrom_none {b : List Sp} {i : Nat} {l : List Sp} (h : meetFrom b i l = none) : ∀ p ∈ l, overlaps b p = false := by
  induction l generalizing i with
  | nil => simp
  | cons q l ih =>
    unfold meetFrom at h
    split at h
    · cases h
    · rename_i hq
      intro p hp
      rcases List.mem_cons.1 hp with rfl | hp
      · simpa using hq
      · exact ih h p hp
theorem apart_of {a d : List Sp} (h : meetFrom a 0 d = none) {r : Int} (hd : inSpans d r = true) : inSpans a r = false := by
  unfold inSpans at hd ⊢
  simp only [Bool.and_eq_true, List.any_eq_true, decide_eq_true_eq] at hd
  obtain ⟨_, p, hp, h1, h2⟩ := hd
  have := meetFrom_none h p hp
  unfold overlaps at this
  rw [List.any_eq_false] at this
  rw [Bool.and_eq_false_iff]
  refine .inr (List.any_eq_false.2 fun q hq => ?_)
  have := this q hq
  simp at this ⊢
  omega
theorem meetFrom_lt {b : List Sp} {i : Nat} {l : List Sp} {r : Nat} (h : meetFrom b i l = some r) : r < i + l.length := by
  induction l generalizing i with
  | nil => simp [meetFrom] at h
  | cons q l ih =>
    unfold meetFrom at h
    split at h
    · cases h; simp
    · have := ih h; simp; omega
theorem least2_none {x y : Option Nat} (h : least2 x y = none) : x = none ∧ y = none := by
  cases x <;> cases y <;> simp_all [least2]

/-- with all lists apart: kinds of the blank and of the quote are as they shall be, or the lists are refused for it -/
theorem blank_kind {a b d : List Sp} (h1 : over2 a b d = none) : (blankW a b d = none ↔ (kindOf a b d 32 = 3 ∧ kindOf a b d 39 = 4)) ∧ (blankW a b d = none ∨ blankW a b d = some (20, 3, 0)) := by
  unfold over2 at h1
  obtain ⟨ha, hb⟩ := least2_none (by simpa using h1)
  have k1 := apart_of ha (r := 32)
  have k2 := apart_of hb (r := 32)
  unfold blankW kindOf
  cases h32 : inSpans d 32 <;> cases a32 : inSpans a 32 <;> cases b32 : inSpans b 32 <;> cases a39 : inSpans a 39 <;> cases b39 : inSpans b 39 <;> cases d39 : inSpans d 39 <;> simp_all
end Go.Proofs.YtodgllnmepnpfaaDoor
