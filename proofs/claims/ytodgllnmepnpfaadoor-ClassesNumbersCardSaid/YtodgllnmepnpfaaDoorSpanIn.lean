/- spans.In over right lists. -/
import Derived.Test.YtodgllnmepnpfaaDoorSpan
set_option linter.unusedVariables false
set_option linter.unusedSimpArgs false
namespace Go.Proofs.YtodgllnmepnpfaaDoor
open Go.RowKit

/-- a right list of spans -/
structure RightL (l : List Sp) : Prop where
  each : ∀ p ∈ l, validRune p.1 = true ∧ validRune p.2 = true ∧ p.1 ≤ p.2
  order : ∀ (i j : Nat) (p q : Sp), i < j → l[i]? = some p → l[j]? = some q → p.2 < q.1
theorem RightL.rising {l : List Sp} (h : RightL l) : Rising l := by
  intro i j p q hij hp hq
  rcases Nat.lt_or_eq_of_le hij with hlt | rfl
  · have h1 := h.order i j p q hlt hp hq
    have h2 := (h.each q (List.mem_of_getElem? hq)).2.2
    omega
  · rw [hp] at hq; cases hq; exact Int.le_refl _
def inSpans (l : List Sp) (r : Int) : Bool := validRune r && l.any fun p => decide (p.1 ≤ r ∧ r ≤ p.2)
theorem findHi_le (l : List Sp) (r : Int) : findHi l r ≤ l.length := List.findIdx_le_length
theorem findHi_get {l : List Sp} {r : Int} {p : Sp} (h : l[findHi l r]? = some p) : r ≤ p.2 := by
  obtain ⟨h1, h2⟩ := List.getElem?_eq_some_iff.1 h
  have := List.findIdx_getElem (p := fun p : Sp => decide (r ≤ p.2)) (xs := l) (w := h1)
  subst h2
  simp at this; exact this
theorem any_find {l : List Sp} (h : RightL l) (r : Int) : (l.any fun p => decide (p.1 ≤ r ∧ r ≤ p.2)) = (match l[findHi l r]? with | some p => decide (p.1 ≤ r) | none => false) := by
  rw [Bool.eq_iff_iff]
  constructor
  · intro ha
    simp only [List.any_eq_true, decide_eq_true_eq] at ha
    obtain ⟨p, hp, h1, h2⟩ := ha
    obtain ⟨i, hi⟩ := List.mem_iff_getElem?.1 hp
    have e : findHi l r = i := findHi_eq (Nat.le_of_lt (List.getElem?_eq_some_iff.1 hi).1) (fun t q ht hq => by have := h.order t i q p ht hq hi; omega) (fun q hq => by rw [hi] at hq; cases hq; exact h2)
    rw [e, hi]; simpa using h1
  · intro ha
    cases hg : l[findHi l r]? with
    | none => rw [hg] at ha; simp at ha
    | some p =>
      rw [hg] at ha
      simp only [List.any_eq_true, decide_eq_true_eq] at ha ⊢
      exact ⟨p, List.mem_of_getElem? hg, ha, findHi_get hg⟩

set_option maxRecDepth 100000 in
set_option maxHeartbeats 1000000 in
theorem in_any (n c : Nat) (A : Option Addr) (l : List Sp) (r : Int) (w : World) (B : Nat) (hr : Rd w B 2 A n (ses l)) (hB : B ≤ w.heap.size) (hl : l.length = n) (hn : n ≤ 1000000) (hR : RightL l) :
    Calls Tryd.prog 31 #[.slice A n c, .int .i32 r] w fun e w' => e = .returned (.bool (inSpans l r)) ∧ Only [] w w' := by
  have hle := findHi_le l r
  rw [hl] at hle
  have haf := any_find hR r
  have hin : inSpans l r = (validRune r && (match l[findHi l r]? with | some p => decide (p.1 ≤ r) | none => false)) := by unfold inSpans; rw [haf]
  have Hin := Lib.hid hin
  have Hl := Lib.hid hl
  clear hin haf hl
  go_enter Tryd.func31, Tryd.ntmps31
  go_wp2_with (fail)
  refine (find_any n c A l r _ B hr Hl.out hn hR.rising).mono ?_
  rintro e w1 ⟨rfl, hO⟩
  replace hr := hr.only hO (by simp)
  obtain ⟨i, hi⟩ : ∃ i, i = findHi l r := ⟨_, rfl⟩
  rw [← hi] at hle ⊢
  have Hi := Lib.hid hi
  clear hi
  go_wp2_with (fail)
  refine (valid_any r _).mono ?_
  rintro e w2 ⟨rfl, rfl⟩
  obtain ⟨b, hb⟩ : ∃ b, b = validRune r := ⟨_, rfl⟩
  rw [← hb]
  have Hb := Lib.hid hb
  clear hb
  cases b with
  | false =>
    clear hr
    go_wp2_with (fail)
    go_ret
    exact ⟨ret_bool (by rw [Hin.out, ← Hb.out]; rfl), hO⟩
  | true =>
    by_cases hlt : i < n
    · obtain ⟨p, hp⟩ : ∃ p, l[i]? = some p := ⟨_, List.getElem?_eq_getElem (by rw [Hl.out]; exact hlt)⟩
      obtain ⟨g, o, rfl, _, c0, c1⟩ := hr.span hlt hp
      have Hp := Lib.hid hp
      clear hr hp
      go_wp2_with (fail)
      go_ret
      exact ⟨ret_bool (by rw [Hin.out, ← Hb.out, ← Hi.out, Hp.out]; simp), hO⟩
    · clear hr
      go_wp2_with (fail)
      go_ret
      exact ⟨ret_bool (by rw [Hin.out, ← Hb.out, ← Hi.out, List.getElem?_eq_none (by rw [Hl.out]; omega)]; rfl), hO⟩
end Go.Proofs.YtodgllnmepnpfaaDoor
