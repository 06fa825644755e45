/- Several texts in one: Spans: runes, rows of spans.; spans.In over right lists. -/
import Derived.Test.YtgohinklnglgeaaDoorPk1
import Derived.Test.YtgohinklnglgeaaDoorApStepK
import Derived.Test.YtgohinklnglgeaaDoorRows
import Derived.WalkKit
import Derived.Deep.DeepCutAuto
import Derived.Deep.CutBlock
set_option linter.unusedVariables false
set_option linter.unusedSimpArgs false
namespace Go.Proofs.YtgohinklnglgeaaDoor
open Go.RowKit

def validRune (r : Int) : Bool := decide ((0 ≤ r ∧ r < 55296) ∨ (57343 < r ∧ r ≤ 1114111))
theorem valid_any (r : Int) (w : World) : Calls Tryd.prog 84 #[.int .i32 r] w fun e w' => e = .returned (.bool (validRune r)) ∧ w = w' := by
  go_enter Tryd.func84, Tryd.ntmps84
  go_wp2
  all_goals
    go_ret
    exact ⟨ret_bool (by unfold validRune; rw [Bool.eq_iff_iff]; simp at *; omega), rfl⟩
theorem refRune_any (r : Int) (w : World) : Calls Tryd.prog 89 #[.int .i32 r] w fun e w' => e = .returned (.bool (validRune r)) ∧ w = w' := by
  go_enter Tryd.func89, Tryd.ntmps89
  go_wp2
  all_goals
    go_ret
    exact ⟨ret_bool (by unfold validRune; rw [Bool.eq_iff_iff]; simp at *; omega), rfl⟩

abbrev Sp := Int × Int
def spv (p : Sp) : List Value := [.int .i32 p.1, .int .i32 p.2]
def ses (l : List Sp) : List Value := l.flatMap spv
theorem ses_length (l : List Sp) : (ses l).length = l.length * 2 := by
  induction l with
  | nil => rfl
  | cons a l ih => simp only [ses, List.flatMap_cons, List.length_append, List.length_cons] at *; rw [ih]; simp [spv]; omega
theorem ses_get (l : List Sp) (i : Nat) (p : Sp) (h : l[i]? = some p) : (ses l)[i * 2]? = some (.int .i32 p.1) ∧ (ses l)[i * 2 + 1]? = some (.int .i32 p.2) := by
  induction l generalizing i with
  | nil => simp at h
  | cons a l ih =>
    cases i with
    | zero => simp at h; subst h; simp [ses, spv]
    | succ i =>
      have := ih i (by simpa using h)
      simp only [ses, List.flatMap_cons] at this ⊢
      rw [List.getElem?_append_right (by simp [spv]; omega), List.getElem?_append_right (by simp [spv]; omega)]
      simp only [spv, List.length_cons, List.length_nil] at this ⊢
      rw [show (i + 1) * 2 - (0 + 1 + 1) = i * 2 by omega, show (i + 1) * 2 + 1 - (0 + 1 + 1) = i * 2 + 1 by omega]
      exact this
def findHi (l : List Sp) (r : Int) : Nat := l.findIdx fun p => decide (r ≤ p.2)
theorem findHi_eq {l : List Sp} {r : Int} {i : Nat} (hi : i ≤ l.length) (h1 : ∀ t p, t < i → l[t]? = some p → p.2 < r) (h2 : ∀ p, l[i]? = some p → r ≤ p.2) : findHi l r = i := by
  unfold findHi
  rcases Nat.lt_or_ge i l.length with h | h
  · rw [List.findIdx_eq h]
    refine ⟨by simpa using h2 _ (List.getElem?_eq_getElem h), fun t ht => ?_⟩
    have := h1 t _ ht (List.getElem?_eq_getElem (by omega))
    simp; omega
  · obtain rfl : i = l.length := by omega
    apply List.findIdx_eq_length_of_false
    intro x hx
    obtain ⟨t, ht, e⟩ := List.mem_iff_getElem.1 hx
    have := h1 t x ht (by rw [List.getElem?_eq_getElem ht, e])
    simp; omega

theorem Rd.span {w : World} {B n : Nat} {A : Option Addr} {l : List Sp} (h : Rd w B 2 A n (ses l)) {i : Nat} {p : Sp} (hi : i < n) (hp : l[i]? = some p) : ∃ g o, A = some ⟨g, o, none⟩ ∧ g < B ∧ w.cell? ⟨g, o + i * 2, none⟩ = some (.int .i32 p.1) ∧ w.cell? ⟨g, o + i * 2 + 1, none⟩ = some (.int .i32 p.2) := by
  obtain ⟨g, o, h1, h2, _, h3⟩ := h.addr (by omega)
  obtain ⟨e1, e2⟩ := ses_get l i p hp
  exact ⟨g, o, h1, h2, h3 _ _ e1, by rw [Nat.add_assoc]; exact h3 _ _ e2⟩

set_option maxRecDepth 100000 in
set_option maxHeartbeats 1000000 in
theorem lit_any (n c : Nat) (A : Option Addr) (l : List Sp) (r : Int) (bx bY : Nat) (w : World) (hx : w.cell? ⟨bx, 0, none⟩ = some (.slice A n c)) (hy : w.cell? ⟨bY, 0, none⟩ = some (.int .i32 r)) (B : Nat) (hr : Rd w B 2 A n (ses l)) (i : Nat) (hi : i < n) (p : Sp) (hp : l[i]? = some p) :
    Calls Tryd.prog 91 #[.int .i64 (i : Int), .pointer (some ⟨bx, 0, none⟩), .pointer (some ⟨bY, 0, none⟩)] w fun e w' => e = .returned (.bool (decide (r ≤ p.2))) ∧ ∃ k, w' = w.drewN k := by
  obtain ⟨g, o, rfl, _, c0, c1⟩ := hr.span hi hp
  clear hp hr
  go_enter Tryd.func91, Tryd.ntmps91
  go_wp2
  go_quiet (fail)
  go_wp2
  go_ret
  exact ⟨rfl, _, rfl⟩

set_option maxRecDepth 100000 in
set_option maxHeartbeats 1000000 in
theorem search_any (n c : Nat) (A : Option Addr) (l : List Sp) (r : Int) (bx bY : Nat) (w : World) (hx : w.cell? ⟨bx, 0, none⟩ = some (.slice A n c)) (hy : w.cell? ⟨bY, 0, none⟩ = some (.int .i32 r)) (B : Nat) (hr : Rd w B 2 A n (ses l)) (hl : l.length = n) (hn : n ≤ 1000000)
    (hmono : ∀ (i j : Nat) (p q : Sp), i ≤ j → l[i]? = some p → l[j]? = some q → p.2 ≤ q.2) :
    Calls Tryd.prog 90 #[.int .i64 (n : Int), .func (.func 91) #[] #[.pointer (some ⟨bx, 0, none⟩), .pointer (some ⟨bY, 0, none⟩)]] w fun e w' => e = .returned (.int .i64 (findHi l r : Int)) ∧ ∃ k, w' = w.drewN k := by
  have Hl := Lib.hid hl
  clear hl
  go_enter Tryd.func90, Tryd.ntmps90
  go_wp2_with (fail)
  go_loopw [5, 6] (fun vi vj wr => ∃ i j k : Nat, vi = .int .i64 (i : Int) ∧ vj = .int .i64 (j : Int) ∧ i ≤ j ∧ j ≤ n ∧ (∀ (t : Nat) (p : Sp), t < i → l[t]? = some p → p.2 < r) ∧ (∀ (t : Nat) (p : Sp), j ≤ t → l[t]? = some p → r ≤ p.2) ∧ wr = w.drewN k) (fun vi vj _ => (intOf vj).toNat - (intOf vi).toNat)
  case atStart => exact ⟨0, n, 0, rfl, rfl, by omega, by omega, by omega, by intro t p ht hp; have := (List.getElem?_eq_some_iff.1 hp).1; rw [Hl.out] at this; omega, rfl⟩
  case round =>
    obtain ⟨i, j, k, rfl, rfl, hij, hjn, hlo, hhi, hw⟩ := hrel
    have Hlo := Lib.hid hlo
    have Hhi := Lib.hid hhi
    have Hw := Lib.hid hw
    clear hlo hhi hw
    by_cases hlt : i < j
    · obtain ⟨m, hm⟩ : ∃ m, m = (i + j) / 2 := ⟨_, rfl⟩
      have hm2 : (((i : Int) + (j : Int)) / 2) = (m : Int) := by omega
      have hmi : i ≤ m := by omega
      have hmj : m < j := by omega
      clear hm
      obtain ⟨p, hp⟩ : ∃ p, l[m]? = some p := ⟨_, List.getElem?_eq_getElem (by rw [Hl.out]; omega)⟩
      have Hp := Lib.hid hp
      clear hp
      go_wp2_with (fail)
      refine (lit_any n c A l r bx bY _ (by rw [Hw.out]; exact hx) (by rw [Hw.out]; exact hy) B (by rw [Hw.out]; exact hr) m (by omega) p Hp.out).mono ?_
      rintro e w2 ⟨rfl, k2, rfl⟩
      by_cases hle : r ≤ p.2
      · rw [decide_eq_true hle]
        go_wp2_with (fail)
        go_roundw
        case rel => exact ⟨i, m, k + k2, rfl, rfl, hmi, by omega, Hlo.out, fun t q ht hq => Int.le_trans hle (hmono m t p q ht Hp.out hq), by rw [Hw.out, World.drewN_drewN]⟩
        case measure => simp [intOf]; omega
      · rw [decide_eq_false hle]
        go_wp2_with (fail)
        go_roundw
        case rel => exact ⟨m + 1, j, k + k2, by go_num, rfl, by omega, hjn, fun t q ht hq => by have := hmono t m q p (by omega) hq Hp.out; omega, Hhi.out, by rw [Hw.out, World.drewN_drewN]⟩
        case measure => simp [intOf]; omega
    · obtain rfl : i = j := by omega
      go_wp2_with (fail)
      go_ret
      exact ⟨by rw [findHi_eq (by rw [Hl.out]; exact hjn) Hlo.out (fun p hp => Hhi.out i p (Nat.le_refl _) hp)]; rfl, _, Hw.out⟩

/-- rows of right lists: the ends rise -/
def Rising (l : List Sp) : Prop := ∀ (i j : Nat) (p q : Sp), i ≤ j → l[i]? = some p → l[j]? = some q → p.2 ≤ q.2
set_option maxRecDepth 100000 in
set_option maxHeartbeats 1000000 in
theorem find_any (n c : Nat) (A : Option Addr) (l : List Sp) (r : Int) (w : World) (B : Nat) (hr : Rd w B 2 A n (ses l)) (hl : l.length = n) (hn : n ≤ 1000000) (hmono : Rising l) :
    Calls Tryd.prog 85 #[.slice A n c, .int .i32 r] w fun e w' => e = .returned (.int .i64 (findHi l r : Int)) ∧ Only [] w w' := by
  have Hl := Lib.hid hl
  clear hl
  obtain ⟨h0, hh0⟩ : ∃ h0, h0 = w.heap.size := ⟨_, rfl⟩
  have hb1 : Blk (w.alloc (.cells #[.slice A n c] 36)) h0 36 [.slice A n c] := Blk.new' _ _ _ hh0.symm rfl
  have hb2 : Blk ((w.alloc (.cells #[.slice A n c] 36)).alloc (.cells #[.int .i32 r] 21)) (h0 + 1) 21 [.int .i32 r] := Blk.new' _ _ _ (by simp; omega) rfl
  have c1 := (hb1.alloc (.cells #[.int .i32 r] 21)).cell 0
  have c2 := hb2.cell 0
  have hr2 := (hr.alloc (.cells #[.slice A n c] 36)).alloc (.cells #[.int .i32 r] 21)
  have hO := ((Only.refl [] w).alloc (.cells #[.slice A n c] 36)).alloc (.cells #[.int .i32 r] 21)
  replace c1 : ((w.alloc (.cells #[.slice A n c] 36)).alloc (.cells #[.int .i32 r] 21)).cell? ⟨h0, 0, none⟩ = some (.slice A n c) := c1
  replace c2 : ((w.alloc (.cells #[.slice A n c] 36)).alloc (.cells #[.int .i32 r] 21)).cell? ⟨h0 + 1, 0, none⟩ = some (.int .i32 r) := c2
  clear hb1 hb2
  go_enter Tryd.func85, Tryd.ntmps85
  go_wp2_with (fail)
  rw [← hh0]
  refine (search_any n c A l r h0 (h0 + 1) _ c1 c2 B hr2 Hl.out hn hmono).mono ?_
  rintro e w2 ⟨rfl, k, rfl⟩
  go_wp2_with (fail)
  go_ret
  exact ⟨rfl, hO.drewN k⟩
end Go.Proofs.YtgohinklnglgeaaDoor

set_option linter.unusedVariables false
set_option linter.unusedSimpArgs false
namespace Go.Proofs.YtgohinklnglgeaaDoor
open Go.RowKit

/-- a right list of spans -/
structure RightL (l : List Sp) : Prop where
  each : ∀ p ∈ l, validRune p.1 = true ∧ validRune p.2 = true ∧ p.1 ≤ p.2
  order : ∀ (i j : Nat) (p q : Sp), i < j → l[i]? = some p → l[j]? = some q → p.2 < q.1
theorem RightL.rising {l : List Sp} (h : RightL l) : Rising l := by
  intro i j p q hij hp hq
  rcases Nat.lt_or_eq_of_le hij with hlt | rfl
  · have h1 := h.order i j p q hlt hp hq
    have h2 := (h.each q (List.mem_of_getElem? hq)).2.2
    omega
  · rw [hp] at hq; cases hq; exact Int.le_refl _
def inSpans (l : List Sp) (r : Int) : Bool := validRune r && l.any fun p => decide (p.1 ≤ r ∧ r ≤ p.2)
theorem findHi_le (l : List Sp) (r : Int) : findHi l r ≤ l.length := List.findIdx_le_length
theorem findHi_get {l : List Sp} {r : Int} {p : Sp} (h : l[findHi l r]? = some p) : r ≤ p.2 := by
  obtain ⟨h1, h2⟩ := List.getElem?_eq_some_iff.1 h
  have := List.findIdx_getElem (p := fun p : Sp => decide (r ≤ p.2)) (xs := l) (w := h1)
  subst h2
  simp at this; exact this
theorem any_find {l : List Sp} (h : RightL l) (r : Int) : (l.any fun p => decide (p.1 ≤ r ∧ r ≤ p.2)) = (match l[findHi l r]? with | some p => decide (p.1 ≤ r) | none => false) := by
  rw [Bool.eq_iff_iff]
  constructor
  · intro ha
    simp only [List.any_eq_true, decide_eq_true_eq] at ha
    obtain ⟨p, hp, h1, h2⟩ := ha
    obtain ⟨i, hi⟩ := List.mem_iff_getElem?.1 hp
    have e : findHi l r = i := findHi_eq (Nat.le_of_lt (List.getElem?_eq_some_iff.1 hi).1) (fun t q ht hq => by have := h.order t i q p ht hq hi; omega) (fun q hq => by rw [hi] at hq; cases hq; exact h2)
    rw [e, hi]; simpa using h1
  · intro ha
    cases hg : l[findHi l r]? with
    | none => rw [hg] at ha; simp at ha
    | some p =>
      rw [hg] at ha
      simp only [List.any_eq_true, decide_eq_true_eq] at ha ⊢
      exact ⟨p, List.mem_of_getElem? hg, ha, findHi_get hg⟩

set_option maxRecDepth 100000 in
set_option maxHeartbeats 1000000 in
theorem in_any (n c : Nat) (A : Option Addr) (l : List Sp) (r : Int) (w : World) (B : Nat) (hr : Rd w B 2 A n (ses l)) (hB : B ≤ w.heap.size) (hl : l.length = n) (hn : n ≤ 1000000) (hR : RightL l) :
    Calls Tryd.prog 87 #[.slice A n c, .int .i32 r] w fun e w' => e = .returned (.bool (inSpans l r)) ∧ Only [] w w' := by
  have hle := findHi_le l r
  rw [hl] at hle
  have haf := any_find hR r
  have hin : inSpans l r = (validRune r && (match l[findHi l r]? with | some p => decide (p.1 ≤ r) | none => false)) := by unfold inSpans; rw [haf]
  have Hin := Lib.hid hin
  have Hl := Lib.hid hl
  clear hin haf hl
  go_enter Tryd.func87, Tryd.ntmps87
  go_wp2_with (fail)
  refine (find_any n c A l r _ B hr Hl.out hn hR.rising).mono ?_
  rintro e w1 ⟨rfl, hO⟩
  replace hr := hr.only hO (by simp)
  obtain ⟨i, hi⟩ : ∃ i, i = findHi l r := ⟨_, rfl⟩
  rw [← hi] at hle ⊢
  have Hi := Lib.hid hi
  clear hi
  go_wp2_with (fail)
  refine (valid_any r _).mono ?_
  rintro e w2 ⟨rfl, rfl⟩
  obtain ⟨b, hb⟩ : ∃ b, b = validRune r := ⟨_, rfl⟩
  rw [← hb]
  have Hb := Lib.hid hb
  clear hb
  cases b with
  | false =>
    clear hr
    go_wp2_with (fail)
    go_ret
    exact ⟨ret_bool (by rw [Hin.out, ← Hb.out]; rfl), hO⟩
  | true =>
    by_cases hlt : i < n
    · obtain ⟨p, hp⟩ : ∃ p, l[i]? = some p := ⟨_, List.getElem?_eq_getElem (by rw [Hl.out]; exact hlt)⟩
      obtain ⟨g, o, rfl, _, c0, c1⟩ := hr.span hlt hp
      have Hp := Lib.hid hp
      clear hr hp
      go_wp2_with (fail)
      go_ret
      exact ⟨ret_bool (by rw [Hin.out, ← Hb.out, ← Hi.out, Hp.out]; simp), hO⟩
    · clear hr
      go_wp2_with (fail)
      go_ret
      exact ⟨ret_bool (by rw [Hin.out, ← Hb.out, ← Hi.out, List.getElem?_eq_none (by rw [Hl.out]; omega)]; rfl), hO⟩
end Go.Proofs.YtgohinklnglgeaaDoor
