/- Spans: runes, rows of spans. -/
import Derived.Test.YtodgllnmepnpfaaDoorTo
import Derived.Test.YtodgllnmepnpfaaDoorApStep
import Derived.Test.YtodgllnmepnpfaaDoorRows
import Derived.WalkKit
import Derived.Deep.DeepCutAuto
import Derived.Deep.CutBlock
set_option linter.unusedVariables false
set_option linter.unusedSimpArgs false
namespace Go.Proofs.YtodgllnmepnpfaaDoor
open Go.RowKit

def validRune (r : Int) : Bool := decide ((0 ≤ r ∧ r < 55296) ∨ (57343 < r ∧ r ≤ 1114111))
theorem valid_any (r : Int) (w : World) : Calls Tryd.prog 28 #[.int .i32 r] w fun e w' => e = .returned (.bool (validRune r)) ∧ w = w' := by
  go_enter Tryd.func28, Tryd.ntmps28
  go_wp2
  all_goals
    go_ret
    exact ⟨ret_bool (by unfold validRune; rw [Bool.eq_iff_iff]; simp at *; omega), rfl⟩
theorem refRune_any (r : Int) (w : World) : Calls Tryd.prog 41 #[.int .i32 r] w fun e w' => e = .returned (.bool (validRune r)) ∧ w = w' := by
  go_enter Tryd.func41, Tryd.ntmps41
  go_wp2
  all_goals
    go_ret
    exact ⟨ret_bool (by unfold validRune; rw [Bool.eq_iff_iff]; simp at *; omega), rfl⟩

abbrev Sp := Int × Int
def spv (p : Sp) : List Value := [.int .i32 p.1, .int .i32 p.2]
def ses (l : List Sp) : List Value := l.flatMap spv
theorem ses_length (l : List Sp) : (ses l).length = l.length * 2 := by
  induction l with
  | nil => rfl
  | cons a l ih => simp only [ses, List.flatMap_cons, List.length_append, List.length_cons] at *; rw [ih]; simp [spv]; omega
theorem ses_get (l : List Sp) (i : Nat) (p : Sp) (h : l[i]? = some p) : (ses l)[i * 2]? = some (.int .i32 p.1) ∧ (ses l)[i * 2 + 1]? = some (.int .i32 p.2) := by
  induction l generalizing i with
  | nil => simp at h
  | cons a l ih =>
    cases i with
    | zero => simp at h; subst h; simp [ses, spv]
    | succ i =>
      have := ih i (by simpa using h)
      simp only [ses, List.flatMap_cons] at this ⊢
      rw [List.getElem?_append_right (by simp [spv]; omega), List.getElem?_append_right (by simp [spv]; omega)]
      simp only [spv, List.length_cons, List.length_nil] at this ⊢
      rw [show (i + 1) * 2 - (0 + 1 + 1) = i * 2 by omega, show (i + 1) * 2 + 1 - (0 + 1 + 1) = i * 2 + 1 by omega]
      exact this
def findHi (l : List Sp) (r : Int) : Nat := l.findIdx fun p => decide (r ≤ p.2)
theorem findHi_eq {l : List Sp} {r : Int} {i : Nat} (hi : i ≤ l.length) (h1 : ∀ t p, t < i → l[t]? = some p → p.2 < r) (h2 : ∀ p, l[i]? = some p → r ≤ p.2) : findHi l r = i := by
  unfold findHi
  rcases Nat.lt_or_ge i l.length with h | h
  · rw [List.findIdx_eq h]
    refine ⟨by simpa using h2 _ (List.getElem?_eq_getElem h), fun t ht => ?_⟩
    have := h1 t _ ht (List.getElem?_eq_getElem (by omega))
    simp; omega
  · obtain rfl : i = l.length := by omega
    apply List.findIdx_eq_length_of_false
    intro x hx
    obtain ⟨t, ht, e⟩ := List.mem_iff_getElem.1 hx
    have := h1 t x ht (by rw [List.getElem?_eq_getElem ht, e])
    simp; omega

theorem Rd.span {w : World} {B n : Nat} {A : Option Addr} {l : List Sp} (h : Rd w B 2 A n (ses l)) {i : Nat} {p : Sp} (hi : i < n) (hp : l[i]? = some p) : ∃ g o, A = some ⟨g, o, none⟩ ∧ g < B ∧ w.cell? ⟨g, o + i * 2, none⟩ = some (.int .i32 p.1) ∧ w.cell? ⟨g, o + i * 2 + 1, none⟩ = some (.int .i32 p.2) := by
  obtain ⟨g, o, h1, h2, _, h3⟩ := h.addr (by omega)
  obtain ⟨e1, e2⟩ := ses_get l i p hp
  exact ⟨g, o, h1, h2, h3 _ _ e1, by rw [Nat.add_assoc]; exact h3 _ _ e2⟩

set_option maxRecDepth 100000 in
set_option maxHeartbeats 1000000 in
theorem lit_any (n c : Nat) (A : Option Addr) (l : List Sp) (r : Int) (bx bY : Nat) (w : World) (hx : w.cell? ⟨bx, 0, none⟩ = some (.slice A n c)) (hy : w.cell? ⟨bY, 0, none⟩ = some (.int .i32 r)) (B : Nat) (hr : Rd w B 2 A n (ses l)) (i : Nat) (hi : i < n) (p : Sp) (hp : l[i]? = some p) :
    Calls Tryd.prog 39 #[.int .i64 (i : Int), .pointer (some ⟨bx, 0, none⟩), .pointer (some ⟨bY, 0, none⟩)] w fun e w' => e = .returned (.bool (decide (r ≤ p.2))) ∧ ∃ k, w' = w.drewN k := by
  obtain ⟨g, o, rfl, _, c0, c1⟩ := hr.span hi hp
  clear hp hr
  go_enter Tryd.func39, Tryd.ntmps39
  go_wp2
  go_quiet (fail)
  go_wp2
  go_ret
  exact ⟨rfl, _, rfl⟩

set_option maxRecDepth 100000 in
set_option maxHeartbeats 1000000 in
theorem search_any (n c : Nat) (A : Option Addr) (l : List Sp) (r : Int) (bx bY : Nat) (w : World) (hx : w.cell? ⟨bx, 0, none⟩ = some (.slice A n c)) (hy : w.cell? ⟨bY, 0, none⟩ = some (.int .i32 r)) (B : Nat) (hr : Rd w B 2 A n (ses l)) (hl : l.length = n) (hn : n ≤ 1000000)
    (hmono : ∀ (i j : Nat) (p q : Sp), i ≤ j → l[i]? = some p → l[j]? = some q → p.2 ≤ q.2) :
    Calls Tryd.prog 38 #[.int .i64 (n : Int), .func (.func 39) #[] #[.pointer (some ⟨bx, 0, none⟩), .pointer (some ⟨bY, 0, none⟩)]] w fun e w' => e = .returned (.int .i64 (findHi l r : Int)) ∧ ∃ k, w' = w.drewN k := by
  have Hl := Lib.hid hl
  clear hl
  go_enter Tryd.func38, Tryd.ntmps38
  go_wp2_with (fail)
  go_loopw [5, 6] (fun vi vj wr => ∃ i j k : Nat, vi = .int .i64 (i : Int) ∧ vj = .int .i64 (j : Int) ∧ i ≤ j ∧ j ≤ n ∧ (∀ (t : Nat) (p : Sp), t < i → l[t]? = some p → p.2 < r) ∧ (∀ (t : Nat) (p : Sp), j ≤ t → l[t]? = some p → r ≤ p.2) ∧ wr = w.drewN k) (fun vi vj _ => (intOf vj).toNat - (intOf vi).toNat)
  case atStart => exact ⟨0, n, 0, rfl, rfl, by omega, by omega, by omega, by intro t p ht hp; have := (List.getElem?_eq_some_iff.1 hp).1; rw [Hl.out] at this; omega, rfl⟩
  case round =>
    obtain ⟨i, j, k, rfl, rfl, hij, hjn, hlo, hhi, hw⟩ := hrel
    have Hlo := Lib.hid hlo
    have Hhi := Lib.hid hhi
    have Hw := Lib.hid hw
    clear hlo hhi hw
    by_cases hlt : i < j
    · obtain ⟨m, hm⟩ : ∃ m, m = (i + j) / 2 := ⟨_, rfl⟩
      have hm2 : (((i : Int) + (j : Int)) / 2) = (m : Int) := by omega
      have hmi : i ≤ m := by omega
      have hmj : m < j := by omega
      clear hm
      obtain ⟨p, hp⟩ : ∃ p, l[m]? = some p := ⟨_, List.getElem?_eq_getElem (by rw [Hl.out]; omega)⟩
      have Hp := Lib.hid hp
      clear hp
      go_wp2_with (fail)
      refine (lit_any n c A l r bx bY _ (by rw [Hw.out]; exact hx) (by rw [Hw.out]; exact hy) B (by rw [Hw.out]; exact hr) m (by omega) p Hp.out).mono ?_
      rintro e w2 ⟨rfl, k2, rfl⟩
      by_cases hle : r ≤ p.2
      · rw [decide_eq_true hle]
        go_wp2_with (fail)
        go_roundw
        case rel => exact ⟨i, m, k + k2, rfl, rfl, hmi, by omega, Hlo.out, fun t q ht hq => Int.le_trans hle (hmono m t p q ht Hp.out hq), by rw [Hw.out, World.drewN_drewN]⟩
        case measure => simp [intOf]; omega
      · rw [decide_eq_false hle]
        go_wp2_with (fail)
        go_roundw
        case rel => exact ⟨m + 1, j, k + k2, by go_num, rfl, by omega, hjn, fun t q ht hq => by have := hmono t m q p (by omega) hq Hp.out; omega, Hhi.out, by rw [Hw.out, World.drewN_drewN]⟩
        case measure => simp [intOf]; omega
    · obtain rfl : i = j := by omega
      go_wp2_with (fail)
      go_ret
      exact ⟨by rw [findHi_eq (by rw [Hl.out]; exact hjn) Hlo.out (fun p hp => Hhi.out i p (Nat.le_refl _) hp)]; rfl, _, Hw.out⟩

/-- rows of right lists: the ends rise -/
def Rising (l : List Sp) : Prop := ∀ (i j : Nat) (p q : Sp), i ≤ j → l[i]? = some p → l[j]? = some q → p.2 ≤ q.2
set_option maxRecDepth 100000 in
set_option maxHeartbeats 1000000 in
theorem find_any (n c : Nat) (A : Option Addr) (l : List Sp) (r : Int) (w : World) (B : Nat) (hr : Rd w B 2 A n (ses l)) (hl : l.length = n) (hn : n ≤ 1000000) (hmono : Rising l) :
    Calls Tryd.prog 29 #[.slice A n c, .int .i32 r] w fun e w' => e = .returned (.int .i64 (findHi l r : Int)) ∧ Only [] w w' := by
  have Hl := Lib.hid hl
  clear hl
  obtain ⟨h0, hh0⟩ : ∃ h0, h0 = w.heap.size := ⟨_, rfl⟩
  have hb1 : Blk (w.alloc (.cells #[.slice A n c] 30)) h0 30 [.slice A n c] := Blk.new' _ _ _ hh0.symm rfl
  have hb2 : Blk ((w.alloc (.cells #[.slice A n c] 30)).alloc (.cells #[.int .i32 r] 21)) (h0 + 1) 21 [.int .i32 r] := Blk.new' _ _ _ (by simp; omega) rfl
  have c1 := (hb1.alloc (.cells #[.int .i32 r] 21)).cell 0
  have c2 := hb2.cell 0
  have hr2 := (hr.alloc (.cells #[.slice A n c] 30)).alloc (.cells #[.int .i32 r] 21)
  have hO := ((Only.refl [] w).alloc (.cells #[.slice A n c] 30)).alloc (.cells #[.int .i32 r] 21)
  replace c1 : ((w.alloc (.cells #[.slice A n c] 30)).alloc (.cells #[.int .i32 r] 21)).cell? ⟨h0, 0, none⟩ = some (.slice A n c) := c1
  replace c2 : ((w.alloc (.cells #[.slice A n c] 30)).alloc (.cells #[.int .i32 r] 21)).cell? ⟨h0 + 1, 0, none⟩ = some (.int .i32 r) := c2
  clear hb1 hb2
  go_enter Tryd.func29, Tryd.ntmps29
  go_wp2_with (fail)
  rw [← hh0]
  refine (search_any n c A l r h0 (h0 + 1) _ c1 c2 B hr2 Hl.out hn hmono).mono ?_
  rintro e w2 ⟨rfl, k, rfl⟩
  go_wp2_with (fail)
  go_ret
  exact ⟨rfl, hO.drewN k⟩
end Go.Proofs.YtodgllnmepnpfaaDoor
