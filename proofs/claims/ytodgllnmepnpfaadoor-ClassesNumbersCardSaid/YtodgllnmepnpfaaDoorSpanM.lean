/- spans.cut, Size, Meet; the reference's In, Meet. -/
import Derived.Test.YtodgllnmepnpfaaDoorSpanG
import Derived.StillTailTactics
import Derived.Laws.ResultCell
import Derived.BigRegion
set_option linter.unusedVariables false
set_option linter.unusedSimpArgs false
namespace Go.Proofs.YtodgllnmepnpfaaDoor
open Go.RowKit

set_option maxRecDepth 100000 in
set_option maxHeartbeats 2000000 in
theorem cut_any (x y : Int) (w : World) (hx : 0 ≤ x) (hxy : x ≤ y) (hy : y ≤ 1114111) :
    Calls Tryd.prog 40 #[.agg #[.int .i32 x, .int .i32 y]] w fun e w' => e = .returned (.tuple #[.agg #[.int .i32 x, .int .i32 y], .bool true]) ∧ Only [] w w' := by
  go_enter Tryd.func40, Tryd.ntmps40
  go_wp2_with (fail)
  go_region
  go_wp2_with (fail)
  (try simp only [Exit.inBlock, Exit.then])
  refine bodyPost_ret (v := .tuple #[.agg #[.int .i32 x, .int .i32 y], .bool true]) ?_ rfl ⟨rfl, (((Only.refl [] w).alloc _).alloc _).drew⟩
  rw [results_cell_tmp rfl]
  go_simp

set_option maxRecDepth 100000 in
set_option maxHeartbeats 2000000 in
theorem size_one (g o c : Nat) (x y : Int) (w : World) (h0 : w.cell? ⟨g, o, none⟩ = some (.int .i32 x)) (h1 : w.cell? ⟨g, o + 1, none⟩ = some (.int .i32 y)) (hx : validRune x = true) (hxy : x ≤ y) (hy : validRune y = true) :
    Calls Tryd.prog 30 #[.slice (some ⟨g, o, none⟩) 1 c] w fun e w' => ∃ m : Int, e = .returned (.int .i64 m) ∧ 0 < m ∧ Only [] w w' := by
  have hx0 : 0 ≤ x := by unfold validRune at hx; simp at hx; omega
  have hy0 : y ≤ 1114111 := by unfold validRune at hy; simp at hy; omega
  have hgap : (x < 55296 ∨ 57343 < x) ∧ (y < 55296 ∨ 57343 < y) := by unfold validRune at hx hy; simp at hx hy; omega
  clear hx hy
  go_enter Tryd.func30, Tryd.ntmps30
  go_wp2_with (fail)
  go_loopw [10, 3] (fun vi vm wr => Only [] w wr ∧ ((vi = .int .i64 0 ∧ vm = .int .i64 0) ∨ (vi = .int .i64 1 ∧ ∃ m : Int, 0 < m ∧ vm = .int .i64 m))) (fun vi _ _ => 1 - (intOf vi).toNat)
  case atStart => exact ⟨.refl _ _, .inl ⟨rfl, rfl⟩⟩
  case round =>
    obtain ⟨hw, ⟨rfl, rfl⟩ | ⟨rfl, m, hm, rfl⟩⟩ := hrel
    · replace h0 := hw.cellv h0 (by simp)
      replace h1 := hw.cellv h1 (by simp)
      go_wp2_with (fail)
      refine (cut_any x y _ hx0 hxy hy0).mono ?_
      rintro e w2 ⟨rfl, hO⟩
      go_wp2_with (fail)
      go_roundw
      case rel => exact ⟨((hw.alloc _).trans hO).alloc _, .inr ⟨rfl, _, by (repeat' split) <;> omega, rfl⟩⟩
      case measure => simp [intOf]
    · go_wp2_with (fail)
      go_ret
      exact ⟨m, rfl, hm, hw⟩

/-- has a span a rune in common with a list? of what is right -/
def overlaps (b : List Sp) (p : Sp) : Bool := b.any fun q => decide (q.1 ≤ p.2 ∧ p.1 ≤ q.2)
theorem overlaps_find {b : List Sp} (h : RightL b) (p : Sp) (hp : p.1 ≤ p.2) : overlaps b p = (match b[findHi b p.1]? with | some q => decide (q.1 ≤ p.2) | none => false) := by
  unfold overlaps
  rw [Bool.eq_iff_iff]
  constructor
  · intro ha
    simp only [List.any_eq_true, decide_eq_true_eq] at ha
    obtain ⟨q, hq, h1, h2⟩ := ha
    obtain ⟨i, hi⟩ := List.mem_iff_getElem?.1 hq
    have hil := (List.getElem?_eq_some_iff.1 hi).1
    cases hg : b[findHi b p.1]? with
    | none =>
      exfalso
      have hle : b.length ≤ findHi b p.1 := by simpa using hg
      have := List.findIdx_eq_length.1 (Nat.le_antisymm (findHi_le b p.1) hle)
      have := this q hq
      simp at this; omega
    | some z =>
      rcases Nat.lt_trichotomy i (findHi b p.1) with hlt | heq | hgt
      · have := List.not_of_lt_findIdx (p := fun p' : Sp => decide (p.1 ≤ p'.2)) (xs := b) (i := i) hlt
        rw [(List.getElem?_eq_some_iff.1 hi).2] at this
        simp at this; omega
      · rw [← heq, hi] at hg; cases hg; simpa using h1
      · have := h.order _ _ z q hgt hg hi
        have := (h.each z (List.mem_of_getElem? hg)).2.2
        simp; omega
  · intro ha
    cases hg : b[findHi b p.1]? with
    | none => rw [hg] at ha; simp at ha
    | some q =>
      rw [hg] at ha
      simp only [List.any_eq_true, decide_eq_true_eq] at ha ⊢
      exact ⟨q, List.mem_of_getElem? hg, ha, findHi_get hg⟩
/-- the first span of a list that meets another list, from row i on -/
def meetFrom (b : List Sp) : Nat → List Sp → Option Nat
  | _, [] => none
  | i, p :: l => if overlaps b p = true then some i else meetFrom b (i + 1) l
theorem meet_step (b : List Sp) {l : List Sp} {k : Nat} {p : Sp} (hp : l[k]? = some p) : meetFrom b k (l.drop k) = (if overlaps b p = true then some k else meetFrom b (k + 1) (l.drop (k + 1))) := by
  have hk := (List.getElem?_eq_some_iff.1 hp).1
  have e : l.drop k = p :: l.drop (k + 1) := by
    rw [List.drop_eq_getElem_cons hk]; congr 1; exact (List.getElem?_eq_some_iff.1 hp).2
  rw [e, meetFrom]
theorem meet_end (b l : List Sp) (k : Nat) (h : l.length ≤ k) : meetFrom b k (l.drop k) = none := by
  rw [List.drop_eq_nil_of_le h]; rfl
def metV (o : Option Nat) : Value := .tuple #[.int .i64 ((o.getD 0 : Nat) : Int), .bool o.isSome]

end Go.Proofs.YtodgllnmepnpfaaDoor
