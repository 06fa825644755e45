/- Several texts in one: spans.Right, the reference's Right.; spans.Right.; spans.cut, Size, Meet; the reference's In, Meet.; The reference's In and Meet.; spans.Meet over right lists. -/
import Derived.Test.YtgohinklnglgeaaDoorPk5
import Derived.Deep.QuietTactic
import Derived.BigQuiet
import Derived.Deep.DeepBigQuietO
import Derived.StillTailTactics
import Derived.Laws.ResultCell
import Derived.BigRegion
set_option linter.unusedVariables false
set_option linter.unusedSimpArgs false
namespace Go.Proofs.YtgohinklnglgeaaDoor
open Go.RowKit

/-- the first row that may not be, and why -/
def rightFrom : Option Int → Nat → List Sp → Nat × Nat
  | _, _, [] => (0, 0)
  | prev, i, p :: l => if (validRune p.1 && validRune p.2) = false then (i, 14) else if p.2 < p.1 ∨ (∃ h, prev = some h ∧ p.1 ≤ h) then (i, 15) else rightFrom (some p.2) (i + 1) l
def prevAt (l : List Sp) (k : Nat) : Option Int := if k = 0 then none else (l[k - 1]?).map (·.2)
theorem right_step {l : List Sp} {k : Nat} {p : Sp} (hp : l[k]? = some p) : rightFrom (prevAt l k) k (l.drop k) = (if (validRune p.1 && validRune p.2) = false then (k, 14) else if p.2 < p.1 ∨ (∃ h, prevAt l k = some h ∧ p.1 ≤ h) then (k, 15) else rightFrom (prevAt l (k + 1)) (k + 1) (l.drop (k + 1))) := by
  have hk := (List.getElem?_eq_some_iff.1 hp).1
  have e : l.drop k = p :: l.drop (k + 1) := by
    rw [List.drop_eq_getElem_cons hk]; congr 1; exact (List.getElem?_eq_some_iff.1 hp).2
  have e2 : prevAt l (k + 1) = some p.2 := by unfold prevAt; rw [if_neg (by omega), Nat.add_sub_cancel, hp]; rfl
  rw [e, rightFrom, e2]
theorem right_end (l : List Sp) (k : Nat) (h : l.length ≤ k) : rightFrom (prevAt l k) k (l.drop k) = (0, 0) := by
  rw [List.drop_eq_nil_of_le h]; rfl

set_option maxRecDepth 100000 in
set_option maxHeartbeats 2000000 in
theorem refRight_any (n c : Nat) (A : Option Addr) (l : List Sp) (w : World) (B : Nat) (hr : Rd w B 2 A n (ses l)) (hl : l.length = n) (hn : n ≤ 140737488351232) :
    Calls Tryd.prog 79 #[.slice A n c] w fun e w' => e = .returned (.tuple #[.int .i64 ((rightFrom none 0 l).1 : Int), .int .i64 ((rightFrom none 0 l).2 : Int)]) ∧ ∃ k, w' = w.drewN k := by
  have Hl := Lib.hid hl
  clear hl
  go_enter Tryd.func79, Tryd.ntmps79
  go_wp2_with (fail)
  go_loopw [4] (fun vi wr => ∃ i k : Nat, vi = .int .i64 (i : Int) ∧ i ≤ n ∧ rightFrom (prevAt l i) i (l.drop i) = rightFrom none 0 l ∧ wr = w.drewN k) (fun vi _ => n - (intOf vi).toNat)
  case atStart => exact ⟨0, 0, rfl, by omega, rfl, rfl⟩
  case round =>
    obtain ⟨i, k, rfl, hi, hq, hw⟩ := hrel
    have Hq := Lib.hid hq
    have Hw := Lib.hid hw
    clear hq hw
    by_cases hlt : i < n
    · obtain ⟨p, hp⟩ : ∃ p, l[i]? = some p := ⟨_, List.getElem?_eq_getElem (by rw [Hl.out]; exact hlt)⟩
      have hst := right_step hp
      rw [Hq.out] at hst
      obtain ⟨g, o, rfl, _, c0, c1⟩ := (show Rd wr B 2 A n (ses l) by rw [Hw.out]; exact hr).span hlt hp
      have Hst := Lib.hid hst
      have Hp := Lib.hid hp
      clear hst hp
      go_wp2_with (fail)
      refine (refRune_any p.1 _).mono ?_
      rintro e w2 ⟨rfl, rfl⟩
      obtain ⟨b1, hb1⟩ : ∃ b, b = validRune p.1 := ⟨_, rfl⟩
      obtain ⟨b2, hb2⟩ : ∃ b, b = validRune p.2 := ⟨_, rfl⟩
      rw [← hb1]
      have Hb1 := Lib.hid hb1
      have Hb2 := Lib.hid hb2
      clear hb1 hb2
      cases b1 with
      | false =>
        go_wp2_with (fail)
        go_ret2
        exact ⟨by rw [Hst.out, ← Hb1.out, if_pos (by simp)]; rfl, _, Hw.out⟩
      | true =>
        go_wp2_with (fail)
        refine (refRune_any p.2 _).mono ?_
        rintro e w2 ⟨rfl, rfl⟩
        rw [← Hb2.out]
        cases b2 with
        | false =>
          go_wp2_with (fail)
          go_ret2
          exact ⟨by rw [Hst.out, ← Hb1.out, ← Hb2.out, if_pos (by simp)]; rfl, _, Hw.out⟩
        | true =>
          by_cases hA : p.2 < p.1
          · go_upto_region 6 with (fail)
            go_quiet (fail)
            go_wp2_with (fail)
            go_ret2
            exact ⟨by rw [Hst.out, ← Hb1.out, ← Hb2.out, if_neg (by simp), if_pos (.inl hA)]; rfl, _, by rw [Hw.out, World.drewN_drewN]⟩
          · have dA : decide (p.2 < p.1) = false := decide_eq_false hA
            by_cases h0 : 0 < (i : Int)
            · obtain ⟨q, hq⟩ : ∃ q, l[i - 1]? = some q := ⟨_, List.getElem?_eq_getElem (by rw [Hl.out]; omega)⟩
              obtain ⟨_, _, e0, _, d0, d1⟩ := (show Rd wr B 2 (some ⟨g, o, none⟩) n (ses l) by rw [Hw.out]; exact hr).span (show i - 1 < n by omega) hq
              cases e0
              have hsub : ((i : Int) - 1) = ((i - 1 : Nat) : Int) := by omega
              obtain ⟨m, hm⟩ : ∃ m, m = i - 1 := ⟨_, rfl⟩
              rw [← hm] at hsub d0 d1 hq
              have Hm := Lib.hid hm
              have Hq2 := Lib.hid hq
              clear hm hq
              have hpv : prevAt l i = some q.2 := by unfold prevAt; rw [if_neg (by omega), ← Hm.out, Hq2.out]; rfl
              have Hpv := Lib.hid hpv
              clear hpv
              have d0 : decide (0 < i) = true := decide_eq_true (by omega)
              by_cases hB : p.1 ≤ q.2
              · go_upto_region 6 with (fail)
                go_quiet (fail)
                go_wp2_with (fail)
                go_ret2
                exact ⟨by rw [Hst.out, ← Hb1.out, ← Hb2.out, if_neg (by simp), if_pos (.inr ⟨_, Hpv.out, hB⟩)]; rfl, _, by rw [Hw.out, World.drewN_drewN]⟩
              · have dB : decide (p.1 ≤ q.2) = false := decide_eq_false hB
                go_upto_region 6 with (fail)
                go_quiet (fail)
                go_wp2_with (fail)
                go_roundw
                case rel => exact ⟨i + 1, _, by go_num, by omega, by rw [Hst.out, ← Hb1.out, ← Hb2.out, if_neg (by simp), if_neg (by rintro (h | ⟨h, e, h2⟩) <;> first | omega | (rw [Hpv.out] at e; cases e; omega))], by rw [Hw.out, World.drewN_drewN]⟩
                case measure => simp [intOf]; omega
            · have d0 : decide (0 < i) = false := decide_eq_false (by omega)
              have Hi0 : RowKit.Hid (i = 0) := Lib.hid (by omega)
              clear h0
              go_upto_region 6 with (fail)
              go_quiet (fail)
              go_wp2_with (fail)
              go_roundw
              case rel => exact ⟨i + 1, _, by go_num, by omega, by rw [Hst.out, ← Hb1.out, ← Hb2.out, if_neg (by simp), if_neg (by rintro (h | ⟨h, e, _⟩) <;> first | omega | (simp [prevAt, Hi0.out] at e))], by rw [Hw.out, World.drewN_drewN]⟩
              case measure => simp [intOf]; omega
    · obtain rfl : i = n := by omega
      go_wp2_with (fail)
      go_ret2
      exact ⟨by rw [← Hq.out, right_end l i (by rw [Hl.out]; omega)]; rfl, _, Hw.out⟩
end Go.Proofs.YtgohinklnglgeaaDoor

set_option linter.unusedVariables false
set_option linter.unusedSimpArgs false
namespace Go.Proofs.YtgohinklnglgeaaDoor
open Go.RowKit

set_option maxRecDepth 100000 in
set_option maxHeartbeats 2000000 in
theorem right_any (n c : Nat) (A : Option Addr) (l : List Sp) (w : World) (B : Nat) (hr : Rd w B 2 A n (ses l)) (hB : B ≤ w.heap.size) (hl : l.length = n) (hn : n ≤ 140737488351232) :
    Calls Tryd.prog 73 #[.slice A n c] w fun e w' => e = .returned (.tuple #[.int .i64 ((rightFrom none 0 l).1 : Int), .int .i64 ((rightFrom none 0 l).2 : Int)]) ∧ Only [] w w' := by
  have Hl := Lib.hid hl
  clear hl
  go_enter Tryd.func73, Tryd.ntmps73
  go_wp2_with (fail)
  go_loopw [8] (fun vi wr => ∃ i : Nat, vi = .int .i64 (i : Int) ∧ i ≤ n ∧ rightFrom (prevAt l i) i (l.drop i) = rightFrom none 0 l ∧ Only [] w wr) (fun vi _ => n - (intOf vi).toNat)
  case atStart => exact ⟨0, rfl, by omega, rfl, .refl _ _⟩
  case round =>
    obtain ⟨i, rfl, hi, hq, hw⟩ := hrel
    have Hq := Lib.hid hq
    clear hq
    by_cases hlt : i < n
    · obtain ⟨p, hp⟩ : ∃ p, l[i]? = some p := ⟨_, List.getElem?_eq_getElem (by rw [Hl.out]; exact hlt)⟩
      have hst := right_step hp
      rw [Hq.out] at hst
      obtain ⟨g, o, rfl, _, c0, c1⟩ := (hr.only hw (by simp)).span hlt hp
      have Hst := Lib.hid hst
      have Hp := Lib.hid hp
      clear hst hp
      go_wp2_with (fail)
      obtain ⟨h0, hh0⟩ : ∃ h0, h0 = wr.heap.size := ⟨_, rfl⟩
      have hb : Blk (wr.alloc (.cells #[.int .i32 p.1, .int .i32 p.2] 70)) h0 70 [.int .i32 p.1, .int .i32 p.2] := Blk.new' _ _ _ hh0.symm rfl
      have hO := hw.alloc (.cells #[.int .i32 p.1, .int .i32 p.2] 70)
      rw [← hh0]
      refine (valid_any p.1 _).mono ?_
      rintro e w2 ⟨rfl, h2⟩
      rw [h2] at hb hO
      have H2 := Lib.hid h2
      clear h2 c0 c1 hw hh0
      have c0 := hb.cell 0
      have c1 := hb.cell 1
      replace c0 : w2.cell? ⟨h0, 0, none⟩ = some (.int .i32 p.1) := c0
      replace c1 : w2.cell? ⟨h0, 1, none⟩ = some (.int .i32 p.2) := c1
      obtain ⟨b1, hb1⟩ : ∃ b, b = validRune p.1 := ⟨_, rfl⟩
      obtain ⟨b2, hb2⟩ : ∃ b, b = validRune p.2 := ⟨_, rfl⟩
      rw [← hb1]
      have Hb1 := Lib.hid hb1
      have Hb2 := Lib.hid hb2
      clear hb1 hb2
      cases b1 with
      | false =>
        go_wp2_with (fail)
        go_ret2
        exact ⟨by rw [Hst.out, ← Hb1.out, if_pos (by simp)]; rfl, hO⟩
      | true =>
        go_wp2_with (fail)
        refine (valid_any p.2 _).mono ?_
        rintro e w3 ⟨rfl, rfl⟩
        rw [← Hb2.out]
        cases b2 with
        | false =>
          go_wp2_with (fail)
          go_ret2
          exact ⟨by rw [Hst.out, ← Hb1.out, ← Hb2.out, if_pos (by simp)]; rfl, hO⟩
        | true =>
          by_cases hA : p.2 < p.1
          · go_upto_region 6 with (fail)
            go_quiet (fail)
            go_wp2_with (fail)
            go_ret2
            exact ⟨by rw [Hst.out, ← Hb1.out, ← Hb2.out, if_neg (by simp), if_pos (.inl hA)]; rfl, hO.drewN _⟩
          · have dA : decide (p.2 < p.1) = false := decide_eq_false hA
            by_cases h0 : 0 < (i : Int)
            · obtain ⟨q, hq⟩ : ∃ q, l[i - 1]? = some q := ⟨_, List.getElem?_eq_getElem (by rw [Hl.out]; omega)⟩
              obtain ⟨_, _, e0, _, d0, d1⟩ := (hr.only hO (by simp)).span (show i - 1 < n by omega) hq
              cases e0
              have hsub : ((i : Int) - 1) = ((i - 1 : Nat) : Int) := by omega
              obtain ⟨m, hm⟩ : ∃ m, m = i - 1 := ⟨_, rfl⟩
              rw [← hm] at hsub d0 d1 hq
              have Hm := Lib.hid hm
              have Hq2 := Lib.hid hq
              clear hm hq
              have hpv : prevAt l i = some q.2 := by unfold prevAt; rw [if_neg (by omega), ← Hm.out, Hq2.out]; rfl
              have Hpv := Lib.hid hpv
              clear hpv
              have d0 : decide (0 < i) = true := decide_eq_true (by omega)
              by_cases hB : p.1 ≤ q.2
              · go_upto_region 6 with (fail)
                go_quiet (fail)
                go_wp2_with (fail)
                go_ret2
                exact ⟨by rw [Hst.out, ← Hb1.out, ← Hb2.out, if_neg (by simp), if_pos (.inr ⟨_, Hpv.out, hB⟩)]; rfl, hO.drewN _⟩
              · have dB : decide (p.1 ≤ q.2) = false := decide_eq_false hB
                go_upto_region 6 with (fail)
                go_quiet (fail)
                go_wp2_with (fail)
                go_roundw
                case rel => exact ⟨i + 1, by go_num, by omega, by rw [Hst.out, ← Hb1.out, ← Hb2.out, if_neg (by simp), if_neg (by rintro (h | ⟨h, e, h2⟩) <;> first | omega | (rw [Hpv.out] at e; cases e; omega))], hO.drewN _⟩
                case measure => simp [intOf]; omega
            · have d0 : decide (0 < i) = false := decide_eq_false (by omega)
              have Hi0 : RowKit.Hid (i = 0) := Lib.hid (by omega)
              clear h0
              go_upto_region 6 with (fail)
              go_quiet (fail)
              go_wp2_with (fail)
              go_roundw
              case rel => exact ⟨i + 1, by go_num, by omega, by rw [Hst.out, ← Hb1.out, ← Hb2.out, if_neg (by simp), if_neg (by rintro (h | ⟨h, e, _⟩) <;> first | omega | (simp [prevAt, Hi0.out] at e))], hO.drewN _⟩
              case measure => simp [intOf]; omega
    · obtain rfl : i = n := by omega
      go_wp2_with (fail)
      go_ret2
      exact ⟨by rw [← Hq.out, right_end l i (by rw [Hl.out]; omega)]; rfl, hw⟩
end Go.Proofs.YtgohinklnglgeaaDoor

set_option linter.unusedVariables false
set_option linter.unusedSimpArgs false
namespace Go.Proofs.YtgohinklnglgeaaDoor
open Go.RowKit

set_option maxRecDepth 100000 in
set_option maxHeartbeats 2000000 in
theorem cut_any (x y : Int) (w : World) (hx : 0 ≤ x) (hxy : x ≤ y) (hy : y ≤ 1114111) :
    Calls Tryd.prog 92 #[.agg #[.int .i32 x, .int .i32 y]] w fun e w' => e = .returned (.tuple #[.agg #[.int .i32 x, .int .i32 y], .bool true]) ∧ Only [] w w' := by
  go_enter Tryd.func92, Tryd.ntmps92
  go_wp2_with (fail)
  go_region
  go_wp2_with (fail)
  (try simp only [Exit.inBlock, Exit.then])
  refine bodyPost_ret (v := .tuple #[.agg #[.int .i32 x, .int .i32 y], .bool true]) ?_ rfl ⟨rfl, (((Only.refl [] w).alloc _).alloc _).drew⟩
  rw [results_cell_tmp rfl]
  go_simp

set_option maxRecDepth 100000 in
set_option maxHeartbeats 2000000 in
theorem size_one (g o c : Nat) (x y : Int) (w : World) (h0 : w.cell? ⟨g, o, none⟩ = some (.int .i32 x)) (h1 : w.cell? ⟨g, o + 1, none⟩ = some (.int .i32 y)) (hx : validRune x = true) (hxy : x ≤ y) (hy : validRune y = true) :
    Calls Tryd.prog 86 #[.slice (some ⟨g, o, none⟩) 1 c] w fun e w' => ∃ m : Int, e = .returned (.int .i64 m) ∧ 0 < m ∧ Only [] w w' := by
  have hx0 : 0 ≤ x := by unfold validRune at hx; simp at hx; omega
  have hy0 : y ≤ 1114111 := by unfold validRune at hy; simp at hy; omega
  have hgap : (x < 55296 ∨ 57343 < x) ∧ (y < 55296 ∨ 57343 < y) := by unfold validRune at hx hy; simp at hx hy; omega
  clear hx hy
  go_enter Tryd.func86, Tryd.ntmps86
  go_wp2_with (fail)
  go_loopw [10, 3] (fun vi vm wr => Only [] w wr ∧ ((vi = .int .i64 0 ∧ vm = .int .i64 0) ∨ (vi = .int .i64 1 ∧ ∃ m : Int, 0 < m ∧ vm = .int .i64 m))) (fun vi _ _ => 1 - (intOf vi).toNat)
  case atStart => exact ⟨.refl _ _, .inl ⟨rfl, rfl⟩⟩
  case round =>
    obtain ⟨hw, ⟨rfl, rfl⟩ | ⟨rfl, m, hm, rfl⟩⟩ := hrel
    · replace h0 := hw.cellv h0 (by simp)
      replace h1 := hw.cellv h1 (by simp)
      go_wp2_with (fail)
      refine (cut_any x y _ hx0 hxy hy0).mono ?_
      rintro e w2 ⟨rfl, hO⟩
      go_wp2_with (fail)
      go_roundw
      case rel => exact ⟨((hw.alloc _).trans hO).alloc _, .inr ⟨rfl, _, by (repeat' split) <;> omega, rfl⟩⟩
      case measure => simp [intOf]
    · go_wp2_with (fail)
      go_ret
      exact ⟨m, rfl, hm, hw⟩

/-- has a span a rune in common with a list? of what is right -/
def overlaps (b : List Sp) (p : Sp) : Bool := b.any fun q => decide (q.1 ≤ p.2 ∧ p.1 ≤ q.2)
theorem overlaps_find {b : List Sp} (h : RightL b) (p : Sp) (hp : p.1 ≤ p.2) : overlaps b p = (match b[findHi b p.1]? with | some q => decide (q.1 ≤ p.2) | none => false) := by
  unfold overlaps
  rw [Bool.eq_iff_iff]
  constructor
  · intro ha
    simp only [List.any_eq_true, decide_eq_true_eq] at ha
    obtain ⟨q, hq, h1, h2⟩ := ha
    obtain ⟨i, hi⟩ := List.mem_iff_getElem?.1 hq
    have hil := (List.getElem?_eq_some_iff.1 hi).1
    cases hg : b[findHi b p.1]? with
    | none =>
      exfalso
      have hle : b.length ≤ findHi b p.1 := by simpa using hg
      have := List.findIdx_eq_length.1 (Nat.le_antisymm (findHi_le b p.1) hle)
      have := this q hq
      simp at this; omega
    | some z =>
      rcases Nat.lt_trichotomy i (findHi b p.1) with hlt | heq | hgt
      · have := List.not_of_lt_findIdx (p := fun p' : Sp => decide (p.1 ≤ p'.2)) (xs := b) (i := i) hlt
        rw [(List.getElem?_eq_some_iff.1 hi).2] at this
        simp at this; omega
      · rw [← heq, hi] at hg; cases hg; simpa using h1
      · have := h.order _ _ z q hgt hg hi
        have := (h.each z (List.mem_of_getElem? hg)).2.2
        simp; omega
  · intro ha
    cases hg : b[findHi b p.1]? with
    | none => rw [hg] at ha; simp at ha
    | some q =>
      rw [hg] at ha
      simp only [List.any_eq_true, decide_eq_true_eq] at ha ⊢
      exact ⟨q, List.mem_of_getElem? hg, ha, findHi_get hg⟩
/-- the first span of a list that meets another list, from row i on -/
def meetFrom (b : List Sp) : Nat → List Sp → Option Nat
  | _, [] => none
  | i, p :: l => if overlaps b p = true then some i else meetFrom b (i + 1) l
theorem meet_step (b : List Sp) {l : List Sp} {k : Nat} {p : Sp} (hp : l[k]? = some p) : meetFrom b k (l.drop k) = (if overlaps b p = true then some k else meetFrom b (k + 1) (l.drop (k + 1))) := by
  have hk := (List.getElem?_eq_some_iff.1 hp).1
  have e : l.drop k = p :: l.drop (k + 1) := by
    rw [List.drop_eq_getElem_cons hk]; congr 1; exact (List.getElem?_eq_some_iff.1 hp).2
  rw [e, meetFrom]
theorem meet_end (b l : List Sp) (k : Nat) (h : l.length ≤ k) : meetFrom b k (l.drop k) = none := by
  rw [List.drop_eq_nil_of_le h]; rfl
def metV (o : Option Nat) : Value := .tuple #[.int .i64 ((o.getD 0 : Nat) : Int), .bool o.isSome]

end Go.Proofs.YtgohinklnglgeaaDoor

set_option linter.unusedVariables false
set_option linter.unusedSimpArgs false
namespace Go.Proofs.YtgohinklnglgeaaDoor
open Go.RowKit

set_option maxRecDepth 100000 in
set_option maxHeartbeats 2000000 in
theorem refIn_any (n c : Nat) (A : Option Addr) (l : List Sp) (r : Int) (w : World) (B : Nat) (hr : Rd w B 2 A n (ses l)) (hl : l.length = n) (hn : n ≤ 140737488351232) :
    Calls Tryd.prog 81 #[.slice A n c, .int .i32 r] w fun e w' => e = .returned (.bool (inSpans l r)) ∧ w' = w := by
  have Hl := Lib.hid hl
  clear hl
  go_enter Tryd.func81, Tryd.ntmps81
  go_wp2_with (fail)
  go_loop [5] (fun vi => ∃ i : Nat, vi = .int .i64 (i : Int) ∧ i ≤ n ∧ (∀ (t : Nat) (z : Sp), t < i → l[t]? = some z → ¬ (z.1 ≤ r ∧ r ≤ z.2))) (fun vi => n - (intOf vi).toNat)
  case atStart => exact ⟨0, rfl, by omega, fun t z ht => absurd ht (by omega)⟩
  case round =>
    obtain ⟨i, rfl, hi, hno⟩ := hrel
    have Hno := Lib.hid hno
    clear hno
    by_cases hlt : i < n
    · obtain ⟨p, hp⟩ : ∃ p, l[i]? = some p := ⟨_, List.getElem?_eq_getElem (by rw [Hl.out]; exact hlt)⟩
      obtain ⟨g, o, rfl, _, c0, c1⟩ := hr.span hlt hp
      have Hp := Lib.hid hp
      clear hp
      by_cases hA : p.1 ≤ r
      · by_cases hB : r ≤ p.2
        · go_wp2_with (fail)
          refine (refRune_any r _).mono ?_
          rintro e w2 ⟨rfl, rfl⟩
          go_wp2_with (fail)
          go_ret
          exact ⟨ret_bool (by unfold inSpans; rw [List.any_eq_true.2 ⟨p, List.mem_of_getElem? Hp.out, by simp; omega⟩, Bool.and_true]), rfl⟩
        · go_wp2_with (fail)
          go_round
          case rel => exact ⟨i + 1, by go_num, by omega, fun t z ht hz => by
            rcases Nat.lt_or_eq_of_le (Nat.lt_succ_iff.1 ht) with h | rfl
            · exact Hno.out t z h hz
            · rw [Hp.out] at hz; cases hz; omega⟩
          case measure => simp [intOf]; omega
      · go_wp2_with (fail)
        go_round
        case rel => exact ⟨i + 1, by go_num, by omega, fun t z ht hz => by
          rcases Nat.lt_or_eq_of_le (Nat.lt_succ_iff.1 ht) with h | rfl
          · exact Hno.out t z h hz
          · rw [Hp.out] at hz; cases hz; omega⟩
        case measure => simp [intOf]; omega
    · obtain rfl : i = n := by omega
      go_wp2_with (fail)
      go_ret
      refine ⟨ret_bool ?_, rfl⟩
      unfold inSpans
      rw [List.any_eq_false.2, Bool.and_false]
      intro z hz
      obtain ⟨t, ht⟩ := List.mem_iff_getElem?.1 hz
      have := Hno.out t z (by have := (List.getElem?_eq_some_iff.1 ht).1; rw [Hl.out] at this; exact this) ht
      simpa using this

set_option maxRecDepth 100000 in
set_option maxHeartbeats 4000000 in
theorem refMeet_any (n c m d : Nat) (A A' : Option Addr) (l b : List Sp) (w : World) (B : Nat) (hr : Rd w B 2 A n (ses l)) (hr' : Rd w B 2 A' m (ses b)) (hl : l.length = n) (hb : b.length = m) (hn : n ≤ 1000000) (hm : m ≤ 1000000) (hL : RightL l) (hR : RightL b) :
    Calls Tryd.prog 80 #[.slice A n c, .slice A' m d] w fun e w' => e = .returned (metV (meetFrom b 0 l)) ∧ w' = w := by
  have Hl := Lib.hid hl
  have Hb := Lib.hid hb
  clear hl hb
  go_enter Tryd.func80, Tryd.ntmps80
  go_wp2_with (fail)
  go_loop [6] (fun vi => ∃ i : Nat, vi = .int .i64 (i : Int) ∧ i ≤ n ∧ meetFrom b i (l.drop i) = meetFrom b 0 l) (fun vi => n - (intOf vi).toNat)
  case atStart => exact ⟨0, rfl, by omega, rfl⟩
  case round =>
    obtain ⟨i, rfl, hi, hq⟩ := hrel
    have Hq := Lib.hid hq
    clear hq
    by_cases hlt : i < n
    · obtain ⟨p, hp⟩ : ∃ p, l[i]? = some p := ⟨_, List.getElem?_eq_getElem (by rw [Hl.out]; exact hlt)⟩
      have hst := meet_step b hp
      have hpv := hL.each p (List.mem_of_getElem? hp)
      obtain ⟨g, o, rfl, _, c0, c1⟩ := hr.span hlt hp
      have Hst := Lib.hid hst
      have Hp := Lib.hid hp
      have Hpv1 := Lib.hid hpv.1
      have hpl := hpv.2.2
      clear hst hp hpv
      go_wp2_with (fail)
      go_loop [7] (fun vj => ∃ j : Nat, vj = .int .i64 (j : Int) ∧ j ≤ m ∧ (∀ (t : Nat) (z : Sp), t < j → b[t]? = some z → ¬ (z.1 ≤ p.2 ∧ p.1 ≤ z.2))) (fun vj => m - (intOf vj).toNat)
      case atStart => exact ⟨0, rfl, by omega, fun t z ht => absurd ht (by omega)⟩
      case round =>
        obtain ⟨j, rfl, hj, hno⟩ := hrel
        have Hno := Lib.hid hno
        clear hno
        by_cases hjm : j < m
        · obtain ⟨q, hq⟩ : ∃ q, b[j]? = some q := ⟨_, List.getElem?_eq_getElem (by rw [Hb.out]; exact hjm)⟩
          have hqv := hR.each q (List.mem_of_getElem? hq)
          have hov : q.1 ≤ p.2 ∧ p.1 ≤ q.2 → (if overlaps b p = true then some i else meetFrom b (i + 1) (l.drop (i + 1))) = some i := fun h => if_pos (by unfold overlaps; rw [List.any_eq_true]; exact ⟨q, List.mem_of_getElem? hq, by simp; exact h⟩)
          obtain ⟨g', o', rfl, _, d0, d1⟩ := hr'.span hjm hq
          have Hq2 := Lib.hid hq
          have Hqv1 := Lib.hid hqv.1
          have Hov := Lib.hid hov
          have hql := hqv.2.2
          clear hov hq hqv
          by_cases hA : p.1 < q.1
          · by_cases hB : q.2 < p.2
            · go_wp2_with (fail)
              refine (refRune_any _ _).mono ?_
              rintro e w2 ⟨rfl, rfl⟩
              rw [show validRune q.1 = true from Hqv1.out]
              go_wp2_with (fail)
              go_ret2
              exact ⟨by rw [← Hq.out, Hst.out, Hov.out (by omega)]; rfl, rfl⟩
            · by_cases hC : q.1 ≤ p.2
              · go_wp2_with (fail)
                refine (refRune_any _ _).mono ?_
                rintro e w2 ⟨rfl, rfl⟩
                rw [show validRune q.1 = true from Hqv1.out]
                go_wp2_with (fail)
                go_ret2
                exact ⟨by rw [← Hq.out, Hst.out, Hov.out (by omega)]; rfl, rfl⟩
              · go_wp2_with (fail)
                go_round
                case rel => exact ⟨j + 1, by go_num, by omega, fun t z ht hz => by
                  rcases Nat.lt_or_eq_of_le (Nat.lt_succ_iff.1 ht) with h | rfl
                  · exact Hno.out t z h hz
                  · rw [Hq2.out] at hz; cases hz; omega⟩
                case measure => simp [intOf]; omega
          · by_cases hB : q.2 < p.2
            · by_cases hC : p.1 ≤ q.2
              · go_wp2_with (fail)
                refine (refRune_any _ _).mono ?_
                rintro e w2 ⟨rfl, rfl⟩
                rw [show validRune p.1 = true from Hpv1.out]
                go_wp2_with (fail)
                go_ret2
                exact ⟨by rw [← Hq.out, Hst.out, Hov.out (by omega)]; rfl, rfl⟩
              · go_wp2_with (fail)
                go_round
                case rel => exact ⟨j + 1, by go_num, by omega, fun t z ht hz => by
                  rcases Nat.lt_or_eq_of_le (Nat.lt_succ_iff.1 ht) with h | rfl
                  · exact Hno.out t z h hz
                  · rw [Hq2.out] at hz; cases hz; omega⟩
                case measure => simp [intOf]; omega
            · go_wp2_with (fail)
              refine (refRune_any _ _).mono ?_
              rintro e w2 ⟨rfl, rfl⟩
              rw [show validRune p.1 = true from Hpv1.out]
              go_wp2_with (fail)
              go_ret2
              exact ⟨by rw [← Hq.out, Hst.out, Hov.out (by omega)]; rfl, rfl⟩
        · obtain rfl : j = m := by omega
          have hov : overlaps b p = false := by
            unfold overlaps
            rw [List.any_eq_false]
            intro z hz
            obtain ⟨t, ht⟩ := List.mem_iff_getElem?.1 hz
            have := Hno.out t z (by have := (List.getElem?_eq_some_iff.1 ht).1; rw [Hb.out] at this; exact this) ht
            simpa using this
          have Hov := Lib.hid hov
          clear hov
          go_wp2_with (fail)
          go_round
          case rel => exact ⟨i + 1, by go_num, by omega, by rw [← Hq.out, Hst.out, Hov.out, if_neg (by simp)]⟩
          case measure => simp [intOf]; omega
    · obtain rfl : i = n := by omega
      go_wp2_with (fail)
      go_ret2
      exact ⟨by rw [← Hq.out, meet_end b l i (by rw [Hl.out]; omega)]; rfl, rfl⟩
end Go.Proofs.YtgohinklnglgeaaDoor

set_option linter.unusedVariables false
set_option linter.unusedSimpArgs false
namespace Go.Proofs.YtgohinklnglgeaaDoor
open Go.RowKit

set_option maxRecDepth 100000 in
set_option maxHeartbeats 4000000 in
theorem meet_any (n c m d : Nat) (A A' : Option Addr) (l b : List Sp) (w : World) (B : Nat) (hr : Rd w B 2 A n (ses l)) (hr' : Rd w B 2 A' m (ses b)) (hB : B ≤ w.heap.size) (hl : l.length = n) (hb : b.length = m) (hn : n ≤ 1000000) (hm : m ≤ 1000000) (hL : RightL l) (hR : RightL b) :
    Calls Tryd.prog 74 #[.slice A n c, .slice A' m d] w fun e w' => e = .returned (metV (meetFrom b 0 l)) ∧ Only [] w w' := by
  have Hl := Lib.hid hl
  have Hb := Lib.hid hb
  clear hl hb
  go_enter Tryd.func74, Tryd.ntmps74
  go_wp2_with (fail)
  go_loopw [12] (fun vi wr => ∃ i : Nat, vi = .int .i64 (i : Int) ∧ i ≤ n ∧ meetFrom b i (l.drop i) = meetFrom b 0 l ∧ Only [] w wr) (fun vi _ => n - (intOf vi).toNat)
  case atStart => exact ⟨0, rfl, by omega, rfl, .refl _ _⟩
  case round =>
    obtain ⟨i, rfl, hi, hq, hw⟩ := hrel
    have Hq := Lib.hid hq
    clear hq
    by_cases hlt : i < n
    · obtain ⟨p, hp⟩ : ∃ p, l[i]? = some p := ⟨_, List.getElem?_eq_getElem (by rw [Hl.out]; exact hlt)⟩
      have hst := meet_step b hp
      rw [Hq.out] at hst
      have hpv := hL.each p (List.mem_of_getElem? hp)
      have hov := overlaps_find hR p hpv.2.2
      obtain ⟨g, o, rfl, _, c0, c1⟩ := (hr.only hw (by simp)).span hlt hp
      have Hst := Lib.hid hst
      have Hp := Lib.hid hp
      have Hpv := Lib.hid hpv
      have Hov := Lib.hid hov
      clear hst hp hpv hov
      go_wp2_with (fail)
      obtain ⟨h0, hh0⟩ : ∃ h0, h0 = wr.heap.size := ⟨_, rfl⟩
      have hbk : Blk (wr.alloc (.cells #[.int .i32 p.1, .int .i32 p.2] 70)) h0 70 [.int .i32 p.1, .int .i32 p.2] := Blk.new' _ _ _ hh0.symm rfl
      have hO := hw.alloc (.cells #[.int .i32 p.1, .int .i32 p.2] 70)
      rw [← hh0]
      clear hh0 c0 c1
      obtain ⟨wa, hwa⟩ : ∃ wa, wa = (wr.alloc (.cells #[.int .i32 p.1, .int .i32 p.2] 70)) := ⟨_, rfl⟩
      rw [← hwa] at hbk hO ⊢
      have Hwa := Lib.hid hwa
      clear hwa
      refine (find_any m d A' b p.1 _ B (hr'.only hO (by simp)) Hb.out hm hR.rising).mono ?_
      rintro e w2 ⟨rfl, hO2⟩
      replace hbk := hbk.only hO2 (by simp)
      replace hO := hO.trans hO2
      have hr2 := hr'.only hO (by simp)
      clear hO2 Hwa
      have hle := findHi_le b p.1
      rw [Hb.out] at hle
      obtain ⟨j, hj⟩ : ∃ j, j = findHi b p.1 := ⟨_, rfl⟩
      rw [← hj] at hle Hov ⊢
      have Hj := Lib.hid hj
      clear hj
      have c0 := hbk.cell 0
      have c1 := hbk.cell 1
      replace c0 : w2.cell? ⟨h0, 0, none⟩ = some (.int .i32 p.1) := c0
      replace c1 : w2.cell? ⟨h0, 1, none⟩ = some (.int .i32 p.2) := c1
      go_wp2_with (fail)
      go_loopw [8] (fun vj wx => vj = .int .i64 (j : Int) ∧ wx = w2) (fun _ _ => 0)
      case atStart => exact ⟨rfl, rfl⟩
      case round =>
        obtain ⟨rfl, rfl⟩ := hrel
        by_cases hjm : j < m
        · obtain ⟨q, hq⟩ : ∃ q, b[j]? = some q := ⟨_, List.getElem?_eq_getElem (by rw [Hb.out]; exact hjm)⟩
          have hov := Hov.out
          rw [hq] at hov
          have Hov2 : RowKit.Hid (overlaps b p = decide (q.1 ≤ p.2)) := Lib.hid hov
          have hqv := hR.each q (List.mem_of_getElem? hq)
          have hqf : p.1 ≤ q.2 := findHi_get (by rw [← Hj.out]; exact hq)
          obtain ⟨g', o', rfl, _, d0, d1⟩ := hr2.span hjm hq
          have Hq2 := Lib.hid hq
          have Hqv := Lib.hid hqv
          have Hqf := Lib.hid hqf
          clear hov hq hqv hqf Hov
          have dj : decide (j < m) = true := decide_eq_true hjm
          by_cases hA : q.1 ≤ p.2
          · go_upto_region 5 with (fail)
            go_quiet (fail)
            go_upto_region 7 with (fail)
            refine name_it (p := fun y => Code.wp _ _ _ _ y) ?_
            intro wy HY
            replace hbk : Blk wy h0 70 [.int .i32 p.1, .int .i32 p.2] := by rw [HY.out]; exact hbk.only ((Only.refl [] _).drewN _) (by simp)
            replace hO : Only [] w wy := by rw [HY.out]; exact hO.drewN _
            have c0 : wy.cell? ⟨h0, 0, none⟩ = some (.int .i32 p.1) := hbk.cell 0
            have c1 : wy.cell? ⟨h0, 1, none⟩ = some (.int .i32 p.2) := hbk.cell 1
            replace d0 : wy.cell? ⟨g', o' + j * 2, none⟩ = some (.int .i32 q.1) := by rw [HY.out]; exact d0
            replace d1 : wy.cell? ⟨g', o' + j * 2 + 1, none⟩ = some (.int .i32 q.2) := by rw [HY.out]; exact d1
            clear hr2 hr' hr
            have hOz : Only [] wy (wy.alloc (.cells #[.int .i32 0, .int .i32 0] 70)) := (Only.refl _ _).alloc _
            have e0 := hOz.cellv c0 (by simp)
            have e1 := hOz.cellv c1 (by simp)
            have e2 := hOz.cellv d0 (by simp)
            have e3 := hOz.cellv d1 (by simp)
            clear hOz
            go_region
            have hv : validRune (if p.1 < q.1 then q.1 else p.1) = true ∧ validRune (if q.2 < p.2 then q.2 else p.2) = true ∧ (if p.1 < q.1 then q.1 else p.1) ≤ (if q.2 < p.2 then q.2 else p.2) := by
              have h1 := Hpv.out
              have h2 := Hqv.out
              have h3 := Hqf.out
              refine ⟨by split; exact h2.1; exact h1.1, by split; exact h2.2.1; exact h1.2.1, by (repeat' split) <;> omega⟩
            generalize (if p.1 < q.1 then q.1 else p.1) = x at hv ⊢
            generalize (if q.2 < p.2 then q.2 else p.2) = y at hv ⊢
            have Hv := Lib.hid hv
            clear hv e0 e1 e2 e3 c0 c1 d0 d1 hbk
            have hOa : Only [] w (wy.alloc (.cells #[.int .i32 x, .int .i32 y] 70)).drew := (hO.alloc _).drew
            go_wp2_with (fail)
            have hb3 : Blk ((wy.alloc (.cells #[.int .i32 x, .int .i32 y] 70)).alloc (.cells #[.int .i32 x, .int .i32 y] 70)) (wy.heap.size + 1) 70 [.int .i32 x, .int .i32 y] := Blk.new' _ _ _ (by simp) rfl
            replace hb3 := hb3.only (w' := ((wy.alloc (.cells #[.int .i32 x, .int .i32 y] 70)).alloc (.cells #[.int .i32 x, .int .i32 y] 70)).drew) ((Only.refl [] _).drew) (by simp)
            refine (size_one _ 0 1 x y _ (hb3.cell 0) (hb3.cell 1) Hv.out.1 Hv.out.2.2 Hv.out.2.1).mono ?_
            rintro e w3 ⟨z, rfl, hz, hO3⟩
            replace hO3 : Only [] w w3 := (((hO.alloc _).alloc _).drew).trans hO3
            clear hb3 hOa
            go_wp2_with (fail)
            go_ret2
            exact ⟨by rw [Hst.out, Hov2.out, if_pos (by simpa using hA)]; rfl, hO3⟩
          · have dA : decide (q.1 ≤ p.2) = false := decide_eq_false hA
            go_upto_region 5 with (fail)
            go_quiet (fail)
            go_wp2_with (fail)
            go_roundw
            case rel => exact ⟨i + 1, by go_num, by omega, by rw [Hst.out, Hov2.out, dA, if_neg (by simp)], hO.drewN _⟩
            case measure => simp [intOf]; omega
        · have hov := Hov.out
          rw [List.getElem?_eq_none (by rw [Hb.out]; omega)] at hov
          have Hov2 : RowKit.Hid (overlaps b p = false) := Lib.hid hov
          clear hov Hov
          have dj : decide (j < m) = false := decide_eq_false hjm
          go_upto_region 5 with (fail)
          go_quiet (fail)
          go_wp2_with (fail)
          go_roundw
          case rel => exact ⟨i + 1, by go_num, by omega, by rw [Hst.out, Hov2.out, if_neg (by simp)], hO.drewN _⟩
          case measure => simp [intOf]; omega
    · obtain rfl : i = n := by omega
      go_wp2_with (fail)
      go_ret2
      exact ⟨by rw [← Hq.out, meet_end b l i (by rw [Hl.out]; omega)]; rfl, hw⟩
end Go.Proofs.YtgohinklnglgeaaDoor
