/- Several texts in one: classes: slices.Clone; a table's kinds; the reference's.; classes.New: what it answers, in plain words.; classes.New.; The reference's Check.; Contracts of tesserabook's Same, Roomy, Intact over spans. -/
import Derived.Test.YtgohinklnglgeaaDoorPk6
import Derived.Lib.LazyBuf
import Derived.Laws.ResultCell
import Derived.Deep.QuietTactic
import Derived.BigQuiet
set_option linter.unusedVariables false
set_option linter.unusedSimpArgs false
namespace Go.Proofs.YtgohinklnglgeaaDoor
open Go.RowKit

theorem ses_one (l : List Sp) : ∀ u ∈ ses l, u.oneCell' = true := by
  intro u hu
  simp only [ses, List.mem_flatMap] at hu
  obtain ⟨p, _, hp⟩ := hu
  simp [spv] at hp
  rcases hp with rfl | rfl <;> rfl

set_option maxRecDepth 100000 in
set_option maxHeartbeats 2000000 in
theorem clone_any (n c : Nat) (A : Option Addr) (l : List Sp) (w : World) (B : Nat) (hr : Rd w B 2 A n (ses l)) (hn : n ≤ 17592186043904) :
    Calls Tryd.prog 72 #[.slice A n c] w fun e w' => ∃ A' c', e = .returned (.slice A' n c') ∧ Rd w' w'.heap.size 2 A' n (ses l) ∧ Only [] w w' ∧ (∀ ad, A' = some ad → w.heap.size ≤ ad.block) := by
  cases A with
  | none =>
    obtain rfl : n = 0 := by
      rcases Nat.eq_zero_or_pos n with h | h
      · exact h
      · obtain ⟨_, e, _⟩ := hr.2 h; cases e
    obtain ⟨hl0, -⟩ := hr
    have hnil : ses l = [] := List.eq_nil_of_length_eq_zero (by simpa using hl0)
    have Hnil := Lib.hid hnil
    clear hnil hl0
    have heq := Go.run_eql_slice_nil (P := Tryd.prog) w 36 70 none 0 c rfl
    go_enter Tryd.func72, Tryd.ntmps72
    go_wp2_with (fail)
    go_ret
    exact ⟨none, 0, rfl, by rw [Hnil.out]; exact Rd.zero _ _ _ _, .refl _ _, by simp⟩
  | some ad =>
    have he : (w.alloc (.cells #[] 70)).ownsRow w.heap.size 70 2 (.slice (some ⟨w.heap.size, 0, none⟩) 0 0) 0 [] := own_empty w _ 70 2 rfl (Nat.le_refl _)
    obtain ⟨v', w', hrun, hown, hO, hat, _⟩ := run_append_row (P := Tryd.prog) w.heap.size 36 36 70 (.agg #[.int .i32 0, .int .i32 0]) 2 8 rfl (by kernel_rfl) rfl (by omega) he c (hr.alloc (.cells #[] 70)) (ses_one l) (by simp only [maxLen]; omega) (by omega) (by simp)
    obtain ⟨A', c', rfl, _, hr', hb⟩ := own_slice hown
    rw [Nat.zero_add, List.nil_append] at hr'
    rw [Nat.zero_add] at hrun
    have hO' : Only [] w w' := ((Only.refl [] w).alloc (.cells #[] 70)).trans' hO (by simp [Value.ownBlock])
    have heq := Go.run_eql_slice_nil (P := Tryd.prog) w 36 70 (some ad) n c rfl
    have Hrun := Lib.hid hrun
    clear he hown hO hat hrun
    go_enter Tryd.func72, Tryd.ntmps72
    go_wp2_with ((at_builtin; refine wpList_append_run (o := ⟨some 7, _, _, _, _, _⟩) (by rfl) (.tmp 5) (.tmp 6) 36 36 (by rfl) (by rfl) (by rfl) Hrun.out ?_))
    go_ret
    exact ⟨A', c', rfl, hr', hO', fun ad e => (hb ad e).2⟩

theorem index3 (v0 v1 v2 : Value) (A1 A2 A3 : Option Addr) (n1 n2 n3 c1 c2 c3 : Nat) (h0 : v0 = .slice A1 n1 c1) (h1 : v1 = .slice A2 n2 c2) (h2 : v2 = .slice A3 n3 c3) (W : World) :
    (Instr.index 136 (.agg #[v0, v1, v2]) (.int .i64 0)).run Tryd.prog W = .ok v0 W ∧ (Instr.index 136 (.agg #[v0, v1, v2]) (.int .i64 1)).run Tryd.prog W = .ok v1 W ∧ (Instr.index 136 (.agg #[v0, v1, v2]) (.int .i64 2)).run Tryd.prog W = .ok v2 W := by
  subst h0 h1 h2
  have hu : Tryd.prog.underlying 136 = some (.array 3 36) := by kernel_rfl
  have hi : (Tryd.prog.info? 36).map (fun i => i.size) = some 1 := by kernel_rfl
  have hd : Tryd.prog.underlying 36 = some (.slice 70) := by kernel_rfl
  cases he : Tryd.prog.info? 36 with
  | none => simp [he] at hi
  | some i =>
    have hs : i.size = 1 := by simpa [he] using hi
    refine ⟨?_, ?_, ?_⟩ <;> simp [Instr.index, run_underlying hu, sizeOf, typeInfo, asIntOf, part, he, hs, run_underlying hd]
/-- a table of three right lists, in memory of its own -/
structure Tab (w : World) (base g : Nat) (a b d : List Sp) : Prop where
  at_ : ∃ (A1 A2 A3 : Option Addr) (c1 c2 c3 : Nat), Blk w g 138 [.slice A1 a.length c1, .slice A2 b.length c2, .slice A3 d.length c3] ∧ base ≤ g ∧
    Rd w w.heap.size 2 A1 a.length (ses a) ∧ Rd w w.heap.size 2 A2 b.length (ses b) ∧ Rd w w.heap.size 2 A3 d.length (ses d) ∧
    (∀ ad, A1 = some ad → base ≤ ad.block) ∧ (∀ ad, A2 = some ad → base ≤ ad.block) ∧ (∀ ad, A3 = some ad → base ≤ ad.block)
  small : a.length ≤ 512 ∧ b.length ≤ 512 ∧ d.length ≤ 512
  right : RightL a ∧ RightL b ∧ RightL d
theorem Tab.only {w w' : World} {base g : Nat} {a b d : List Sp} (h : Tab w base g a b d) {l : List Nat} (hO : Only l w w') (hl : ∀ x ∈ l, x < base) : Tab w' base g a b d := by
  refine ⟨?_, h.small, h.right⟩
  obtain ⟨A1, A2, A3, c1, c2, c3, hb, hg, r1, r2, r3, b1, b2, b3⟩ := h.at_
  have key : ∀ {A : Option Addr} {n : Nat} {xs : List Value}, Rd w w.heap.size 2 A n xs → (∀ ad, A = some ad → base ≤ ad.block) → Rd w' w'.heap.size 2 A n xs := fun r b =>
    (r.only' hO (fun ad e _ hm => by have := b ad e; have := hl _ hm; omega)).more hO.size
  exact ⟨A1, A2, A3, c1, c2, c3, hb.only hO (fun hm => by have := hl _ hm; omega), hg, key r1 b1, key r2 b2, key r3 b3, b1, b2, b3⟩
theorem Tab.base {w : World} {base base' g : Nat} {a b d : List Sp} (h : Tab w base g a b d) (hb : base' ≤ base) : Tab w base' g a b d := by
  refine ⟨?_, h.small, h.right⟩
  obtain ⟨A1, A2, A3, c1, c2, c3, hbk, hg, r1, r2, r3, b1, b2, b3⟩ := h.at_
  exact ⟨A1, A2, A3, c1, c2, c3, hbk, Nat.le_trans hb hg, r1, r2, r3, fun ad e => Nat.le_trans hb (b1 ad e), fun ad e => Nat.le_trans hb (b2 ad e), fun ad e => Nat.le_trans hb (b3 ad e)⟩
def kindOf (a b d : List Sp) (r : Int) : Nat := if inSpans a r = true then 1 else if inSpans b r = true then 2 else if inSpans d r = true then 3 else 4

set_option maxRecDepth 100000 in
set_option maxHeartbeats 4000000 in
theorem of_any (w : World) (base g : Nat) (a b d : List Sp) (hT : Tab w base g a b d) (r : Int) :
    Calls Tryd.prog 75 #[.pointer (some ⟨g, 0, none⟩), .int .i32 r] w fun e w' => e = .returned (.int .i64 (kindOf a b d r : Int)) ∧ Only [] w w' := by
  obtain ⟨A1, A2, A3, c1, c2, c3, hb, _, r1, r2, r3, _⟩ := hT.at_
  obtain ⟨n1, hn1⟩ : ∃ n, n = a.length := ⟨_, rfl⟩
  obtain ⟨n2, hn2⟩ : ∃ n, n = b.length := ⟨_, rfl⟩
  obtain ⟨n3, hn3⟩ : ∃ n, n = d.length := ⟨_, rfl⟩
  have s1 : n1 ≤ 1000000 := by have := hT.small; omega
  have s2 : n2 ≤ 1000000 := by have := hT.small; omega
  have s3 : n3 ≤ 1000000 := by have := hT.small; omega
  obtain ⟨R1, R2, R3⟩ := hT.right
  rw [← hn1, ← hn2, ← hn3] at hb
  rw [← hn1] at r1
  rw [← hn2] at r2
  rw [← hn3] at r3
  have N1 := Lib.hid hn1
  have N2 := Lib.hid hn2
  have N3 := Lib.hid hn3
  have q0 := hb.cell 0
  have q1 := hb.cell 1
  have q2 := hb.cell 2
  replace q0 : w.cell? ⟨g, 0, none⟩ = some (.slice A1 n1 c1) := q0
  replace q1 : w.cell? ⟨g, 1, none⟩ = some (.slice A2 n2 c2) := q1
  replace q2 : w.cell? ⟨g, 2, none⟩ = some (.slice A3 n3 c3) := q2
  clear hn1 hn2 hn3 hT hb
  go_enter Tryd.func75, Tryd.ntmps75
  go_wp2_with (fail)
  have hix := index3 _ _ _ A1 A2 A3 n1 n2 n3 c1 c2 c3 rfl rfl rfl
  have ix0 := fun W => (hix W).1
  have ix1 := fun W => (hix W).2.1
  have ix2 := fun W => (hix W).2.2
  clear hix
  go_loopw [11] (fun vi wr => Only [] w wr ∧ ((vi = .int .i64 0) ∨ (vi = .int .i64 1 ∧ inSpans a r = false) ∨ (vi = .int .i64 2 ∧ inSpans a r = false ∧ inSpans b r = false) ∨ (vi = .int .i64 3 ∧ inSpans a r = false ∧ inSpans b r = false ∧ inSpans d r = false))) (fun vi _ => 3 - (intOf vi).toNat)
  case atStart => exact ⟨.refl _ _, .inl rfl⟩
  case round =>
    obtain ⟨hw, hrel⟩ := hrel
    have hsz := hw.size
    rcases hrel with rfl | ⟨rfl, f1⟩ | ⟨rfl, f1, f2⟩ | ⟨rfl, f1, f2, f3⟩
    · go_wp2_with (fail)
      refine (in_any n1 c1 A1 a r wr w.heap.size (r1.only hw (by simp)) hsz N1.out.symm s1 R1).mono ?_
      rintro e w2 ⟨rfl, hO⟩
      replace hO := hw.trans hO
      obtain ⟨x, hx⟩ : ∃ x, x = inSpans a r := ⟨_, rfl⟩
      rw [← hx]
      have Hx := Lib.hid hx
      clear hx
      cases x with
      | true =>
        go_wp2_with (fail)
        go_ret
        exact ⟨by unfold kindOf; rw [if_pos Hx.out.symm]; rfl, hO⟩
      | false =>
        go_wp2_with (fail)
        go_roundw
        case rel => exact ⟨hO, .inr (.inl ⟨rfl, by rw [← Hx.out]⟩)⟩
        case measure => simp [intOf]
    · have F1 := Lib.hid f1
      clear f1
      go_wp2_with (fail)
      refine (in_any n2 c2 A2 b r wr w.heap.size (r2.only hw (by simp)) hsz N2.out.symm s2 R2).mono ?_
      rintro e w2 ⟨rfl, hO⟩
      replace hO := hw.trans hO
      obtain ⟨x, hx⟩ : ∃ x, x = inSpans b r := ⟨_, rfl⟩
      rw [← hx]
      have Hx := Lib.hid hx
      clear hx
      cases x with
      | true =>
        go_wp2_with (fail)
        go_ret
        exact ⟨by unfold kindOf; rw [if_neg (by rw [F1.out]; simp)]; rw [if_pos Hx.out.symm]; rfl, hO⟩
      | false =>
        go_wp2_with (fail)
        go_roundw
        case rel => exact ⟨hO, .inr (.inr (.inl ⟨rfl, F1.out, by rw [← Hx.out]⟩))⟩
        case measure => simp [intOf]
    · have F1 := Lib.hid f1
      have F2 := Lib.hid f2
      clear f1 f2
      go_wp2_with (fail)
      refine (in_any n3 c3 A3 d r wr w.heap.size (r3.only hw (by simp)) hsz N3.out.symm s3 R3).mono ?_
      rintro e w2 ⟨rfl, hO⟩
      replace hO := hw.trans hO
      obtain ⟨x, hx⟩ : ∃ x, x = inSpans d r := ⟨_, rfl⟩
      rw [← hx]
      have Hx := Lib.hid hx
      clear hx
      cases x with
      | true =>
        go_wp2_with (fail)
        go_ret
        exact ⟨by unfold kindOf; rw [if_neg (by rw [F1.out]; simp)]; rw [if_neg (by rw [F2.out]; simp)]; rw [if_pos Hx.out.symm]; rfl, hO⟩
      | false =>
        go_wp2_with (fail)
        go_roundw
        case rel => exact ⟨hO, .inr (.inr (.inr ⟨rfl, F1.out, F2.out, by rw [← Hx.out]⟩))⟩
        case measure => simp [intOf]
    · have F1 := Lib.hid f1
      have F2 := Lib.hid f2
      have F3 := Lib.hid f3
      clear f1 f2 f3
      go_wp2_with (fail)
      go_ret
      exact ⟨by unfold kindOf; rw [if_neg (by rw [F1.out]; simp), if_neg (by rw [F2.out]; simp), if_neg (by rw [F3.out]; simp)]; rfl, hw⟩
end Go.Proofs.YtgohinklnglgeaaDoor

set_option linter.unusedVariables false
set_option linter.unusedSimpArgs false
namespace Go.Proofs.YtgohinklnglgeaaDoor
open Go.RowKit

theorem results_tmp_cell {fn : Func} {p u : Tmp} {ty : TypeId} (h : fn.results = #[.tmp u, .cell p ty]) (tmps : Array Value) (P : Program) (w : World) :
    (results fn tmps).run P w =
      ((asAddr (tmps.getD p undef)).run P w).andThen fun a w₁ => ((loadVar ty a).run P w₁).andThen fun v w₂ => .ok (.tuple #[tmps.getD u undef, v]) w₂ := by
  simp only [results, h]
  simp [Sem.run_bind, Result.andThen]

abbrev Wr := Nat × Nat × Nat
def longW (i : Nat) (l : List Sp) : Option Wr := if 512 < l.length then some (4, i + 1, 512) else none
def rightW (i : Nat) (l : List Sp) : Option Wr := if (rightFrom none 0 l).2 = 0 then none else some ((rightFrom none 0 l).2, i + 1, (rightFrom none 0 l).1)
def least2 : Option Nat → Option Nat → Option Nat
  | some x, some y => some (min x y)
  | some x, none => some x
  | none, o => o
def over1 (a b : List Sp) : Option Wr := (meetFrom a 0 b).map fun r => (16, 2, r)
def over2 (a b d : List Sp) : Option Wr := (least2 (meetFrom a 0 d) (meetFrom b 0 d)).map fun r => (16, 3, r)
def blankW (a b d : List Sp) : Option Wr := if inSpans d 32 = true ∧ inSpans a 39 = false ∧ inSpans b 39 = false ∧ inSpans d 39 = false then none else some (20, 3, 0)
def stagesW (a b d : List Sp) : List (Option Wr) := [longW 0 a, longW 1 b, longW 2 d, rightW 0 a, rightW 1 b, rightW 2 d, over1 a b, over2 a b d, blankW a b d]
def checkW (a b d : List Sp) : Wr := ((stagesW a b d).findSome? id).getD (0, 0, 0)
theorem firstSome {l : List (Option Wr)} (i : Nat) {x : Wr} (hi : l[i]? = some (some x)) (hn : ∀ t : Nat, t < i → l[t]? = some none) : (l.findSome? id).getD (0, 0, 0) = x := by
  induction l generalizing i with
  | nil => simp at hi
  | cons u l ih =>
    cases i with
    | zero => simp at hi; subst hi; rfl
    | succ i =>
      have h0 := hn 0 (by omega)
      simp at h0; subst h0
      simp only [List.findSome?_cons, id]
      exact ih i (by simpa using hi) (fun t ht => by have := hn (t + 1) (by omega); simpa using this)
theorem noneW {l : List (Option Wr)} (h : ∀ u ∈ l, u = none) : (l.findSome? id).getD (0, 0, 0) = (0, 0, 0) := by
  rw [List.findSome?_eq_none_iff.2 (by intro x hx; rw [h x hx]; rfl)]; rfl

theorem rightFrom_why (prev : Option Int) (i : Nat) (l : List Sp) : (rightFrom prev i l).2 = 0 ∨ (rightFrom prev i l).2 = 14 ∨ (rightFrom prev i l).2 = 15 := by
  induction l generalizing prev i with
  | nil => exact .inl rfl
  | cons p l ih =>
    unfold rightFrom
    split
    · exact .inr (.inl rfl)
    · split
      · exact .inr (.inr rfl)
      · exact ih _ _
theorem rightFrom_right (prev : Option Int) (i : Nat) (l : List Sp) (h : (rightFrom prev i l).2 = 0) : RightL l ∧ ∀ h', prev = some h' → ∀ p ∈ l, h' < p.1 := by
  induction l generalizing prev i with
  | nil => exact ⟨⟨by simp, by simp⟩, by simp⟩
  | cons p l ih =>
    unfold rightFrom at h
    split at h
    · cases h
    · rename_i hv
      split at h
      · cases h
      · rename_i ho
        obtain ⟨hR, hlt⟩ := ih _ _ h
        have hlt := hlt p.2 rfl
        simp only [Bool.and_eq_false_iff, not_or, Bool.not_eq_false] at hv
        have h1 : p.1 ≤ p.2 := by omega
        refine ⟨⟨?_, ?_⟩, ?_⟩
        · intro q hq
          rcases List.mem_cons.1 hq with rfl | hq
          · exact ⟨hv.1, hv.2, h1⟩
          · exact hR.each q hq
        · intro s t x y hst hx hy
          cases t with
          | zero => omega
          | succ t =>
            rw [List.getElem?_cons_succ] at hy
            cases s with
            | zero => simp at hx; subst hx; exact hlt y (List.mem_of_getElem? hy)
            | succ s => rw [List.getElem?_cons_succ] at hx; exact hR.order s t x y (by omega) hx hy
        · intro h' e q hq
          have h2 : h' < p.1 := by
            by_cases h : h' < p.1
            · exact h
            · exact absurd (.inr ⟨h', e, by omega⟩) ho
          rcases List.mem_cons.1 hq with rfl | hq
          · exact h2
          · have := hlt q hq; omega
theorem RightL.of {l : List Sp} (h : (rightFrom none 0 l).2 = 0) : RightL l := (rightFrom_right none 0 l h).1

theorem meetFrom_none {b : List Sp} {i : Nat} {l : List Sp} (h : meetFrom b i l = none) : ∀ p ∈ l, overlaps b p = false := by
  induction l generalizing i with
  | nil => simp
  | cons q l ih =>
    unfold meetFrom at h
    split at h
    · cases h
    · rename_i hq
      intro p hp
      rcases List.mem_cons.1 hp with rfl | hp
      · simpa using hq
      · exact ih h p hp
theorem apart_of {a d : List Sp} (h : meetFrom a 0 d = none) {r : Int} (hd : inSpans d r = true) : inSpans a r = false := by
  unfold inSpans at hd ⊢
  simp only [Bool.and_eq_true, List.any_eq_true, decide_eq_true_eq] at hd
  obtain ⟨_, p, hp, h1, h2⟩ := hd
  have := meetFrom_none h p hp
  unfold overlaps at this
  rw [List.any_eq_false] at this
  rw [Bool.and_eq_false_iff]
  refine .inr (List.any_eq_false.2 fun q hq => ?_)
  have := this q hq
  simp at this ⊢
  omega
theorem meetFrom_lt {b : List Sp} {i : Nat} {l : List Sp} {r : Nat} (h : meetFrom b i l = some r) : r < i + l.length := by
  induction l generalizing i with
  | nil => simp [meetFrom] at h
  | cons q l ih =>
    unfold meetFrom at h
    split at h
    · cases h; simp
    · have := ih h; simp; omega
theorem least2_none {x y : Option Nat} (h : least2 x y = none) : x = none ∧ y = none := by
  cases x <;> cases y <;> simp_all [least2]

/-- with all lists apart: kinds of the blank and of the quote are as they shall be, or the lists are refused for it -/
theorem blank_kind {a b d : List Sp} (h1 : over2 a b d = none) : (blankW a b d = none ↔ (kindOf a b d 32 = 3 ∧ kindOf a b d 39 = 4)) ∧ (blankW a b d = none ∨ blankW a b d = some (20, 3, 0)) := by
  unfold over2 at h1
  obtain ⟨ha, hb⟩ := least2_none (by simpa using h1)
  have k1 := apart_of ha (r := 32)
  have k2 := apart_of hb (r := 32)
  unfold blankW kindOf
  cases h32 : inSpans d 32 <;> cases a32 : inSpans a 32 <;> cases b32 : inSpans b 32 <;> cases a39 : inSpans a 39 <;> cases b39 : inSpans b 39 <;> cases d39 : inSpans d 39 <;> simp_all
end Go.Proofs.YtgohinklnglgeaaDoor

set_option linter.unusedVariables false
set_option linter.unusedSimpArgs false
namespace Go.Proofs.YtgohinklnglgeaaDoor
open Go.RowKit

theorem load3 {w : World} {h0 : Nat} {v0 v1 v2 u : Value} (hb : Blk w h0 119 [v0, v1, v2]) :
    (((asAddr (.pointer (some ⟨h0, 0, none⟩))).run Tryd.prog w).andThen fun a w₁ => ((loadVar 119 a).run Tryd.prog w₁).andThen fun v w₂ => Result.ok (Value.tuple #[u, v]) w₂) = Result.ok (Value.tuple #[u, Value.agg #[v0, v1, v2]]) w := by
  have c0 : w.cell? ⟨h0, 0, none⟩ = some v0 := hb.cell 0
  have c1 : w.cell? ⟨h0, 1, none⟩ = some v1 := hb.cell 1
  have c2 : w.cell? ⟨h0, 2, none⟩ = some v2 := hb.cell 2
  go_simp
set_option maxRecDepth 100000 in
set_option maxHeartbeats 8000000 in
theorem new_any (w : World) (A1 A2 A3 : Option Addr) (n1 n2 n3 c1 c2 c3 : Nat) (a b d : List Sp) (hn1 : a.length = n1) (hn2 : b.length = n2) (hn3 : d.length = n3)
    (s1 : n1 ≤ 17592186043904) (s2 : n2 ≤ 17592186043904) (s3 : n3 ≤ 17592186043904) (B : Nat) (r1 : Rd w B 2 A1 n1 (ses a)) (r2 : Rd w B 2 A2 n2 (ses b)) (r3 : Rd w B 2 A3 n3 (ses d)) :
    Calls Tryd.prog 59 #[.slice A1 n1 c1, .slice A2 n2 c2, .slice A3 n3 c3] w fun e w' => ∃ v, e = .returned (.tuple #[v, .agg #[.int .i64 ((checkW a b d).1 : Int), .int .i64 ((checkW a b d).2.1 : Int), .int .i64 ((checkW a b d).2.2 : Int)]]) ∧ Only [] w w' ∧
      ((∃ g, v = .pointer (some ⟨g, 0, none⟩) ∧ (checkW a b d).1 = 0 ∧ Tab w' w.heap.size g a b d) ∨ (v = .pointer none ∧ (checkW a b d).1 ≠ 0)) := by
  have N1 := Lib.hid hn1
  have N2 := Lib.hid hn2
  have N3 := Lib.hid hn3
  clear hn1 hn2 hn3
  go_enter Tryd.func59, Tryd.ntmps59
  go_wp2_with (fail)
  obtain ⟨h0, hh0⟩ : ∃ h, h = w.heap.size := ⟨_, rfl⟩
  rw [← hh0]
  have hbR : Blk (w.alloc (.cells #[.int .i64 0, .int .i64 0, .int .i64 0] 119)) h0 119 [.int .i64 0, .int .i64 0, .int .i64 0] := Blk.new' _ _ _ hh0.symm rfl
  obtain ⟨wa, hwa⟩ : ∃ wa, wa = w.alloc (.cells #[.int .i64 0, .int .i64 0, .int .i64 0] 119) := ⟨_, rfl⟩
  have hO0 : Only [] w wa := by rw [hwa]; exact (Only.refl _ _).alloc _
  have hza : h0 + 1 ≤ wa.heap.size := by rw [hwa]; simp; omega
  rw [← hwa] at hbR ⊢
  have Hwa := Lib.hid hwa
  have Hh0 := Lib.hid hh0
  clear hwa hh0
  refine (clone_any n1 c1 A1 a wa B (r1.only hO0 (by simp)) s1).mono ?_
  rintro e w1 ⟨D1, k1, rfl, q1, hO1, f1⟩
  replace f1 : ∀ ad, D1 = some ad → h0 + 1 ≤ ad.block := fun ad h => Nat.le_trans hza (f1 ad h)
  have hz1 := Nat.le_trans hza hO1.size
  replace hbR := hbR.only hO1 (by simp)
  replace hO1 := hO0.trans hO1
  go_wp2_with (fail)
  refine (clone_any n2 c2 A2 b w1 B (r2.only hO1 (by simp)) s2).mono ?_
  rintro e w2 ⟨D2, k2, rfl, q2, hO2, f2⟩
  replace hbR := hbR.only hO2 (by simp)
  replace q1 := (q1.only hO2 (by simp)).more hO2.size
  replace f2 : ∀ ad, D2 = some ad → h0 + 1 ≤ ad.block := fun ad h => Nat.le_trans hz1 (f2 ad h)
  have hz2 := Nat.le_trans hz1 hO2.size
  replace hO2 := hO1.trans hO2
  go_wp2_with (fail)
  refine (clone_any n3 c3 A3 d w2 B (r3.only hO2 (by simp)) s3).mono ?_
  rintro e w3 ⟨D3, k3, rfl, q3, hO3, f3⟩
  replace hbR := hbR.only hO3 (by simp)
  replace q1 := (q1.only hO3 (by simp)).more hO3.size
  replace q2 := (q2.only hO3 (by simp)).more hO3.size
  replace f3 : ∀ ad, D3 = some ad → h0 + 1 ≤ ad.block := fun ad h => Nat.le_trans hz2 (f3 ad h)
  have hz3 := Nat.le_trans hz2 hO3.size
  replace hO3 := hO2.trans hO3
  go_wp2_with (fail)
  obtain ⟨g, hg⟩ : ∃ g, g = w3.heap.size := ⟨_, rfl⟩
  rw [← hg]
  have hbT : Blk (w3.alloc (.cells #[.slice D1 n1 k1, .slice D2 n2 k2, .slice D3 n3 k3] 138)) g 138 [.slice D1 n1 k1, .slice D2 n2 k2, .slice D3 n3 k3] := Blk.new' _ _ _ hg.symm rfl
  have hO34 := (Only.refl [] w3).alloc (.cells #[.slice D1 n1 k1, .slice D2 n2 k2, .slice D3 n3 k3] 138)
  have hgw : h0 + 1 ≤ g := by rw [hg]; exact hz3
  have Hg := Lib.hid hg
  clear hg
  refine name_it (p := fun y => Code.wp _ _ _ _ y) ?_
  intro w4 H4
  rw [← H4.out] at hbT hO34
  replace hbR := hbR.only hO34 (by simp)
  replace q1 := (q1.only hO34 (by simp)).more hO34.size
  replace q2 := (q2.only hO34 (by simp)).more hO34.size
  replace q3 := (q3.only hO34 (by simp)).more hO34.size
  have hO4 := hO3.trans hO34
  have hgR : w.heap.size ≤ h0 := Nat.le_of_eq Hh0.out.symm
  have hgR2 : w.heap.size = h0 := Hh0.out.symm
  have HgR := Lib.hid hgR2
  clear hgR2 hza hz1 hz2 hz3 hO0 hO1 hO2 hO3 hO34 r1 r2 r3 H4 Hg Hwa Hh0
  have hix := index3 _ _ _ D1 D2 D3 n1 n2 n3 k1 k2 k3 rfl rfl rfl
  have ix0 := fun W => (hix W).1
  have ix1 := fun W => (hix W).2.1
  have ix2 := fun W => (hix W).2.2
  clear hix
  have t0 : w4.cell? ⟨g, 0, none⟩ = some (.slice D1 n1 k1) := hbT.cell 0
  have t1 : w4.cell? ⟨g, 1, none⟩ = some (.slice D2 n2 k2) := hbT.cell 1
  have t2 : w4.cell? ⟨g, 2, none⟩ = some (.slice D3 n3 k3) := hbT.cell 2
  go_loop [36] (fun vi => (vi = .int .i64 0) ∨ (vi = .int .i64 1 ∧ longW 0 a = none) ∨ (vi = .int .i64 2 ∧ longW 0 a = none ∧ longW 1 b = none) ∨ (vi = .int .i64 3 ∧ longW 0 a = none ∧ longW 1 b = none ∧ longW 2 d = none)) (fun vi => 3 - (intOf vi).toNat)
  case atStart => exact .inl rfl
  case round =>
    rcases hrel with rfl | ⟨rfl, g1⟩ | ⟨rfl, g1, g2⟩ | ⟨rfl, g1, g2, g3⟩
    · have _ := trivial
      by_cases hl : 512 < n1
      · have hs : longW 0 a = some (4, 1, 512) := by unfold longW; rw [if_pos (by rw [N1.out]; exact hl)]
        have hck : checkW a b d = (4, 1, 512) := firstSome 0 (congrArg some hs) (fun t ht => absurd ht (by omega))
        have Hck := Lib.hid hck
        have hbE := hbR
        have e0 := hbE.cell 0
        have e1 := hbE.cell 1
        have e2 := hbE.cell 2
        have z0 := hbE.frozen 0
        have z1 := hbE.frozen 1
        have z2 := hbE.frozen 2
        clear hck hs
        go_wp2_with (fail)
        (try simp only [Exit.inBlock, Exit.then])
        refine bodyPost_ret (v := .tuple #[.pointer none, .agg #[.int .i64 ((4 : Nat) : Int), .int .i64 ((1 : Nat) : Int), .int .i64 ((512 : Nat) : Int)]]) ?_ rfl ⟨.pointer none, by rw [Hck.out], ((((hO4).setCell (.inr hgR) _).setCell (.inr hgR) _).setCell (.inr hgR) _), .inr ⟨rfl, by rw [Hck.out]; simp⟩⟩
        rw [results_tmp_cell rfl]
        exact load3 (((hbE.set 0 _).set 1 _).set 2 _)
      · have G1 : RowKit.Hid (longW 0 a = none) := Lib.hid (by unfold longW; rw [if_neg (by rw [N1.out]; exact hl)])
        go_wp2_with (fail)
        go_round
        case rel => exact .inr (.inl ⟨rfl, G1.out⟩)
        case measure => simp [intOf]
    · have _ := trivial
      have G1 := Lib.hid g1
      clear g1
      by_cases hl : 512 < n2
      · have hs : longW 1 b = some (4, 2, 512) := by unfold longW; rw [if_pos (by rw [N2.out]; exact hl)]
        have hck : checkW a b d = (4, 2, 512) := firstSome 1 (congrArg some hs) (fun t ht => match t, ht with | 0, _ => congrArg some G1.out | t + 1, ht => absurd ht (by omega))
        have Hck := Lib.hid hck
        have hbE := hbR
        have e0 := hbE.cell 0
        have e1 := hbE.cell 1
        have e2 := hbE.cell 2
        have z0 := hbE.frozen 0
        have z1 := hbE.frozen 1
        have z2 := hbE.frozen 2
        clear hck hs
        go_wp2_with (fail)
        (try simp only [Exit.inBlock, Exit.then])
        refine bodyPost_ret (v := .tuple #[.pointer none, .agg #[.int .i64 ((4 : Nat) : Int), .int .i64 ((2 : Nat) : Int), .int .i64 ((512 : Nat) : Int)]]) ?_ rfl ⟨.pointer none, by rw [Hck.out], ((((hO4).setCell (.inr hgR) _).setCell (.inr hgR) _).setCell (.inr hgR) _), .inr ⟨rfl, by rw [Hck.out]; simp⟩⟩
        rw [results_tmp_cell rfl]
        exact load3 (((hbE.set 0 _).set 1 _).set 2 _)
      · have G2 : RowKit.Hid (longW 1 b = none) := Lib.hid (by unfold longW; rw [if_neg (by rw [N2.out]; exact hl)])
        go_wp2_with (fail)
        go_round
        case rel => exact .inr (.inr (.inl ⟨rfl, G1.out, G2.out⟩))
        case measure => simp [intOf]
    · have _ := trivial
      have G1 := Lib.hid g1
      have G2 := Lib.hid g2
      clear g1 g2
      by_cases hl : 512 < n3
      · have hs : longW 2 d = some (4, 3, 512) := by unfold longW; rw [if_pos (by rw [N3.out]; exact hl)]
        have hck : checkW a b d = (4, 3, 512) := firstSome 2 (congrArg some hs) (fun t ht => match t, ht with | 0, _ => congrArg some G1.out | 1, _ => congrArg some G2.out | t + 2, ht => absurd ht (by omega))
        have Hck := Lib.hid hck
        have hbE := hbR
        have e0 := hbE.cell 0
        have e1 := hbE.cell 1
        have e2 := hbE.cell 2
        have z0 := hbE.frozen 0
        have z1 := hbE.frozen 1
        have z2 := hbE.frozen 2
        clear hck hs
        go_wp2_with (fail)
        (try simp only [Exit.inBlock, Exit.then])
        refine bodyPost_ret (v := .tuple #[.pointer none, .agg #[.int .i64 ((4 : Nat) : Int), .int .i64 ((3 : Nat) : Int), .int .i64 ((512 : Nat) : Int)]]) ?_ rfl ⟨.pointer none, by rw [Hck.out], ((((hO4).setCell (.inr hgR) _).setCell (.inr hgR) _).setCell (.inr hgR) _), .inr ⟨rfl, by rw [Hck.out]; simp⟩⟩
        rw [results_tmp_cell rfl]
        exact load3 (((hbE.set 0 _).set 1 _).set 2 _)
      · have G3 : RowKit.Hid (longW 2 d = none) := Lib.hid (by unfold longW; rw [if_neg (by rw [N3.out]; exact hl)])
        go_wp2_with (fail)
        go_round
        case rel => exact .inr (.inr (.inr (⟨rfl, G1.out, G2.out, G3.out⟩)))
        case measure => simp [intOf]
    · have m1 : n1 ≤ 512 := by unfold longW at g1; rw [N1.out] at g1; by_cases h : 512 < n1 <;> simp [h] at g1; omega
      have m2 : n2 ≤ 512 := by unfold longW at g2; rw [N2.out] at g2; by_cases h : 512 < n2 <;> simp [h] at g2; omega
      have m3 : n3 ≤ 512 := by unfold longW at g3; rw [N3.out] at g3; by_cases h : 512 < n3 <;> simp [h] at g3; omega
      have G1 := Lib.hid g1
      have G2 := Lib.hid g2
      have G3 := Lib.hid g3
      clear g1 g2 g3
      go_wp2_with (fail)
      go_loopw [51] (fun vi wr => Only [] w4 wr ∧ ((vi = .int .i64 0) ∨ (vi = .int .i64 1 ∧ rightW 0 a = none) ∨ (vi = .int .i64 2 ∧ rightW 0 a = none ∧ rightW 1 b = none) ∨ (vi = .int .i64 3 ∧ rightW 0 a = none ∧ rightW 1 b = none ∧ rightW 2 d = none))) (fun vi _ => 3 - (intOf vi).toNat)
      case atStart => exact ⟨.refl _ _, .inl rfl⟩
      case round =>
        obtain ⟨hw, hrel⟩ := hrel
        clear t0 t1 t2
        rcases hrel with rfl | ⟨rfl, g4⟩ | ⟨rfl, g4, g5⟩ | ⟨rfl, g4, g5, g6⟩
        · have _ := trivial
          go_wp2_with (fail)
          refine (right_any n1 k1 D1 a wr w4.heap.size (q1.only hw (by simp)) hw.size N1.out (by omega)).mono ?_
          rintro e w5 ⟨rfl, hO5⟩
          replace hO5 := hw.trans hO5
          obtain ⟨⟨rx, ry⟩, hrr⟩ : ∃ rr, rr = rightFrom none 0 a := ⟨_, rfl⟩
          rw [← hrr]
          have hry := rightFrom_why none 0 a
          rw [← hrr] at hry
          simp only at hry ⊢
          have hs0 : ry ≠ 0 → rightW 0 a = some (ry, 1, rx) := fun h => by unfold rightW; rw [← hrr, if_neg h]
          have hs1 : ry = 0 → rightW 0 a = none := fun h => by unfold rightW; rw [← hrr, if_pos h]
          have Hs0 := Lib.hid hs0
          have Hs1 := Lib.hid hs1
          clear hrr hs0 hs1
          by_cases hz : ry = 0
          · subst hz
            go_wp2_with (fail)
            go_roundw
            case rel => exact ⟨hO5, .inr (.inl ⟨rfl, Hs1.out rfl⟩)⟩
            case measure => simp [intOf]
          · have hs := Hs0.out hz
            have hck : checkW a b d = (ry, 1, rx) := firstSome 3 (congrArg some hs) (fun t ht => match t, ht with | 0, _ => congrArg some G1.out | 1, _ => congrArg some G2.out | 2, _ => congrArg some G3.out | t + 3, ht => absurd ht (by omega))
            have Hck := Lib.hid hck
            have hbE := hbR.only hO5 (by simp)
            have e0 := hbE.cell 0
            have e1 := hbE.cell 1
            have e2 := hbE.cell 2
            have z0 := hbE.frozen 0
            have z1 := hbE.frozen 1
            have z2 := hbE.frozen 2
            clear hck hs hry
            have hz' : ¬ (ry : Int) = 0 := by omega
            go_wp2_with (fail)
            (try simp only [Exit.inBlock, Exit.then])
            refine bodyPost_ret (v := .tuple #[.pointer none, .agg #[.int .i64 ((ry : Nat) : Int), .int .i64 ((1 : Nat) : Int), .int .i64 ((rx : Nat) : Int)]]) ?_ rfl ⟨.pointer none, by rw [Hck.out], ((((hO4.trans hO5).setCell (.inr hgR) _).setCell (.inr hgR) _).setCell (.inr hgR) _), .inr ⟨rfl, by rw [Hck.out]; exact hz⟩⟩
            rw [results_tmp_cell rfl]
            exact load3 (((hbE.set 0 _).set 1 _).set 2 _)
        · have _ := trivial
          have G4 := Lib.hid g4
          clear g4
          go_wp2_with (fail)
          refine (right_any n2 k2 D2 b wr w4.heap.size (q2.only hw (by simp)) hw.size N2.out (by omega)).mono ?_
          rintro e w5 ⟨rfl, hO5⟩
          replace hO5 := hw.trans hO5
          obtain ⟨⟨rx, ry⟩, hrr⟩ : ∃ rr, rr = rightFrom none 0 b := ⟨_, rfl⟩
          rw [← hrr]
          have hry := rightFrom_why none 0 b
          rw [← hrr] at hry
          simp only at hry ⊢
          have hs0 : ry ≠ 0 → rightW 1 b = some (ry, 2, rx) := fun h => by unfold rightW; rw [← hrr, if_neg h]
          have hs1 : ry = 0 → rightW 1 b = none := fun h => by unfold rightW; rw [← hrr, if_pos h]
          have Hs0 := Lib.hid hs0
          have Hs1 := Lib.hid hs1
          clear hrr hs0 hs1
          by_cases hz : ry = 0
          · subst hz
            go_wp2_with (fail)
            go_roundw
            case rel => exact ⟨hO5, .inr (.inr (.inl ⟨rfl, G4.out, Hs1.out rfl⟩))⟩
            case measure => simp [intOf]
          · have hs := Hs0.out hz
            have hck : checkW a b d = (ry, 2, rx) := firstSome 4 (congrArg some hs) (fun t ht => match t, ht with | 0, _ => congrArg some G1.out | 1, _ => congrArg some G2.out | 2, _ => congrArg some G3.out | 3, _ => congrArg some G4.out | t + 4, ht => absurd ht (by omega))
            have Hck := Lib.hid hck
            have hbE := hbR.only hO5 (by simp)
            have e0 := hbE.cell 0
            have e1 := hbE.cell 1
            have e2 := hbE.cell 2
            have z0 := hbE.frozen 0
            have z1 := hbE.frozen 1
            have z2 := hbE.frozen 2
            clear hck hs hry
            have hz' : ¬ (ry : Int) = 0 := by omega
            go_wp2_with (fail)
            (try simp only [Exit.inBlock, Exit.then])
            refine bodyPost_ret (v := .tuple #[.pointer none, .agg #[.int .i64 ((ry : Nat) : Int), .int .i64 ((2 : Nat) : Int), .int .i64 ((rx : Nat) : Int)]]) ?_ rfl ⟨.pointer none, by rw [Hck.out], ((((hO4.trans hO5).setCell (.inr hgR) _).setCell (.inr hgR) _).setCell (.inr hgR) _), .inr ⟨rfl, by rw [Hck.out]; exact hz⟩⟩
            rw [results_tmp_cell rfl]
            exact load3 (((hbE.set 0 _).set 1 _).set 2 _)
        · have _ := trivial
          have G4 := Lib.hid g4
          have G5 := Lib.hid g5
          clear g4 g5
          go_wp2_with (fail)
          refine (right_any n3 k3 D3 d wr w4.heap.size (q3.only hw (by simp)) hw.size N3.out (by omega)).mono ?_
          rintro e w5 ⟨rfl, hO5⟩
          replace hO5 := hw.trans hO5
          obtain ⟨⟨rx, ry⟩, hrr⟩ : ∃ rr, rr = rightFrom none 0 d := ⟨_, rfl⟩
          rw [← hrr]
          have hry := rightFrom_why none 0 d
          rw [← hrr] at hry
          simp only at hry ⊢
          have hs0 : ry ≠ 0 → rightW 2 d = some (ry, 3, rx) := fun h => by unfold rightW; rw [← hrr, if_neg h]
          have hs1 : ry = 0 → rightW 2 d = none := fun h => by unfold rightW; rw [← hrr, if_pos h]
          have Hs0 := Lib.hid hs0
          have Hs1 := Lib.hid hs1
          clear hrr hs0 hs1
          by_cases hz : ry = 0
          · subst hz
            go_wp2_with (fail)
            go_roundw
            case rel => exact ⟨hO5, .inr (.inr (.inr (⟨rfl, G4.out, G5.out, Hs1.out rfl⟩)))⟩
            case measure => simp [intOf]
          · have hs := Hs0.out hz
            have hck : checkW a b d = (ry, 3, rx) := firstSome 5 (congrArg some hs) (fun t ht => match t, ht with | 0, _ => congrArg some G1.out | 1, _ => congrArg some G2.out | 2, _ => congrArg some G3.out | 3, _ => congrArg some G4.out | 4, _ => congrArg some G5.out | t + 5, ht => absurd ht (by omega))
            have Hck := Lib.hid hck
            have hbE := hbR.only hO5 (by simp)
            have e0 := hbE.cell 0
            have e1 := hbE.cell 1
            have e2 := hbE.cell 2
            have z0 := hbE.frozen 0
            have z1 := hbE.frozen 1
            have z2 := hbE.frozen 2
            clear hck hs hry
            have hz' : ¬ (ry : Int) = 0 := by omega
            go_wp2_with (fail)
            (try simp only [Exit.inBlock, Exit.then])
            refine bodyPost_ret (v := .tuple #[.pointer none, .agg #[.int .i64 ((ry : Nat) : Int), .int .i64 ((3 : Nat) : Int), .int .i64 ((rx : Nat) : Int)]]) ?_ rfl ⟨.pointer none, by rw [Hck.out], ((((hO4.trans hO5).setCell (.inr hgR) _).setCell (.inr hgR) _).setCell (.inr hgR) _), .inr ⟨rfl, by rw [Hck.out]; exact hz⟩⟩
            rw [results_tmp_cell rfl]
            exact load3 (((hbE.set 0 _).set 1 _).set 2 _)
        · have G4 := Lib.hid g4
          have G5 := Lib.hid g5
          have G6 := Lib.hid g6
          clear g4 g5 g6
          have t0 := hw.cellv (hbT.cell 0) (by simp)
          have t1 := hw.cellv (hbT.cell 1) (by simp)
          have t2 := hw.cellv (hbT.cell 2) (by simp)
          replace t0 : wr.cell? ⟨g, 0, none⟩ = some (.slice D1 n1 k1) := t0
          replace t1 : wr.cell? ⟨g, 1, none⟩ = some (.slice D2 n2 k2) := t1
          replace t2 : wr.cell? ⟨g, 2, none⟩ = some (.slice D3 n3 k3) := t2
          have R1 : RightL a := RightL.of (by have h := G4.out; unfold rightW at h; split at h; assumption; cases h)
          have R2 : RightL b := RightL.of (by have h := G5.out; unfold rightW at h; split at h; assumption; cases h)
          have R3 : RightL d := RightL.of (by have h := G6.out; unfold rightW at h; split at h; assumption; cases h)
          go_wp2_with (fail)
          go_loopw [72] (fun vi wy => Only [] w4 wy ∧ ((vi = .int .i64 0) ∨ (vi = .int .i64 1) ∨ (vi = .int .i64 2 ∧ over1 a b = none) ∨ (vi = .int .i64 3 ∧ over1 a b = none ∧ over2 a b d = none))) (fun vi _ => 3 - (intOf vi).toNat)
          case atStart => exact ⟨hw, .inl rfl⟩
          case round =>
            clear t0 t1 t2 hw
            obtain ⟨hw, hrel⟩ := hrel
            rcases hrel with rfl | rfl | ⟨rfl, g7⟩ | ⟨rfl, g7, g8⟩
            · go_wp2_with (fail)
              go_loopw [84, 17, 18] (fun vj vr vo wx => wx = wr ∧ vj = .int .i64 0 ∧ vr = .int .i64 n1 ∧ vo = .bool false) (fun _ _ _ _ => 0)
              case atStart => exact ⟨rfl, rfl, rfl, rfl⟩
              case round =>
                obtain ⟨rfl, rfl, rfl, rfl⟩ := hrel
                go_wp2_with (fail)
                go_roundw
                case rel => exact ⟨hw, .inr (.inl rfl)⟩
                case measure => simp [intOf]
            · go_wp2_with (fail)
              go_loopw [84, 17, 18] (fun vj vr vo wx => Only [] w4 wx ∧ ∃ o : Option Nat, vr = .int .i64 ((o.getD n2 : Nat) : Int) ∧ vo = .bool o.isSome ∧ ((vj = .int .i64 0 ∧ o = none) ∨ (vj = .int .i64 1 ∧ o = meetFrom a 0 b))) (fun vj _ _ _ => 1 - (intOf vj).toNat)
              case atStart => exact ⟨hw, none, rfl, rfl, .inl ⟨rfl, rfl⟩⟩
              case round =>
                clear hw
                obtain ⟨hw, o, rfl, rfl, hrel⟩ := hrel
                rcases hrel with ⟨rfl, ho⟩ | ⟨rfl, ho⟩
                · have Ho := Lib.hid ho
                  clear ho
                  have t0 := hw.cellv (hbT.cell 0) (by simp)
                  replace t0 : wr.cell? ⟨g, 0, none⟩ = some (.slice D1 n1 k1) := t0
                  go_wp2_with (fail)
                  refine (meet_any n2 k2 n1 k1 D2 D1 b a wr w4.heap.size (q2.only hw (by simp)) (q1.only hw (by simp)) hw.size N2.out N1.out (by omega) (by omega) R2 R1).mono ?_
                  rintro e w6 ⟨rfl, hO6⟩
                  replace hO6 := hw.trans hO6
                  obtain ⟨om, hom⟩ : ∃ om, om = meetFrom a 0 b := ⟨_, rfl⟩
                  have hlt : ∀ r, om = some r → r < n2 := fun r h => by have h2 := meetFrom_lt (hom.symm.trans h); rw [N2.out] at h2; omega
                  rw [← hom]
                  have Hx := Lib.hid hom
                  clear hom t0
                  unfold metV
                  cases om with
                  | none =>
                    clear hlt
                    go_wp2_with (fail)
                    go_roundw
                    case rel => exact ⟨hO6, none, by (rw [Ho.out]) <;> rfl, by rw [Ho.out], .inr ⟨rfl, Hx.out⟩⟩
                    case measure => simp [intOf]
                  | some r =>
                    have hr' := hlt r rfl
                    clear hlt
                    obtain rfl : o = none := Ho.out
                    simp only [Option.getD_none, Option.getD_some, Option.isSome]
                    go_wp2_with (fail)
                    go_roundw
                    case rel => exact ⟨hO6, some r, by simp only [Option.getD_some] <;> apply congrArg (Value.int .i64) <;> first | rfl | omega | (split <;> omega), rfl, .inr ⟨rfl, Hx.out⟩⟩
                    case measure => simp [intOf]
                · have hov : over1 a b = o.map fun r => (16, 2, r) := by rw [ho]; rfl
                  have Hov := Lib.hid hov
                  clear ho hov
                  cases o with
                  | none =>
                    simp only [Option.getD_none, Option.getD_some, Option.isSome]
                    go_wp2_with (fail)
                    go_roundw
                    case rel => exact ⟨hw, .inr (.inr (.inl ⟨rfl, Hov.out⟩))⟩
                    case measure => simp [intOf]
                  | some r =>
                    simp only [Option.getD_none, Option.getD_some, Option.isSome]
                    have hs : over1 a b = some (16, 2, r) := Hov.out
                    have hck : checkW a b d = (16, 2, r) := firstSome 6 (congrArg some hs) (fun t ht => match t, ht with | 0, _ => congrArg some G1.out | 1, _ => congrArg some G2.out | 2, _ => congrArg some G3.out | 3, _ => congrArg some G4.out | 4, _ => congrArg some G5.out | 5, _ => congrArg some G6.out | t + 6, ht => absurd ht (by omega))
                    have Hck := Lib.hid hck
                    have hbE := hbR.only hw (by simp)
                    have e0 := hbE.cell 0
                    have e1 := hbE.cell 1
                    have e2 := hbE.cell 2
                    have z0 := hbE.frozen 0
                    have z1 := hbE.frozen 1
                    have z2 := hbE.frozen 2
                    clear hck hs
                    go_wp2_with (fail)
                    (try simp only [Exit.inBlock, Exit.then])
                    refine bodyPost_ret (v := .tuple #[.pointer none, .agg #[.int .i64 ((16 : Nat) : Int), .int .i64 ((2 : Nat) : Int), .int .i64 ((r : Nat) : Int)]]) ?_ rfl ⟨.pointer none, by rw [Hck.out], ((((hO4.trans hw).setCell (.inr hgR) _).setCell (.inr hgR) _).setCell (.inr hgR) _), .inr ⟨rfl, by rw [Hck.out]; simp⟩⟩
                    rw [results_tmp_cell rfl]
                    exact load3 (((hbE.set 0 _).set 1 _).set 2 _)
            · have G7 := Lib.hid g7
              clear g7
              go_wp2_with (fail)
              go_loopw [84, 17, 18] (fun vj vr vo wx => Only [] w4 wx ∧ ∃ o : Option Nat, vr = .int .i64 ((o.getD n3 : Nat) : Int) ∧ vo = .bool o.isSome ∧ ((vj = .int .i64 0 ∧ o = none) ∨ (vj = .int .i64 1 ∧ o = meetFrom a 0 d) ∨ (vj = .int .i64 2 ∧ o = least2 (meetFrom a 0 d) (meetFrom b 0 d)))) (fun vj _ _ _ => 2 - (intOf vj).toNat)
              case atStart => exact ⟨hw, none, rfl, rfl, .inl ⟨rfl, rfl⟩⟩
              case round =>
                clear hw
                obtain ⟨hw, o, rfl, rfl, hrel⟩ := hrel
                rcases hrel with ⟨rfl, ho⟩ | ⟨rfl, ho⟩ | ⟨rfl, ho⟩
                · have Ho := Lib.hid ho
                  clear ho
                  have t0 := hw.cellv (hbT.cell 0) (by simp)
                  replace t0 : wr.cell? ⟨g, 0, none⟩ = some (.slice D1 n1 k1) := t0
                  go_wp2_with (fail)
                  refine (meet_any n3 k3 n1 k1 D3 D1 d a wr w4.heap.size (q3.only hw (by simp)) (q1.only hw (by simp)) hw.size N3.out N1.out (by omega) (by omega) R3 R1).mono ?_
                  rintro e w6 ⟨rfl, hO6⟩
                  replace hO6 := hw.trans hO6
                  obtain ⟨om, hom⟩ : ∃ om, om = meetFrom a 0 d := ⟨_, rfl⟩
                  have hlt : ∀ r, om = some r → r < n3 := fun r h => by have h2 := meetFrom_lt (hom.symm.trans h); rw [N3.out] at h2; omega
                  rw [← hom]
                  have Hx := Lib.hid hom
                  clear hom t0
                  unfold metV
                  cases om with
                  | none =>
                    clear hlt
                    go_wp2_with (fail)
                    go_roundw
                    case rel => exact ⟨hO6, none, by (rw [Ho.out]) <;> rfl, by rw [Ho.out], .inr (.inl ⟨rfl, Hx.out⟩)⟩
                    case measure => simp [intOf]
                  | some r =>
                    have hr' := hlt r rfl
                    clear hlt
                    obtain rfl : o = none := Ho.out
                    simp only [Option.getD_none, Option.getD_some, Option.isSome]
                    go_wp2_with (fail)
                    go_roundw
                    case rel => exact ⟨hO6, some r, by simp only [Option.getD_some] <;> apply congrArg (Value.int .i64) <;> first | rfl | omega | (split <;> omega), rfl, .inr (.inl ⟨rfl, Hx.out⟩)⟩
                    case measure => simp [intOf]
                · have Ho := Lib.hid ho
                  clear ho
                  have t1 := hw.cellv (hbT.cell 1) (by simp)
                  replace t1 : wr.cell? ⟨g, 1, none⟩ = some (.slice D2 n2 k2) := t1
                  go_wp2_with (fail)
                  refine (meet_any n3 k3 n2 k2 D3 D2 d b wr w4.heap.size (q3.only hw (by simp)) (q2.only hw (by simp)) hw.size N3.out N2.out (by omega) (by omega) R3 R2).mono ?_
                  rintro e w6 ⟨rfl, hO6⟩
                  replace hO6 := hw.trans hO6
                  obtain ⟨om, hom⟩ : ∃ om, om = meetFrom b 0 d := ⟨_, rfl⟩
                  have hlt : ∀ r, om = some r → r < n3 := fun r h => by have h2 := meetFrom_lt (hom.symm.trans h); rw [N3.out] at h2; omega
                  rw [← hom]
                  have Hx := Lib.hid hom
                  clear hom t1
                  unfold metV
                  cases om with
                  | none =>
                    clear hlt
                    go_wp2_with (fail)
                    go_roundw
                    case rel => exact ⟨hO6, o, rfl, rfl, .inr (.inr ⟨rfl, by rw [← Hx.out, ← Ho.out]; cases o <;> rfl⟩)⟩
                    case measure => simp [intOf]
                  | some r =>
                    have hr' := hlt r rfl
                    clear hlt
                    cases o with
                    | none =>
                      simp only [Option.getD_none, Option.getD_some, Option.isSome]
                      go_wp2_with (fail)
                      go_roundw
                      case rel => exact ⟨hO6, some r, by simp only [Option.getD_some] <;> apply congrArg (Value.int .i64) <;> first | rfl | omega | (split <;> omega), rfl, .inr (.inr ⟨rfl, by rw [← Hx.out, ← Ho.out]; rfl⟩)⟩
                      case measure => simp [intOf]
                    | some x =>
                      simp only [Option.getD_none, Option.getD_some, Option.isSome]
                      go_wp2_with (fail)
                      go_roundw
                      case rel => exact ⟨hO6, some (min x r), by simp only [Option.getD_some] <;> apply congrArg (Value.int .i64) <;> first | rfl | omega | (split <;> omega), rfl, .inr (.inr ⟨rfl, by rw [← Hx.out, ← Ho.out]; rfl⟩)⟩
                      case measure => simp [intOf]
                · have hov : over2 a b d = o.map fun r => (16, 3, r) := by rw [ho]; rfl
                  have Hov := Lib.hid hov
                  clear ho hov
                  cases o with
                  | none =>
                    simp only [Option.getD_none, Option.getD_some, Option.isSome]
                    go_wp2_with (fail)
                    go_roundw
                    case rel => exact ⟨hw, .inr (.inr (.inr ⟨rfl, G7.out, Hov.out⟩))⟩
                    case measure => simp [intOf]
                  | some r =>
                    simp only [Option.getD_none, Option.getD_some, Option.isSome]
                    have hs : over2 a b d = some (16, 3, r) := Hov.out
                    have hck : checkW a b d = (16, 3, r) := firstSome 7 (congrArg some hs) (fun t ht => match t, ht with | 0, _ => congrArg some G1.out | 1, _ => congrArg some G2.out | 2, _ => congrArg some G3.out | 3, _ => congrArg some G4.out | 4, _ => congrArg some G5.out | 5, _ => congrArg some G6.out | 6, _ => congrArg some G7.out | t + 7, ht => absurd ht (by omega))
                    have Hck := Lib.hid hck
                    have hbE := hbR.only hw (by simp)
                    have e0 := hbE.cell 0
                    have e1 := hbE.cell 1
                    have e2 := hbE.cell 2
                    have z0 := hbE.frozen 0
                    have z1 := hbE.frozen 1
                    have z2 := hbE.frozen 2
                    clear hck hs
                    go_wp2_with (fail)
                    (try simp only [Exit.inBlock, Exit.then])
                    refine bodyPost_ret (v := .tuple #[.pointer none, .agg #[.int .i64 ((16 : Nat) : Int), .int .i64 ((3 : Nat) : Int), .int .i64 ((r : Nat) : Int)]]) ?_ rfl ⟨.pointer none, by rw [Hck.out], ((((hO4.trans hw).setCell (.inr hgR) _).setCell (.inr hgR) _).setCell (.inr hgR) _), .inr ⟨rfl, by rw [Hck.out]; simp⟩⟩
                    rw [results_tmp_cell rfl]
                    exact load3 (((hbE.set 0 _).set 1 _).set 2 _)
            · have G7 := Lib.hid g7
              have G8 := Lib.hid g8
              have hbk := blank_kind g8
              have Hbk := Lib.hid hbk
              clear g7 g8 hbk
              have hT : Tab wr (h0 + 1) g a b d := ⟨⟨D1, D2, D3, k1, k2, k3, by rw [N1.out, N2.out, N3.out]; exact hbT.only hw (by simp), hgw, by rw [N1.out]; exact (q1.only hw (by simp)).more hw.size, by rw [N2.out]; exact (q2.only hw (by simp)).more hw.size, by rw [N3.out]; exact (q3.only hw (by simp)).more hw.size, f1, f2, f3⟩, by rw [N1.out, N2.out, N3.out]; exact ⟨m1, m2, m3⟩, ⟨R1, R2, R3⟩⟩
              go_wp2_with (fail)
              refine (of_any wr _ g a b d hT 32).mono ?_
              rintro e w7 ⟨rfl, hO7⟩
              replace hT := hT.only hO7 (by simp)
              replace hO7 := hw.trans hO7
              obtain ⟨K1, hK1⟩ : ∃ K, K = kindOf a b d 32 := ⟨_, rfl⟩
              rw [← hK1]
              have HK1 := Lib.hid hK1
              clear hK1
              by_cases h3 : K1 = 3
              · subst h3
                go_wp2_with (fail)
                refine (of_any w7 _ g a b d hT 39).mono ?_
                rintro e w8 ⟨rfl, hO8⟩
                replace hT := hT.only hO8 (by simp)
                replace hO8 := hO7.trans hO8
                obtain ⟨K2, hK2⟩ : ∃ K, K = kindOf a b d 39 := ⟨_, rfl⟩
                rw [← hK2]
                have HK2 := Lib.hid hK2
                clear hK2
                by_cases h4 : K2 = 4
                · subst h4
                  have hs : blankW a b d = none := (Hbk.out.1).2 ⟨HK1.out.symm, HK2.out.symm⟩
                  have hck : checkW a b d = (0, 0, 0) := noneW (by intro u hu; simp only [stagesW, List.mem_cons, List.not_mem_nil, or_false] at hu; rcases hu with rfl | rfl | rfl | rfl | rfl | rfl | rfl | rfl | rfl <;> first | exact G1.out | exact G2.out | exact G3.out | exact G4.out | exact G5.out | exact G6.out | exact G7.out | exact G8.out | exact hs)
                  have Hck := Lib.hid hck
                  have hbE := hbR.only hO8 (by simp)
                  have e0 := hbE.cell 0
                  have e1 := hbE.cell 1
                  have e2 := hbE.cell 2
                  have z0 := hbE.frozen 0
                  have z1 := hbE.frozen 1
                  have z2 := hbE.frozen 2
                  clear hck hs
                  go_wp2_with (fail)
                  (try simp only [Exit.inBlock, Exit.then])
                  refine bodyPost_ret (v := .tuple #[.pointer (some ⟨g, 0, none⟩), .agg #[.int .i64 ((0 : Nat) : Int), .int .i64 ((0 : Nat) : Int), .int .i64 ((0 : Nat) : Int)]]) ?_ rfl ⟨.pointer (some ⟨g, 0, none⟩), by rw [Hck.out], ((((hO4.trans hO8).setCell (.inr hgR) _).setCell (.inr hgR) _).setCell (.inr hgR) _), .inl ⟨g, rfl, by rw [Hck.out], ?_⟩⟩
                  · rw [results_tmp_cell rfl]
                    exact load3 (((hbE.set 0 _).set 1 _).set 2 _)
                  · exact (hT.only ((((Only.refl [h0] w8).setCell (.inl (by simp)) _).setCell (.inl (by simp)) _).setCell (.inl (by simp)) _) (by simp)).base (by rw [HgR.out]; omega)
                · have hs : blankW a b d = some (20, 3, 0) := by
                    rcases Hbk.out.2 with h | h
                    · exact absurd ((Hbk.out.1).1 h).2.symm (by rw [← HK2.out]; exact fun e => h4 e.symm)
                    · exact h
                  have hz' : ¬ (K2 : Int) = 4 := by omega
                  have hck : checkW a b d = (20, 3, 0) := firstSome 8 (congrArg some hs) (fun t ht => match t, ht with | 0, _ => congrArg some G1.out | 1, _ => congrArg some G2.out | 2, _ => congrArg some G3.out | 3, _ => congrArg some G4.out | 4, _ => congrArg some G5.out | 5, _ => congrArg some G6.out | 6, _ => congrArg some G7.out | 7, _ => congrArg some G8.out | t + 8, ht => absurd ht (by omega))
                  have Hck := Lib.hid hck
                  have hbE := hbR.only hO8 (by simp)
                  have e0 := hbE.cell 0
                  have e1 := hbE.cell 1
                  have e2 := hbE.cell 2
                  have z0 := hbE.frozen 0
                  have z1 := hbE.frozen 1
                  have z2 := hbE.frozen 2
                  clear hck hs
                  go_wp2_with (fail)
                  (try simp only [Exit.inBlock, Exit.then])
                  refine bodyPost_ret (v := .tuple #[.pointer none, .agg #[.int .i64 ((20 : Nat) : Int), .int .i64 ((3 : Nat) : Int), .int .i64 ((0 : Nat) : Int)]]) ?_ rfl ⟨.pointer none, by rw [Hck.out], ((((hO4.trans hO8).setCell (.inr hgR) _).setCell (.inr hgR) _).setCell (.inr hgR) _), .inr ⟨rfl, by rw [Hck.out]; simp⟩⟩
                  rw [results_tmp_cell rfl]
                  exact load3 (((hbE.set 0 _).set 1 _).set 2 _)
              · have hs : blankW a b d = some (20, 3, 0) := by
                  rcases Hbk.out.2 with h | h
                  · exact absurd ((Hbk.out.1).1 h).1.symm (by rw [← HK1.out]; exact fun e => h3 e.symm)
                  · exact h
                have hz' : ¬ (K1 : Int) = 3 := by omega
                have hck : checkW a b d = (20, 3, 0) := firstSome 8 (congrArg some hs) (fun t ht => match t, ht with | 0, _ => congrArg some G1.out | 1, _ => congrArg some G2.out | 2, _ => congrArg some G3.out | 3, _ => congrArg some G4.out | 4, _ => congrArg some G5.out | 5, _ => congrArg some G6.out | 6, _ => congrArg some G7.out | 7, _ => congrArg some G8.out | t + 8, ht => absurd ht (by omega))
                have Hck := Lib.hid hck
                have hbE := hbR.only hO7 (by simp)
                have e0 := hbE.cell 0
                have e1 := hbE.cell 1
                have e2 := hbE.cell 2
                have z0 := hbE.frozen 0
                have z1 := hbE.frozen 1
                have z2 := hbE.frozen 2
                clear hck hs
                go_wp2_with (fail)
                (try simp only [Exit.inBlock, Exit.then])
                refine bodyPost_ret (v := .tuple #[.pointer none, .agg #[.int .i64 ((20 : Nat) : Int), .int .i64 ((3 : Nat) : Int), .int .i64 ((0 : Nat) : Int)]]) ?_ rfl ⟨.pointer none, by rw [Hck.out], ((((hO4.trans hO7).setCell (.inr hgR) _).setCell (.inr hgR) _).setCell (.inr hgR) _), .inr ⟨rfl, by rw [Hck.out]; simp⟩⟩
                rw [results_tmp_cell rfl]
                exact load3 (((hbE.set 0 _).set 1 _).set 2 _)
end Go.Proofs.YtgohinklnglgeaaDoor

set_option linter.unusedVariables false
set_option linter.unusedSimpArgs false
namespace Go.Proofs.YtgohinklnglgeaaDoor
open Go.RowKit

theorem results_cell1 {fn : Func} {p : Tmp} {ty : TypeId} (h : fn.results = #[.cell p ty]) (tmps : Array Value) (P : Program) (w : World) :
    (results fn tmps).run P w = ((asAddr (tmps.getD p undef)).run P w).andThen fun a w₁ => (loadVar ty a).run P w₁ := by
  simp only [results, h]
  simp [Sem.run_bind, Result.andThen]
theorem load3r {w : World} {h0 : Nat} {v0 v1 v2 : Value} (hb : Blk w h0 129 [v0, v1, v2]) :
    (((asAddr (.pointer (some ⟨h0, 0, none⟩))).run Tryd.prog w).andThen fun a w₁ => (loadVar 129 a).run Tryd.prog w₁) = Result.ok (Value.agg #[v0, v1, v2]) w := by
  have c0 : w.cell? ⟨h0, 0, none⟩ = some v0 := hb.cell 0
  have c1 : w.cell? ⟨h0, 1, none⟩ = some v1 := hb.cell 1
  have c2 : w.cell? ⟨h0, 2, none⟩ = some v2 := hb.cell 2
  go_simp

theorem refMeet_o (n c m d : Nat) (A A' : Option Addr) (l b : List Sp) (w : World) (B : Nat) (hr : Rd w B 2 A n (ses l)) (hr' : Rd w B 2 A' m (ses b)) (hl : l.length = n) (hb : b.length = m) (hn : n ≤ 1000000) (hm : m ≤ 1000000) (hL : RightL l) (hR : RightL b) (om : Option Nat) (hom : meetFrom b 0 l = om) :
    Calls Tryd.prog 80 #[.slice A n c, .slice A' m d] w fun e w' => e = .returned (.tuple #[.int .i64 ((om.getD 0 : Nat) : Int), .bool om.isSome]) ∧ w' = w := by
  subst hom
  exact refMeet_any n c m d A A' l b w B hr hr' hl hb hn hm hL hR
def firstV : Option Nat → Value
  | none => .int .i64 (-1)
  | some r => .int .i64 (r : Int)

set_option maxRecDepth 100000 in
set_option maxHeartbeats 8000000 in
theorem refCheck_any (w : World) (A1 A2 A3 : Option Addr) (n1 n2 n3 c1 c2 c3 : Nat) (a b d : List Sp) (hn1 : a.length = n1) (hn2 : b.length = n2) (hn3 : d.length = n3)
    (s1 : n1 ≤ 17592186043904) (s2 : n2 ≤ 17592186043904) (s3 : n3 ≤ 17592186043904) (B : Nat) (r1 : Rd w B 2 A1 n1 (ses a)) (r2 : Rd w B 2 A2 n2 (ses b)) (r3 : Rd w B 2 A3 n3 (ses d)) :
    Calls Tryd.prog 66 #[.slice A1 n1 c1, .slice A2 n2 c2, .slice A3 n3 c3] w fun e w' => e = .returned (.agg #[.int .i64 ((checkW a b d).1 : Int), .int .i64 ((checkW a b d).2.1 : Int), .int .i64 ((checkW a b d).2.2 : Int)]) ∧ Only [] w w' := by
  have N1 := Lib.hid hn1
  have N2 := Lib.hid hn2
  have N3 := Lib.hid hn3
  clear hn1 hn2 hn3
  go_enter Tryd.func66, Tryd.ntmps66
  go_wp2_with (fail)
  obtain ⟨h0, hh0⟩ : ∃ h, h = w.heap.size := ⟨_, rfl⟩
  have hbR : Blk ((w.alloc (.cells #[.int .i64 0, .int .i64 0, .int .i64 0] 129)).alloc (.cells #[.slice A1 n1 c1, .slice A2 n2 c2, .slice A3 n3 c3] 36)) h0 129 [.int .i64 0, .int .i64 0, .int .i64 0] := (Blk.new' _ _ _ hh0.symm rfl : Blk (w.alloc (.cells #[.int .i64 0, .int .i64 0, .int .i64 0] 129)) h0 129 [.int .i64 0, .int .i64 0, .int .i64 0]).only ((Only.refl [] _).alloc _) (by simp)
  have hbT : Blk ((w.alloc (.cells #[.int .i64 0, .int .i64 0, .int .i64 0] 129)).alloc (.cells #[.slice A1 n1 c1, .slice A2 n2 c2, .slice A3 n3 c3] 36)) (h0 + 1) 36 [.slice A1 n1 c1, .slice A2 n2 c2, .slice A3 n3 c3] := Blk.new' _ _ _ (by simp; omega) rfl
  have hO4 := ((Only.refl [] w).alloc (.cells #[.int .i64 0, .int .i64 0, .int .i64 0] 129)).alloc (.cells #[.slice A1 n1 c1, .slice A2 n2 c2, .slice A3 n3 c3] 36)
  rw [← hh0]
  obtain ⟨g, hg⟩ : ∃ g, g = h0 + 1 := ⟨_, rfl⟩
  rw [← hg] at hbT ⊢
  have hgR : w.heap.size ≤ h0 := Nat.le_of_eq hh0.symm
  have Hh0 := Lib.hid hh0
  have Hg := Lib.hid hg
  clear hh0 hg
  refine name_it (p := fun y => Code.wp _ _ _ _ y) ?_
  intro w4 H4
  rw [← H4.out] at hbT hbR hO4
  replace r1 := r1.only hO4 (by simp)
  replace r2 := r2.only hO4 (by simp)
  replace r3 := r3.only hO4 (by simp)
  clear H4
  have t0 : w4.cell? ⟨g, 0, none⟩ = some (.slice A1 n1 c1) := hbT.cell 0
  have t1 : w4.cell? ⟨g, 1, none⟩ = some (.slice A2 n2 c2) := hbT.cell 1
  have t2 : w4.cell? ⟨g, 2, none⟩ = some (.slice A3 n3 c3) := hbT.cell 2
  go_loop [8] (fun vi => (vi = .int .i64 0) ∨ (vi = .int .i64 1 ∧ longW 0 a = none) ∨ (vi = .int .i64 2 ∧ longW 0 a = none ∧ longW 1 b = none) ∨ (vi = .int .i64 3 ∧ longW 0 a = none ∧ longW 1 b = none ∧ longW 2 d = none)) (fun vi => 3 - (intOf vi).toNat)
  case atStart => exact .inl rfl
  case round =>
    rcases hrel with rfl | ⟨rfl, g1⟩ | ⟨rfl, g1, g2⟩ | ⟨rfl, g1, g2, g3⟩
    · have _ := trivial
      by_cases hl : 512 < n1
      · have hs : longW 0 a = some (4, 1, 512) := by unfold longW; rw [if_pos (by rw [N1.out]; exact hl)]
        have hck : checkW a b d = (4, 1, 512) := firstSome 0 (congrArg some hs) (fun t ht => absurd ht (by omega))
        have Hck := Lib.hid hck
        have hbE := hbR
        have e0 := hbE.cell 0
        have e1 := hbE.cell 1
        have e2 := hbE.cell 2
        have z0 := hbE.frozen 0
        have z1 := hbE.frozen 1
        have z2 := hbE.frozen 2
        clear hck hs
        go_wp2_with (fail)
        (try simp only [Exit.inBlock, Exit.then])
        refine bodyPost_ret (v := .agg #[.int .i64 ((4 : Nat) : Int), .int .i64 ((1 : Nat) : Int), .int .i64 ((512 : Nat) : Int)]) ?_ rfl ⟨by rw [Hck.out], ((((hO4).setCell (.inr hgR) _).setCell (.inr hgR) _).setCell (.inr hgR) _)⟩
        rw [results_cell1 rfl]
        exact load3r (((hbE.set 0 _).set 1 _).set 2 _)
      · have G1 : RowKit.Hid (longW 0 a = none) := Lib.hid (by unfold longW; rw [if_neg (by rw [N1.out]; exact hl)])
        go_wp2_with (fail)
        go_round
        case rel => exact .inr (.inl ⟨rfl, G1.out⟩)
        case measure => simp [intOf]
    · have _ := trivial
      have G1 := Lib.hid g1
      clear g1
      by_cases hl : 512 < n2
      · have hs : longW 1 b = some (4, 2, 512) := by unfold longW; rw [if_pos (by rw [N2.out]; exact hl)]
        have hck : checkW a b d = (4, 2, 512) := firstSome 1 (congrArg some hs) (fun t ht => match t, ht with | 0, _ => congrArg some G1.out | t + 1, ht => absurd ht (by omega))
        have Hck := Lib.hid hck
        have hbE := hbR
        have e0 := hbE.cell 0
        have e1 := hbE.cell 1
        have e2 := hbE.cell 2
        have z0 := hbE.frozen 0
        have z1 := hbE.frozen 1
        have z2 := hbE.frozen 2
        clear hck hs
        go_wp2_with (fail)
        (try simp only [Exit.inBlock, Exit.then])
        refine bodyPost_ret (v := .agg #[.int .i64 ((4 : Nat) : Int), .int .i64 ((2 : Nat) : Int), .int .i64 ((512 : Nat) : Int)]) ?_ rfl ⟨by rw [Hck.out], ((((hO4).setCell (.inr hgR) _).setCell (.inr hgR) _).setCell (.inr hgR) _)⟩
        rw [results_cell1 rfl]
        exact load3r (((hbE.set 0 _).set 1 _).set 2 _)
      · have G2 : RowKit.Hid (longW 1 b = none) := Lib.hid (by unfold longW; rw [if_neg (by rw [N2.out]; exact hl)])
        go_wp2_with (fail)
        go_round
        case rel => exact .inr (.inr (.inl ⟨rfl, G1.out, G2.out⟩))
        case measure => simp [intOf]
    · have _ := trivial
      have G1 := Lib.hid g1
      have G2 := Lib.hid g2
      clear g1 g2
      by_cases hl : 512 < n3
      · have hs : longW 2 d = some (4, 3, 512) := by unfold longW; rw [if_pos (by rw [N3.out]; exact hl)]
        have hck : checkW a b d = (4, 3, 512) := firstSome 2 (congrArg some hs) (fun t ht => match t, ht with | 0, _ => congrArg some G1.out | 1, _ => congrArg some G2.out | t + 2, ht => absurd ht (by omega))
        have Hck := Lib.hid hck
        have hbE := hbR
        have e0 := hbE.cell 0
        have e1 := hbE.cell 1
        have e2 := hbE.cell 2
        have z0 := hbE.frozen 0
        have z1 := hbE.frozen 1
        have z2 := hbE.frozen 2
        clear hck hs
        go_wp2_with (fail)
        (try simp only [Exit.inBlock, Exit.then])
        refine bodyPost_ret (v := .agg #[.int .i64 ((4 : Nat) : Int), .int .i64 ((3 : Nat) : Int), .int .i64 ((512 : Nat) : Int)]) ?_ rfl ⟨by rw [Hck.out], ((((hO4).setCell (.inr hgR) _).setCell (.inr hgR) _).setCell (.inr hgR) _)⟩
        rw [results_cell1 rfl]
        exact load3r (((hbE.set 0 _).set 1 _).set 2 _)
      · have G3 : RowKit.Hid (longW 2 d = none) := Lib.hid (by unfold longW; rw [if_neg (by rw [N3.out]; exact hl)])
        go_wp2_with (fail)
        go_round
        case rel => exact .inr (.inr (.inr (⟨rfl, G1.out, G2.out, G3.out⟩)))
        case measure => simp [intOf]
    · have m1 : n1 ≤ 512 := by unfold longW at g1; rw [N1.out] at g1; by_cases h : 512 < n1 <;> simp [h] at g1; omega
      have m2 : n2 ≤ 512 := by unfold longW at g2; rw [N2.out] at g2; by_cases h : 512 < n2 <;> simp [h] at g2; omega
      have m3 : n3 ≤ 512 := by unfold longW at g3; rw [N3.out] at g3; by_cases h : 512 < n3 <;> simp [h] at g3; omega
      have G1 := Lib.hid g1
      have G2 := Lib.hid g2
      have G3 := Lib.hid g3
      clear g1 g2 g3
      go_wp2_with (fail)
      go_loopw [9] (fun vi wr => Only [] w4 wr ∧ ((vi = .int .i64 0) ∨ (vi = .int .i64 1 ∧ rightW 0 a = none) ∨ (vi = .int .i64 2 ∧ rightW 0 a = none ∧ rightW 1 b = none) ∨ (vi = .int .i64 3 ∧ rightW 0 a = none ∧ rightW 1 b = none ∧ rightW 2 d = none))) (fun vi _ => 3 - (intOf vi).toNat)
      case atStart => exact ⟨.refl _ _, .inl rfl⟩
      case round =>
        obtain ⟨hw, hrel⟩ := hrel
        clear t0 t1 t2
        rcases hrel with rfl | ⟨rfl, g4⟩ | ⟨rfl, g4, g5⟩ | ⟨rfl, g4, g5, g6⟩
        · have _ := trivial
          have t0 : wr.cell? ⟨g, 0, none⟩ = some (.slice A1 n1 c1) := hw.cellv (hbT.cell 0) (by simp)
          go_wp2_with (fail)
          refine (refRight_any n1 c1 A1 a wr B (r1.only hw (by simp)) N1.out (by omega)).mono ?_
          rintro e w5 ⟨rfl, hk5⟩
          have hO5 : Only [] w4 w5 := by obtain ⟨kk, rfl⟩ := hk5; exact hw.drewN kk
          clear hk5
          obtain ⟨⟨rx, ry⟩, hrr⟩ : ∃ rr, rr = rightFrom none 0 a := ⟨_, rfl⟩
          rw [← hrr]
          have hry := rightFrom_why none 0 a
          rw [← hrr] at hry
          simp only at hry ⊢
          have hs0 : ry ≠ 0 → rightW 0 a = some (ry, 1, rx) := fun h => by unfold rightW; rw [← hrr, if_neg h]
          have hs1 : ry = 0 → rightW 0 a = none := fun h => by unfold rightW; rw [← hrr, if_pos h]
          have Hs0 := Lib.hid hs0
          have Hs1 := Lib.hid hs1
          clear hrr hs0 hs1 t0
          by_cases hz : ry = 0
          · subst hz
            go_wp2_with (fail)
            go_roundw
            case rel => exact ⟨hO5, .inr (.inl ⟨rfl, Hs1.out rfl⟩)⟩
            case measure => simp [intOf]
          · have hs := Hs0.out hz
            have hz' : ¬ (ry : Int) = 0 := by omega
            have hck : checkW a b d = (ry, 1, rx) := firstSome 3 (congrArg some hs) (fun t ht => match t, ht with | 0, _ => congrArg some G1.out | 1, _ => congrArg some G2.out | 2, _ => congrArg some G3.out | t + 3, ht => absurd ht (by omega))
            have Hck := Lib.hid hck
            have hbE := hbR.only hO5 (by simp)
            have e0 := hbE.cell 0
            have e1 := hbE.cell 1
            have e2 := hbE.cell 2
            have z0 := hbE.frozen 0
            have z1 := hbE.frozen 1
            have z2 := hbE.frozen 2
            clear hck hs hry
            go_wp2_with (fail)
            (try simp only [Exit.inBlock, Exit.then])
            refine bodyPost_ret (v := .agg #[.int .i64 ((ry : Nat) : Int), .int .i64 ((1 : Nat) : Int), .int .i64 ((rx : Nat) : Int)]) ?_ rfl ⟨by rw [Hck.out], ((((hO4.trans hO5).setCell (.inr hgR) _).setCell (.inr hgR) _).setCell (.inr hgR) _)⟩
            rw [results_cell1 rfl]
            exact load3r (((hbE.set 0 _).set 1 _).set 2 _)
        · have _ := trivial
          have G4 := Lib.hid g4
          clear g4
          have t1 : wr.cell? ⟨g, 1, none⟩ = some (.slice A2 n2 c2) := hw.cellv (hbT.cell 1) (by simp)
          go_wp2_with (fail)
          refine (refRight_any n2 c2 A2 b wr B (r2.only hw (by simp)) N2.out (by omega)).mono ?_
          rintro e w5 ⟨rfl, hk5⟩
          have hO5 : Only [] w4 w5 := by obtain ⟨kk, rfl⟩ := hk5; exact hw.drewN kk
          clear hk5
          obtain ⟨⟨rx, ry⟩, hrr⟩ : ∃ rr, rr = rightFrom none 0 b := ⟨_, rfl⟩
          rw [← hrr]
          have hry := rightFrom_why none 0 b
          rw [← hrr] at hry
          simp only at hry ⊢
          have hs0 : ry ≠ 0 → rightW 1 b = some (ry, 2, rx) := fun h => by unfold rightW; rw [← hrr, if_neg h]
          have hs1 : ry = 0 → rightW 1 b = none := fun h => by unfold rightW; rw [← hrr, if_pos h]
          have Hs0 := Lib.hid hs0
          have Hs1 := Lib.hid hs1
          clear hrr hs0 hs1 t1
          by_cases hz : ry = 0
          · subst hz
            go_wp2_with (fail)
            go_roundw
            case rel => exact ⟨hO5, .inr (.inr (.inl ⟨rfl, G4.out, Hs1.out rfl⟩))⟩
            case measure => simp [intOf]
          · have hs := Hs0.out hz
            have hz' : ¬ (ry : Int) = 0 := by omega
            have hck : checkW a b d = (ry, 2, rx) := firstSome 4 (congrArg some hs) (fun t ht => match t, ht with | 0, _ => congrArg some G1.out | 1, _ => congrArg some G2.out | 2, _ => congrArg some G3.out | 3, _ => congrArg some G4.out | t + 4, ht => absurd ht (by omega))
            have Hck := Lib.hid hck
            have hbE := hbR.only hO5 (by simp)
            have e0 := hbE.cell 0
            have e1 := hbE.cell 1
            have e2 := hbE.cell 2
            have z0 := hbE.frozen 0
            have z1 := hbE.frozen 1
            have z2 := hbE.frozen 2
            clear hck hs hry
            go_wp2_with (fail)
            (try simp only [Exit.inBlock, Exit.then])
            refine bodyPost_ret (v := .agg #[.int .i64 ((ry : Nat) : Int), .int .i64 ((2 : Nat) : Int), .int .i64 ((rx : Nat) : Int)]) ?_ rfl ⟨by rw [Hck.out], ((((hO4.trans hO5).setCell (.inr hgR) _).setCell (.inr hgR) _).setCell (.inr hgR) _)⟩
            rw [results_cell1 rfl]
            exact load3r (((hbE.set 0 _).set 1 _).set 2 _)
        · have _ := trivial
          have G4 := Lib.hid g4
          have G5 := Lib.hid g5
          clear g4 g5
          have t2 : wr.cell? ⟨g, 2, none⟩ = some (.slice A3 n3 c3) := hw.cellv (hbT.cell 2) (by simp)
          go_wp2_with (fail)
          refine (refRight_any n3 c3 A3 d wr B (r3.only hw (by simp)) N3.out (by omega)).mono ?_
          rintro e w5 ⟨rfl, hk5⟩
          have hO5 : Only [] w4 w5 := by obtain ⟨kk, rfl⟩ := hk5; exact hw.drewN kk
          clear hk5
          obtain ⟨⟨rx, ry⟩, hrr⟩ : ∃ rr, rr = rightFrom none 0 d := ⟨_, rfl⟩
          rw [← hrr]
          have hry := rightFrom_why none 0 d
          rw [← hrr] at hry
          simp only at hry ⊢
          have hs0 : ry ≠ 0 → rightW 2 d = some (ry, 3, rx) := fun h => by unfold rightW; rw [← hrr, if_neg h]
          have hs1 : ry = 0 → rightW 2 d = none := fun h => by unfold rightW; rw [← hrr, if_pos h]
          have Hs0 := Lib.hid hs0
          have Hs1 := Lib.hid hs1
          clear hrr hs0 hs1 t2
          by_cases hz : ry = 0
          · subst hz
            go_wp2_with (fail)
            go_roundw
            case rel => exact ⟨hO5, .inr (.inr (.inr (⟨rfl, G4.out, G5.out, Hs1.out rfl⟩)))⟩
            case measure => simp [intOf]
          · have hs := Hs0.out hz
            have hz' : ¬ (ry : Int) = 0 := by omega
            have hck : checkW a b d = (ry, 3, rx) := firstSome 5 (congrArg some hs) (fun t ht => match t, ht with | 0, _ => congrArg some G1.out | 1, _ => congrArg some G2.out | 2, _ => congrArg some G3.out | 3, _ => congrArg some G4.out | 4, _ => congrArg some G5.out | t + 5, ht => absurd ht (by omega))
            have Hck := Lib.hid hck
            have hbE := hbR.only hO5 (by simp)
            have e0 := hbE.cell 0
            have e1 := hbE.cell 1
            have e2 := hbE.cell 2
            have z0 := hbE.frozen 0
            have z1 := hbE.frozen 1
            have z2 := hbE.frozen 2
            clear hck hs hry
            go_wp2_with (fail)
            (try simp only [Exit.inBlock, Exit.then])
            refine bodyPost_ret (v := .agg #[.int .i64 ((ry : Nat) : Int), .int .i64 ((3 : Nat) : Int), .int .i64 ((rx : Nat) : Int)]) ?_ rfl ⟨by rw [Hck.out], ((((hO4.trans hO5).setCell (.inr hgR) _).setCell (.inr hgR) _).setCell (.inr hgR) _)⟩
            rw [results_cell1 rfl]
            exact load3r (((hbE.set 0 _).set 1 _).set 2 _)
        · have G4 := Lib.hid g4
          have G5 := Lib.hid g5
          have G6 := Lib.hid g6
          clear g4 g5 g6
          have R1 : RightL a := RightL.of (by have h := G4.out; unfold rightW at h; split at h; assumption; cases h)
          have R2 : RightL b := RightL.of (by have h := G5.out; unfold rightW at h; split at h; assumption; cases h)
          have R3 : RightL d := RightL.of (by have h := G6.out; unfold rightW at h; split at h; assumption; cases h)
          go_wp2_with (fail)
          go_loopw [12] (fun vi wy => Only [] w4 wy ∧ ((vi = .int .i64 1) ∨ (vi = .int .i64 2 ∧ over1 a b = none) ∨ (vi = .int .i64 3 ∧ over1 a b = none ∧ over2 a b d = none))) (fun vi _ => 3 - (intOf vi).toNat)
          case atStart => exact ⟨hw, .inl rfl⟩
          case round =>
            clear hw
            obtain ⟨hw, hrel⟩ := hrel
            rcases hrel with rfl | ⟨rfl, g7⟩ | ⟨rfl, g7, g8⟩
            · go_wp2_with (fail)
              go_loopw [14, 13] (fun vj vr wx => Only [] w4 wx ∧ ∃ o : Option Nat, vr = firstV o ∧ ((vj = .int .i64 0 ∧ o = none) ∨ (vj = .int .i64 1 ∧ o = meetFrom a 0 b))) (fun vj _ _ => 1 - (intOf vj).toNat)
              case atStart => exact ⟨hw, none, rfl, .inl ⟨rfl, rfl⟩⟩
              case round =>
                clear hw
                obtain ⟨hw, o, rfl, hrel⟩ := hrel
                rcases hrel with ⟨rfl, ho⟩ | ⟨rfl, ho⟩
                · have Ho := Lib.hid ho
                  clear ho
                  have t1 : wr.cell? ⟨g, 1, none⟩ = some (.slice A2 n2 c2) := hw.cellv (hbT.cell 1) (by simp)
                  have t0 : wr.cell? ⟨g, 0, none⟩ = some (.slice A1 n1 c1) := hw.cellv (hbT.cell 0) (by simp)
                  obtain ⟨om, hom⟩ : ∃ om, meetFrom a 0 b = om := ⟨_, rfl⟩
                  have Hx := Lib.hid hom
                  clear hom
                  go_upto_region 20 with (fail)
                  go_quiet ((go_at_call 80; exact Calls.quiet_of_same (refMeet_o n2 c2 n1 c1 A2 A1 b a (wr.drewN _) B ((r2.only hw (by simp)).drewN _) ((r1.only hw (by simp)).drewN _) N2.out N1.out (by omega) (by omega) R2 R1 om Hx.out)))
                  cases om with
                  | none =>
                    obtain rfl : o = none := Ho.out
                    simp only [firstV, Option.getD_none, Option.getD_some, Option.isSome]
                    go_wp2_with (fail)
                    go_roundw
                    case rel => exact ⟨hw.drewN _, none, rfl, .inr ⟨rfl, Hx.out.symm⟩⟩
                    case measure => simp [intOf]
                  | some r =>
                    obtain rfl : o = none := Ho.out
                    simp only [firstV, Option.getD_none, Option.getD_some, Option.isSome]
                    go_wp2_with (fail)
                    go_roundw
                    case rel => exact ⟨hw.drewN _, some r, rfl, .inr ⟨rfl, Hx.out.symm⟩⟩
                    case measure => simp [intOf]
                · have hov : over1 a b = o.map fun r => (16, 2, r) := by rw [ho]; rfl
                  have Hov := Lib.hid hov
                  clear ho hov
                  cases o with
                  | none =>
                    simp only [firstV]
                    go_wp2_with (fail)
                    go_roundw
                    case rel => exact ⟨hw, .inr (.inl ⟨rfl, Hov.out⟩)⟩
                    case measure => simp [intOf]
                  | some r =>
                    simp only [firstV]
                    have hs : over1 a b = some (16, 2, r) := Hov.out
                    have hck : checkW a b d = (16, 2, r) := firstSome 6 (congrArg some hs) (fun t ht => match t, ht with | 0, _ => congrArg some G1.out | 1, _ => congrArg some G2.out | 2, _ => congrArg some G3.out | 3, _ => congrArg some G4.out | 4, _ => congrArg some G5.out | 5, _ => congrArg some G6.out | t + 6, ht => absurd ht (by omega))
                    have Hck := Lib.hid hck
                    have hbE := hbR.only hw (by simp)
                    have e0 := hbE.cell 0
                    have e1 := hbE.cell 1
                    have e2 := hbE.cell 2
                    have z0 := hbE.frozen 0
                    have z1 := hbE.frozen 1
                    have z2 := hbE.frozen 2
                    clear hck hs
                    go_wp2_with (fail)
                    (try simp only [Exit.inBlock, Exit.then])
                    refine bodyPost_ret (v := .agg #[.int .i64 ((16 : Nat) : Int), .int .i64 ((2 : Nat) : Int), .int .i64 ((r : Nat) : Int)]) ?_ rfl ⟨by rw [Hck.out], ((((hO4.trans hw).setCell (.inr hgR) _).setCell (.inr hgR) _).setCell (.inr hgR) _)⟩
                    rw [results_cell1 rfl]
                    exact load3r (((hbE.set 0 _).set 1 _).set 2 _)
            · have G7 := Lib.hid g7
              clear g7
              go_wp2_with (fail)
              go_loopw [14, 13] (fun vj vr wx => Only [] w4 wx ∧ ∃ o : Option Nat, vr = firstV o ∧ ((vj = .int .i64 0 ∧ o = none) ∨ (vj = .int .i64 1 ∧ o = meetFrom a 0 d) ∨ (vj = .int .i64 2 ∧ o = least2 (meetFrom a 0 d) (meetFrom b 0 d)))) (fun vj _ _ => 2 - (intOf vj).toNat)
              case atStart => exact ⟨hw, none, rfl, .inl ⟨rfl, rfl⟩⟩
              case round =>
                clear hw
                obtain ⟨hw, o, rfl, hrel⟩ := hrel
                rcases hrel with ⟨rfl, ho⟩ | ⟨rfl, ho⟩ | ⟨rfl, ho⟩
                · have Ho := Lib.hid ho
                  clear ho
                  have t2 : wr.cell? ⟨g, 2, none⟩ = some (.slice A3 n3 c3) := hw.cellv (hbT.cell 2) (by simp)
                  have t0 : wr.cell? ⟨g, 0, none⟩ = some (.slice A1 n1 c1) := hw.cellv (hbT.cell 0) (by simp)
                  obtain ⟨om, hom⟩ : ∃ om, meetFrom a 0 d = om := ⟨_, rfl⟩
                  have Hx := Lib.hid hom
                  clear hom
                  go_upto_region 20 with (fail)
                  go_quiet ((go_at_call 80; exact Calls.quiet_of_same (refMeet_o n3 c3 n1 c1 A3 A1 d a (wr.drewN _) B ((r3.only hw (by simp)).drewN _) ((r1.only hw (by simp)).drewN _) N3.out N1.out (by omega) (by omega) R3 R1 om Hx.out)))
                  cases om with
                  | none =>
                    obtain rfl : o = none := Ho.out
                    simp only [firstV, Option.getD_none, Option.getD_some, Option.isSome]
                    go_wp2_with (fail)
                    go_roundw
                    case rel => exact ⟨hw.drewN _, none, rfl, .inr (.inl ⟨rfl, Hx.out.symm⟩)⟩
                    case measure => simp [intOf]
                  | some r =>
                    obtain rfl : o = none := Ho.out
                    simp only [firstV, Option.getD_none, Option.getD_some, Option.isSome]
                    go_wp2_with (fail)
                    go_roundw
                    case rel => exact ⟨hw.drewN _, some r, rfl, .inr (.inl ⟨rfl, Hx.out.symm⟩)⟩
                    case measure => simp [intOf]
                · have Ho := Lib.hid ho
                  clear ho
                  have t2 : wr.cell? ⟨g, 2, none⟩ = some (.slice A3 n3 c3) := hw.cellv (hbT.cell 2) (by simp)
                  have t1 : wr.cell? ⟨g, 1, none⟩ = some (.slice A2 n2 c2) := hw.cellv (hbT.cell 1) (by simp)
                  obtain ⟨om, hom⟩ : ∃ om, meetFrom b 0 d = om := ⟨_, rfl⟩
                  have Hx := Lib.hid hom
                  clear hom
                  go_upto_region 20 with (fail)
                  go_quiet ((go_at_call 80; exact Calls.quiet_of_same (refMeet_o n3 c3 n2 c2 A3 A2 d b (wr.drewN _) B ((r3.only hw (by simp)).drewN _) ((r2.only hw (by simp)).drewN _) N3.out N2.out (by omega) (by omega) R3 R2 om Hx.out)))
                  cases om with
                  | none =>
                    cases o with
                    | none =>
                      simp only [firstV, Option.getD_none, Option.getD_some, Option.isSome]
                      go_wp2_with (fail)
                      go_roundw
                      case rel => exact ⟨hw.drewN _, none, rfl, .inr (.inr ⟨rfl, by rw [← Ho.out, Hx.out]; rfl⟩)⟩
                      case measure => simp [intOf]
                    | some x =>
                      simp only [firstV, Option.getD_none, Option.getD_some, Option.isSome]
                      go_wp2_with (fail)
                      go_roundw
                      case rel => exact ⟨hw.drewN _, some x, rfl, .inr (.inr ⟨rfl, by rw [← Ho.out, Hx.out]; rfl⟩)⟩
                      case measure => simp [intOf]
                  | some r =>
                    cases o with
                    | none =>
                      simp only [firstV, Option.getD_none, Option.getD_some, Option.isSome]
                      go_wp2_with (fail)
                      go_roundw
                      case rel => exact ⟨hw.drewN _, some r, rfl, .inr (.inr ⟨rfl, by rw [← Ho.out, Hx.out]; rfl⟩)⟩
                      case measure => simp [intOf]
                    | some x =>
                      simp only [firstV, Option.getD_none, Option.getD_some, Option.isSome]
                      by_cases hrx : r < x
                      · go_wp2_with (fail)
                        go_roundw
                        case rel => exact ⟨hw.drewN _, some (min x r), by simp only [firstV]; apply congrArg (Value.int .i64); omega, .inr (.inr ⟨rfl, by rw [← Ho.out, Hx.out]; rfl⟩)⟩
                        case measure => simp [intOf]
                      · go_wp2_with (fail)
                        go_roundw
                        case rel => exact ⟨hw.drewN _, some (min x r), by simp only [firstV]; apply congrArg (Value.int .i64); omega, .inr (.inr ⟨rfl, by rw [← Ho.out, Hx.out]; rfl⟩)⟩
                        case measure => simp [intOf]
                · have hov : over2 a b d = o.map fun r => (16, 3, r) := by rw [ho]; rfl
                  have Hov := Lib.hid hov
                  clear ho hov
                  cases o with
                  | none =>
                    simp only [firstV]
                    go_wp2_with (fail)
                    go_roundw
                    case rel => exact ⟨hw, .inr (.inr ⟨rfl, G7.out, Hov.out⟩)⟩
                    case measure => simp [intOf]
                  | some r =>
                    simp only [firstV]
                    have hs : over2 a b d = some (16, 3, r) := Hov.out
                    have hck : checkW a b d = (16, 3, r) := firstSome 7 (congrArg some hs) (fun t ht => match t, ht with | 0, _ => congrArg some G1.out | 1, _ => congrArg some G2.out | 2, _ => congrArg some G3.out | 3, _ => congrArg some G4.out | 4, _ => congrArg some G5.out | 5, _ => congrArg some G6.out | 6, _ => congrArg some G7.out | t + 7, ht => absurd ht (by omega))
                    have Hck := Lib.hid hck
                    have hbE := hbR.only hw (by simp)
                    have e0 := hbE.cell 0
                    have e1 := hbE.cell 1
                    have e2 := hbE.cell 2
                    have z0 := hbE.frozen 0
                    have z1 := hbE.frozen 1
                    have z2 := hbE.frozen 2
                    clear hck hs
                    go_wp2_with (fail)
                    (try simp only [Exit.inBlock, Exit.then])
                    refine bodyPost_ret (v := .agg #[.int .i64 ((16 : Nat) : Int), .int .i64 ((3 : Nat) : Int), .int .i64 ((r : Nat) : Int)]) ?_ rfl ⟨by rw [Hck.out], ((((hO4.trans hw).setCell (.inr hgR) _).setCell (.inr hgR) _).setCell (.inr hgR) _)⟩
                    rw [results_cell1 rfl]
                    exact load3r (((hbE.set 0 _).set 1 _).set 2 _)
            · have G7 := Lib.hid g7
              have G8 := Lib.hid g8
              clear g7 g8
              go_wp2_with (fail)
              refine (refIn_any n3 c3 A3 d 32 wr B (r3.only hw (by simp)) N3.out (by omega)).mono ?_
              rintro e wr ⟨rfl, rfl⟩
              obtain ⟨x0, hx0⟩ : ∃ x, x = inSpans d 32 := ⟨_, rfl⟩
              rw [← hx0]
              have F0 := Lib.hid hx0
              clear hx0
              cases x0 with
              | false =>
                have hs : blankW a b d = some (20, 3, 0) := by unfold blankW; rw [if_neg]; intro h; have hf := F0.out; simp_all
                have hck : checkW a b d = (20, 3, 0) := firstSome 8 (congrArg some hs) (fun t ht => match t, ht with | 0, _ => congrArg some G1.out | 1, _ => congrArg some G2.out | 2, _ => congrArg some G3.out | 3, _ => congrArg some G4.out | 4, _ => congrArg some G5.out | 5, _ => congrArg some G6.out | 6, _ => congrArg some G7.out | 7, _ => congrArg some G8.out | t + 8, ht => absurd ht (by omega))
                have Hck := Lib.hid hck
                have hbE := hbR.only hw (by simp)
                have e0 := hbE.cell 0
                have e1 := hbE.cell 1
                have e2 := hbE.cell 2
                have z0 := hbE.frozen 0
                have z1 := hbE.frozen 1
                have z2 := hbE.frozen 2
                clear hck hs
                go_wp2_with (fail)
                (try simp only [Exit.inBlock, Exit.then])
                refine bodyPost_ret (v := .agg #[.int .i64 ((20 : Nat) : Int), .int .i64 ((3 : Nat) : Int), .int .i64 ((0 : Nat) : Int)]) ?_ rfl ⟨by rw [Hck.out], ((((hO4.trans hw).setCell (.inr hgR) _).setCell (.inr hgR) _).setCell (.inr hgR) _)⟩
                rw [results_cell1 rfl]
                exact load3r (((hbE.set 0 _).set 1 _).set 2 _)
              | true =>
                go_wp2_with (fail)
                refine (refIn_any n1 c1 A1 a 39 wr B (r1.only hw (by simp)) N1.out (by omega)).mono ?_
                rintro e wr ⟨rfl, rfl⟩
                obtain ⟨x1, hx1⟩ : ∃ x, x = inSpans a 39 := ⟨_, rfl⟩
                rw [← hx1]
                have F1 := Lib.hid hx1
                clear hx1
                cases x1 with
                | true =>
                  have hs : blankW a b d = some (20, 3, 0) := by unfold blankW; rw [if_neg]; intro h; have hf := F1.out; simp_all
                  have hck : checkW a b d = (20, 3, 0) := firstSome 8 (congrArg some hs) (fun t ht => match t, ht with | 0, _ => congrArg some G1.out | 1, _ => congrArg some G2.out | 2, _ => congrArg some G3.out | 3, _ => congrArg some G4.out | 4, _ => congrArg some G5.out | 5, _ => congrArg some G6.out | 6, _ => congrArg some G7.out | 7, _ => congrArg some G8.out | t + 8, ht => absurd ht (by omega))
                  have Hck := Lib.hid hck
                  have hbE := hbR.only hw (by simp)
                  have e0 := hbE.cell 0
                  have e1 := hbE.cell 1
                  have e2 := hbE.cell 2
                  have z0 := hbE.frozen 0
                  have z1 := hbE.frozen 1
                  have z2 := hbE.frozen 2
                  clear hck hs
                  go_wp2_with (fail)
                  (try simp only [Exit.inBlock, Exit.then])
                  refine bodyPost_ret (v := .agg #[.int .i64 ((20 : Nat) : Int), .int .i64 ((3 : Nat) : Int), .int .i64 ((0 : Nat) : Int)]) ?_ rfl ⟨by rw [Hck.out], ((((hO4.trans hw).setCell (.inr hgR) _).setCell (.inr hgR) _).setCell (.inr hgR) _)⟩
                  rw [results_cell1 rfl]
                  exact load3r (((hbE.set 0 _).set 1 _).set 2 _)
                | false =>
                  go_wp2_with (fail)
                  refine (refIn_any n2 c2 A2 b 39 wr B (r2.only hw (by simp)) N2.out (by omega)).mono ?_
                  rintro e wr ⟨rfl, rfl⟩
                  obtain ⟨x2, hx2⟩ : ∃ x, x = inSpans b 39 := ⟨_, rfl⟩
                  rw [← hx2]
                  have F2 := Lib.hid hx2
                  clear hx2
                  cases x2 with
                  | true =>
                    have hs : blankW a b d = some (20, 3, 0) := by unfold blankW; rw [if_neg]; intro h; have hf := F2.out; simp_all
                    have hck : checkW a b d = (20, 3, 0) := firstSome 8 (congrArg some hs) (fun t ht => match t, ht with | 0, _ => congrArg some G1.out | 1, _ => congrArg some G2.out | 2, _ => congrArg some G3.out | 3, _ => congrArg some G4.out | 4, _ => congrArg some G5.out | 5, _ => congrArg some G6.out | 6, _ => congrArg some G7.out | 7, _ => congrArg some G8.out | t + 8, ht => absurd ht (by omega))
                    have Hck := Lib.hid hck
                    have hbE := hbR.only hw (by simp)
                    have e0 := hbE.cell 0
                    have e1 := hbE.cell 1
                    have e2 := hbE.cell 2
                    have z0 := hbE.frozen 0
                    have z1 := hbE.frozen 1
                    have z2 := hbE.frozen 2
                    clear hck hs
                    go_wp2_with (fail)
                    (try simp only [Exit.inBlock, Exit.then])
                    refine bodyPost_ret (v := .agg #[.int .i64 ((20 : Nat) : Int), .int .i64 ((3 : Nat) : Int), .int .i64 ((0 : Nat) : Int)]) ?_ rfl ⟨by rw [Hck.out], ((((hO4.trans hw).setCell (.inr hgR) _).setCell (.inr hgR) _).setCell (.inr hgR) _)⟩
                    rw [results_cell1 rfl]
                    exact load3r (((hbE.set 0 _).set 1 _).set 2 _)
                  | false =>
                    go_wp2_with (fail)
                    refine (refIn_any n3 c3 A3 d 39 wr B (r3.only hw (by simp)) N3.out (by omega)).mono ?_
                    rintro e wr ⟨rfl, rfl⟩
                    obtain ⟨x3, hx3⟩ : ∃ x, x = inSpans d 39 := ⟨_, rfl⟩
                    rw [← hx3]
                    have F3 := Lib.hid hx3
                    clear hx3
                    cases x3 with
                    | true =>
                      have hs : blankW a b d = some (20, 3, 0) := by unfold blankW; rw [if_neg]; intro h; have hf := F3.out; simp_all
                      have hck : checkW a b d = (20, 3, 0) := firstSome 8 (congrArg some hs) (fun t ht => match t, ht with | 0, _ => congrArg some G1.out | 1, _ => congrArg some G2.out | 2, _ => congrArg some G3.out | 3, _ => congrArg some G4.out | 4, _ => congrArg some G5.out | 5, _ => congrArg some G6.out | 6, _ => congrArg some G7.out | 7, _ => congrArg some G8.out | t + 8, ht => absurd ht (by omega))
                      have Hck := Lib.hid hck
                      have hbE := hbR.only hw (by simp)
                      have e0 := hbE.cell 0
                      have e1 := hbE.cell 1
                      have e2 := hbE.cell 2
                      have z0 := hbE.frozen 0
                      have z1 := hbE.frozen 1
                      have z2 := hbE.frozen 2
                      clear hck hs
                      go_wp2_with (fail)
                      (try simp only [Exit.inBlock, Exit.then])
                      refine bodyPost_ret (v := .agg #[.int .i64 ((20 : Nat) : Int), .int .i64 ((3 : Nat) : Int), .int .i64 ((0 : Nat) : Int)]) ?_ rfl ⟨by rw [Hck.out], ((((hO4.trans hw).setCell (.inr hgR) _).setCell (.inr hgR) _).setCell (.inr hgR) _)⟩
                      rw [results_cell1 rfl]
                      exact load3r (((hbE.set 0 _).set 1 _).set 2 _)
                    | false =>
                      have hs : blankW a b d = none := by unfold blankW; rw [if_pos ⟨F0.out.symm, F1.out.symm, F2.out.symm, F3.out.symm⟩]
                      have hck : checkW a b d = (0, 0, 0) := noneW (by intro u hu; simp only [stagesW, List.mem_cons, List.not_mem_nil, or_false] at hu; rcases hu with rfl | rfl | rfl | rfl | rfl | rfl | rfl | rfl | rfl <;> first | exact G1.out | exact G2.out | exact G3.out | exact G4.out | exact G5.out | exact G6.out | exact G7.out | exact G8.out | exact hs)
                      have Hck := Lib.hid hck
                      have hbE := hbR.only hw (by simp)
                      have e0 := hbE.cell 0
                      have e1 := hbE.cell 1
                      have e2 := hbE.cell 2
                      have z0 := hbE.frozen 0
                      have z1 := hbE.frozen 1
                      have z2 := hbE.frozen 2
                      clear hck hs
                      go_wp2_with (fail)
                      (try simp only [Exit.inBlock, Exit.then])
                      refine bodyPost_ret (v := .agg #[.int .i64 ((0 : Nat) : Int), .int .i64 ((0 : Nat) : Int), .int .i64 ((0 : Nat) : Int)]) ?_ rfl ⟨by rw [Hck.out], ((((hO4.trans hw).setCell (.inr hgR) _).setCell (.inr hgR) _).setCell (.inr hgR) _)⟩
                      rw [results_cell1 rfl]
                      exact load3r (((hbE.set 0 _).set 1 _).set 2 _)
end Go.Proofs.YtgohinklnglgeaaDoor

set_option linter.unusedVariables false
set_option linter.unusedSimpArgs false
namespace Go.Proofs.YtgohinklnglgeaaDoor
open Go.RowKit

/-- copy, elements of any size, into a row of one's own -/
theorem run_copy_layN {P : Program} (w : World) (dT sT ty elem : TypeId) (size : Nat) (hu : P.underlying dT = some (.slice elem)) (hsz : (P.info? elem).map (·.size) = some size)
    (dp sp : Option Addr) (dLen dCap sLen sCap : Nat) (g off : Nat) (cur : List Value) (t : TypeId) (hg : Blk w g t cur) (k : Nat) (cs : List Value) (hk : k = min sLen dLen)
    (hd : 0 < k → dp = some ⟨g, off, none⟩) (B : Nat) (hs : Rd w B size sp k cs) (hfit : off + k * size ≤ cur.length) (h1 : ∀ v ∈ cs, v.oneCell' = true) :
    (Builtin.copy_ #[dT, sT] ty #[.slice dp dLen dCap, .slice sp sLen sCap]).run P w = .ok (.int .i64 (k : Int)) (w.setRow g (lay cur off cs).toArray) := by
  have hn := hs.1
  cases hq : P.info? elem with
  | none => simp [hq] at hsz
  | some i =>
    have hi : i.size = size := by simpa [hq] using hsz
    have hk' : Nat.min sLen dLen = k := hk.symm
    by_cases h0 : k = 0
    · subst h0
      obtain rfl : cs = [] := List.eq_nil_of_length_eq_zero (by omega)
      rw [lay_nil, setRow_self w g cur.toArray t (0, 0) hg]
      have hl : ∀ (x : Addr), (loadCells x 0).run P w = .ok #[] w := fun x => by simpa using run_loadCells_list (P := P) w x [] (by simp)
      cases dp <;> cases sp <;> simp [Builtin.copy_, run_underlying hu, Builtin.lenOf, Builtin.firstCells, sizeOf, typeInfo, hq, hk', storeCells, hl, goInt]
    · obtain rfl := hd (by omega)
      obtain ⟨ad, rfl, _, _, _, hc⟩ := hs.2 (by omega)
      have hl := run_loadCells_list (P := P) w ad cs hc
      have hst := run_storeCells_at P g off t cs 0 cur.toArray w hg (by simp; omega) h1
      rw [hn] at hl
      simp [Builtin.copy_, run_underlying hu, Builtin.lenOf, Builtin.firstCells, sizeOf, typeInfo, hq, hi, hk', hl, hst, goInt, lay]

theorem ses_append (a b : List Sp) : ses (a ++ b) = ses a ++ ses b := by simp [ses]
theorem ses_take (l : List Sp) (k : Nat) : (ses l).take (k * 2) = ses (l.take k) := by
  induction l generalizing k with
  | nil => simp [ses]
  | cons p l ih =>
    cases k with
    | zero => simp [ses]
    | succ k =>
      rw [Nat.succ_mul, List.take_succ_cons]
      have e : ses (p :: l) = .int .i32 p.1 :: .int .i32 p.2 :: ses l := by simp [ses, spv]
      have e2 : ses (p :: l.take k) = .int .i32 p.1 :: .int .i32 p.2 :: ses (l.take k) := by simp [ses, spv]
      rw [e, e2, ← ih k]
      rfl
theorem ses_drop (l : List Sp) (k : Nat) : (ses l).drop (k * 2) = ses (l.drop k) := by
  induction l generalizing k with
  | nil => simp [ses]
  | cons p l ih =>
    cases k with
    | zero => simp
    | succ k =>
      rw [Nat.succ_mul, List.drop_succ_cons]
      have e : ses (p :: l) = .int .i32 p.1 :: .int .i32 p.2 :: ses l := by simp [ses, spv]
      rw [e, ← ih k]
      rfl
theorem ses_replicate (n : Nat) : ses (List.replicate n (0, 0)) = rep n [.int .i32 0, .int .i32 0] := by
  induction n with
  | zero => rfl
  | succ n ih => rw [List.replicate_succ, rep_succ, ← ih]; simp [ses, spv]
theorem ses_set (l : List Sp) (k : Nat) (p : Sp) (hk : k < l.length) : ((ses l).set (k * 2) (.int .i32 p.1)).set (k * 2 + 1) (.int .i32 p.2) = ses (l.set k p) := by
  induction l generalizing k with
  | nil => simp at hk
  | cons q l ih =>
    have e : ses (q :: l) = .int .i32 q.1 :: .int .i32 q.2 :: ses l := by simp [ses, spv]
    cases k with
    | zero =>
      have e2 : ses (p :: l) = .int .i32 p.1 :: .int .i32 p.2 :: ses l := by simp [ses, spv]
      rw [e]; simp [e2]
    | succ k =>
      have e2 : ses (q :: l.set k p) = .int .i32 q.1 :: .int .i32 q.2 :: ses (l.set k p) := by simp [ses, spv]
      rw [e, List.set_cons_succ, e2, ← ih k (by simpa using hk), Nat.succ_mul]
      rfl

theorem take_succ_eq {α : Type} {l m : List α} {k : Nat} {a b : α} (hl : l[k]? = some a) (hm : m[k]? = some b) : l.take (k + 1) = m.take (k + 1) ↔ l.take k = m.take k ∧ a = b := by
  have h1 := (List.getElem?_eq_some_iff.1 hl).1
  have h2 := (List.getElem?_eq_some_iff.1 hm).1
  rw [List.take_add_one, List.take_add_one, hl, hm]
  constructor
  · intro h
    have h1 := List.append_inj h (by simp; omega)
    exact ⟨h1.1, by simpa using h1.2⟩
  · rintro ⟨h1, h2⟩
    rw [h1, h2]

set_option maxRecDepth 100000 in
set_option maxHeartbeats 1000000 in
theorem sameS_any (A C : Option Addr) (n c m d B B' : Nat) (x : List Sp) (w : World) (hx : Rd w B 2 A n (ses x)) (hy : Rd w B' 2 C n (ses x)) (hxl : x.length = n) (hn : n ≤ 140737488351232) :
    Calls Tryd.prog 53 #[.slice A n c, .slice C n d] w fun e w' => e = .returned (.bool true) ∧ ∃ k, w' = w.drewN k := by
  have Hxl := Lib.hid hxl
  clear hxl
  go_enter Tryd.func53, Tryd.ntmps53
  go_wp2_with (fail)
  go_loopw [5] (fun i wr => ∃ k : Nat, k ≤ n ∧ i = .int .i64 (k : Int) ∧ ∃ j, wr = w.drewN j) (fun i _ => n - (intOf i).toNat)
  case atStart => exact ⟨0, by omega, rfl, 0, rfl⟩
  case round =>
    obtain ⟨k, hk, rfl, j, hw⟩ := hrel
    have Hw := Lib.hid hw
    clear hw
    by_cases hlt : k < n
    · obtain ⟨p, hp⟩ : ∃ p, x[k]? = some p := ⟨_, List.getElem?_eq_getElem (by rw [Hxl.out]; exact hlt)⟩
      obtain ⟨g, o, rfl, _, c0, c1⟩ := (show Rd wr B 2 A n (ses x) by rw [Hw.out]; exact hx).span hlt hp
      obtain ⟨g', o', rfl, _, d0, d1⟩ := (show Rd wr B' 2 C n (ses x) by rw [Hw.out]; exact hy).span hlt hp
      clear hp
      go_wp2_with (fail)
      go_quiet (fail)
      go_wp2
      go_roundw
      case rel => exact ⟨k + 1, by omega, by go_num, _, by rw [Hw.out, World.drewN_drewN]⟩
      case measure => simp [intOf]; omega
    · obtain rfl : k = n := by omega
      go_wp2
      go_ret
      exact ⟨rfl, _, Hw.out⟩

/-- what Roomy lays down: the list, and 80 marks behind it -/
def roomyS (l : List Sp) (m : Sp) : List Sp := l ++ List.replicate 80 m
theorem roomyS_set (l : List Sp) (m : Sp) (k : Nat) (h : k < 80) : (l ++ List.replicate k m ++ List.replicate (80 - k) (0, 0)).set (l.length + k) m = l ++ List.replicate (k + 1) m ++ List.replicate (80 - (k + 1)) (0, 0) := by
  have e : 80 - k = (80 - (k + 1)) + 1 := by omega
  rw [e, List.replicate_succ, List.set_append_right _ _ (by simp)]
  have e2 : l.length + k - (l ++ List.replicate k m).length = 0 := by simp
  rw [e2, List.set_cons_zero, List.replicate_succ', List.append_assoc, List.append_assoc, List.append_assoc]
  rfl

theorem rd_roomyS {w1 : World} {h n : Nat} {l : List Sp} {m : Sp} {t : TypeId} (hb1 : Blk w1 h t (ses (roomyS l m))) (hl : l.length = n) :
    Rd w1 w1.heap.size 2 (some ⟨h, 0, none⟩) (n + 80) (ses (roomyS l m)) ∧ Rd w1 w1.heap.size 2 (some ⟨h, 0, none⟩) n (ses l) := by
  have hf : Rd w1 w1.heap.size 2 (some ⟨h, 0, none⟩) (n + 80) (ses (roomyS l m)) := (Rd.whole hb1 (by rw [ses_length, roomyS, List.length_append, List.length_replicate, hl])).more hb1.lt
  refine ⟨hf, ?_⟩
  have h1 := hf.take (k := n) (by omega)
  rw [ses_take] at h1
  have e : (roomyS l m).take n = l := by unfold roomyS; rw [List.take_append_of_le_length (by omega), List.take_of_length_le (by omega)]
  rwa [e] at h1
end Go.Proofs.YtgohinklnglgeaaDoor
