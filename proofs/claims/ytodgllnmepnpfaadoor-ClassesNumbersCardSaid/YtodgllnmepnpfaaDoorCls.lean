/- classes: slices.Clone; a table's kinds; the reference's. -/
import Derived.Test.YtodgllnmepnpfaaDoorSpanO
import Derived.Test.YtodgllnmepnpfaaDoorSpanN
import Derived.Lib.LazyBuf
set_option linter.unusedVariables false
set_option linter.unusedSimpArgs false
namespace Go.Proofs.YtodgllnmepnpfaaDoor
open Go.RowKit

theorem ses_one (l : List Sp) : ∀ u ∈ ses l, u.oneCell' = true := by
  intro u hu
  simp only [ses, List.mem_flatMap] at hu
  obtain ⟨p, _, hp⟩ := hu
  simp [spv] at hp
  rcases hp with rfl | rfl <;> rfl

set_option maxRecDepth 100000 in
set_option maxHeartbeats 2000000 in
theorem clone_any (n c : Nat) (A : Option Addr) (l : List Sp) (w : World) (B : Nat) (hr : Rd w B 2 A n (ses l)) (hn : n ≤ 17592186043904) :
    Calls Tryd.prog 16 #[.slice A n c] w fun e w' => ∃ A' c', e = .returned (.slice A' n c') ∧ Rd w' w'.heap.size 2 A' n (ses l) ∧ Only [] w w' ∧ (∀ ad, A' = some ad → w.heap.size ≤ ad.block) := by
  cases A with
  | none =>
    obtain rfl : n = 0 := by
      rcases Nat.eq_zero_or_pos n with h | h
      · exact h
      · obtain ⟨_, e, _⟩ := hr.2 h; cases e
    obtain ⟨hl0, -⟩ := hr
    have hnil : ses l = [] := List.eq_nil_of_length_eq_zero (by simpa using hl0)
    have Hnil := Lib.hid hnil
    clear hnil hl0
    have heq := Go.run_eql_slice_nil (P := Tryd.prog) w 30 29 none 0 c rfl
    go_enter Tryd.func16, Tryd.ntmps16
    go_wp2_with (fail)
    go_ret
    exact ⟨none, 0, rfl, by rw [Hnil.out]; exact Rd.zero _ _ _ _, .refl _ _, by simp⟩
  | some ad =>
    have he : (w.alloc (.cells #[] 29)).ownsRow w.heap.size 29 2 (.slice (some ⟨w.heap.size, 0, none⟩) 0 0) 0 [] := own_empty w _ 29 2 rfl (Nat.le_refl _)
    obtain ⟨v', w', hrun, hown, hO, hat, _⟩ := run_append_row (P := Tryd.prog) w.heap.size 30 30 29 (.agg #[.int .i32 0, .int .i32 0]) 2 8 rfl (by kernel_rfl) rfl (by omega) he c (hr.alloc (.cells #[] 29)) (ses_one l) (by simp only [maxLen]; omega) (by omega) (by simp)
    obtain ⟨A', c', rfl, _, hr', hb⟩ := own_slice hown
    rw [Nat.zero_add, List.nil_append] at hr'
    rw [Nat.zero_add] at hrun
    have hO' : Only [] w w' := ((Only.refl [] w).alloc (.cells #[] 29)).trans' hO (by simp [Value.ownBlock])
    have heq := Go.run_eql_slice_nil (P := Tryd.prog) w 30 29 (some ad) n c rfl
    have Hrun := Lib.hid hrun
    clear he hown hO hat hrun
    go_enter Tryd.func16, Tryd.ntmps16
    go_wp2_with ((at_builtin; refine wpList_append_run (o := ⟨some 7, _, _, _, _, _⟩) (by rfl) (.tmp 5) (.tmp 6) 30 30 (by rfl) (by rfl) (by rfl) Hrun.out ?_))
    go_ret
    exact ⟨A', c', rfl, hr', hO', fun ad e => (hb ad e).2⟩

theorem index3 (v0 v1 v2 : Value) (A1 A2 A3 : Option Addr) (n1 n2 n3 c1 c2 c3 : Nat) (h0 : v0 = .slice A1 n1 c1) (h1 : v1 = .slice A2 n2 c2) (h2 : v2 = .slice A3 n3 c3) (W : World) :
    (Instr.index 62 (.agg #[v0, v1, v2]) (.int .i64 0)).run Tryd.prog W = .ok v0 W ∧ (Instr.index 62 (.agg #[v0, v1, v2]) (.int .i64 1)).run Tryd.prog W = .ok v1 W ∧ (Instr.index 62 (.agg #[v0, v1, v2]) (.int .i64 2)).run Tryd.prog W = .ok v2 W := by
  subst h0 h1 h2
  have hu : Tryd.prog.underlying 62 = some (.array 3 30) := by kernel_rfl
  have hi : (Tryd.prog.info? 30).map (fun i => i.size) = some 1 := by kernel_rfl
  have hd : Tryd.prog.underlying 30 = some (.slice 29) := by kernel_rfl
  cases he : Tryd.prog.info? 30 with
  | none => simp [he] at hi
  | some i =>
    have hs : i.size = 1 := by simpa [he] using hi
    refine ⟨?_, ?_, ?_⟩ <;> simp [Instr.index, run_underlying hu, sizeOf, typeInfo, asIntOf, part, he, hs, run_underlying hd]
/-- a table of three right lists, in memory of its own -/
structure Tab (w : World) (base g : Nat) (a b d : List Sp) : Prop where
  at_ : ∃ (A1 A2 A3 : Option Addr) (c1 c2 c3 : Nat), Blk w g 64 [.slice A1 a.length c1, .slice A2 b.length c2, .slice A3 d.length c3] ∧ base ≤ g ∧
    Rd w w.heap.size 2 A1 a.length (ses a) ∧ Rd w w.heap.size 2 A2 b.length (ses b) ∧ Rd w w.heap.size 2 A3 d.length (ses d) ∧
    (∀ ad, A1 = some ad → base ≤ ad.block) ∧ (∀ ad, A2 = some ad → base ≤ ad.block) ∧ (∀ ad, A3 = some ad → base ≤ ad.block)
  small : a.length ≤ 512 ∧ b.length ≤ 512 ∧ d.length ≤ 512
  right : RightL a ∧ RightL b ∧ RightL d
theorem Tab.only {w w' : World} {base g : Nat} {a b d : List Sp} (h : Tab w base g a b d) {l : List Nat} (hO : Only l w w') (hl : ∀ x ∈ l, x < base) : Tab w' base g a b d := by
  refine ⟨?_, h.small, h.right⟩
  obtain ⟨A1, A2, A3, c1, c2, c3, hb, hg, r1, r2, r3, b1, b2, b3⟩ := h.at_
  have key : ∀ {A : Option Addr} {n : Nat} {xs : List Value}, Rd w w.heap.size 2 A n xs → (∀ ad, A = some ad → base ≤ ad.block) → Rd w' w'.heap.size 2 A n xs := fun r b =>
    (r.only' hO (fun ad e _ hm => by have := b ad e; have := hl _ hm; omega)).more hO.size
  exact ⟨A1, A2, A3, c1, c2, c3, hb.only hO (fun hm => by have := hl _ hm; omega), hg, key r1 b1, key r2 b2, key r3 b3, b1, b2, b3⟩
theorem Tab.base {w : World} {base base' g : Nat} {a b d : List Sp} (h : Tab w base g a b d) (hb : base' ≤ base) : Tab w base' g a b d := by
  refine ⟨?_, h.small, h.right⟩
  obtain ⟨A1, A2, A3, c1, c2, c3, hbk, hg, r1, r2, r3, b1, b2, b3⟩ := h.at_
  exact ⟨A1, A2, A3, c1, c2, c3, hbk, Nat.le_trans hb hg, r1, r2, r3, fun ad e => Nat.le_trans hb (b1 ad e), fun ad e => Nat.le_trans hb (b2 ad e), fun ad e => Nat.le_trans hb (b3 ad e)⟩
def kindOf (a b d : List Sp) (r : Int) : Nat := if inSpans a r = true then 1 else if inSpans b r = true then 2 else if inSpans d r = true then 3 else 4

set_option maxRecDepth 100000 in
set_option maxHeartbeats 4000000 in
theorem of_any (w : World) (base g : Nat) (a b d : List Sp) (hT : Tab w base g a b d) (r : Int) :
    Calls Tryd.prog 19 #[.pointer (some ⟨g, 0, none⟩), .int .i32 r] w fun e w' => e = .returned (.int .i64 (kindOf a b d r : Int)) ∧ Only [] w w' := by
  obtain ⟨A1, A2, A3, c1, c2, c3, hb, _, r1, r2, r3, _⟩ := hT.at_
  obtain ⟨n1, hn1⟩ : ∃ n, n = a.length := ⟨_, rfl⟩
  obtain ⟨n2, hn2⟩ : ∃ n, n = b.length := ⟨_, rfl⟩
  obtain ⟨n3, hn3⟩ : ∃ n, n = d.length := ⟨_, rfl⟩
  have s1 : n1 ≤ 1000000 := by have := hT.small; omega
  have s2 : n2 ≤ 1000000 := by have := hT.small; omega
  have s3 : n3 ≤ 1000000 := by have := hT.small; omega
  obtain ⟨R1, R2, R3⟩ := hT.right
  rw [← hn1, ← hn2, ← hn3] at hb
  rw [← hn1] at r1
  rw [← hn2] at r2
  rw [← hn3] at r3
  have N1 := Lib.hid hn1
  have N2 := Lib.hid hn2
  have N3 := Lib.hid hn3
  have q0 := hb.cell 0
  have q1 := hb.cell 1
  have q2 := hb.cell 2
  replace q0 : w.cell? ⟨g, 0, none⟩ = some (.slice A1 n1 c1) := q0
  replace q1 : w.cell? ⟨g, 1, none⟩ = some (.slice A2 n2 c2) := q1
  replace q2 : w.cell? ⟨g, 2, none⟩ = some (.slice A3 n3 c3) := q2
  clear hn1 hn2 hn3 hT hb
  go_enter Tryd.func19, Tryd.ntmps19
  go_wp2_with (fail)
  have hix := index3 _ _ _ A1 A2 A3 n1 n2 n3 c1 c2 c3 rfl rfl rfl
  have ix0 := fun W => (hix W).1
  have ix1 := fun W => (hix W).2.1
  have ix2 := fun W => (hix W).2.2
  clear hix
  go_loopw [11] (fun vi wr => Only [] w wr ∧ ((vi = .int .i64 0) ∨ (vi = .int .i64 1 ∧ inSpans a r = false) ∨ (vi = .int .i64 2 ∧ inSpans a r = false ∧ inSpans b r = false) ∨ (vi = .int .i64 3 ∧ inSpans a r = false ∧ inSpans b r = false ∧ inSpans d r = false))) (fun vi _ => 3 - (intOf vi).toNat)
  case atStart => exact ⟨.refl _ _, .inl rfl⟩
  case round =>
    obtain ⟨hw, hrel⟩ := hrel
    have hsz := hw.size
    rcases hrel with rfl | ⟨rfl, f1⟩ | ⟨rfl, f1, f2⟩ | ⟨rfl, f1, f2, f3⟩
    · go_wp2_with (fail)
      refine (in_any n1 c1 A1 a r wr w.heap.size (r1.only hw (by simp)) hsz N1.out.symm s1 R1).mono ?_
      rintro e w2 ⟨rfl, hO⟩
      replace hO := hw.trans hO
      obtain ⟨x, hx⟩ : ∃ x, x = inSpans a r := ⟨_, rfl⟩
      rw [← hx]
      have Hx := Lib.hid hx
      clear hx
      cases x with
      | true =>
        go_wp2_with (fail)
        go_ret
        exact ⟨by unfold kindOf; rw [if_pos Hx.out.symm]; rfl, hO⟩
      | false =>
        go_wp2_with (fail)
        go_roundw
        case rel => exact ⟨hO, .inr (.inl ⟨rfl, by rw [← Hx.out]⟩)⟩
        case measure => simp [intOf]
    · have F1 := Lib.hid f1
      clear f1
      go_wp2_with (fail)
      refine (in_any n2 c2 A2 b r wr w.heap.size (r2.only hw (by simp)) hsz N2.out.symm s2 R2).mono ?_
      rintro e w2 ⟨rfl, hO⟩
      replace hO := hw.trans hO
      obtain ⟨x, hx⟩ : ∃ x, x = inSpans b r := ⟨_, rfl⟩
      rw [← hx]
      have Hx := Lib.hid hx
      clear hx
      cases x with
      | true =>
        go_wp2_with (fail)
        go_ret
        exact ⟨by unfold kindOf; rw [if_neg (by rw [F1.out]; simp)]; rw [if_pos Hx.out.symm]; rfl, hO⟩
      | false =>
        go_wp2_with (fail)
        go_roundw
        case rel => exact ⟨hO, .inr (.inr (.inl ⟨rfl, F1.out, by rw [← Hx.out]⟩))⟩
        case measure => simp [intOf]
    · have F1 := Lib.hid f1
      have F2 := Lib.hid f2
      clear f1 f2
      go_wp2_with (fail)
      refine (in_any n3 c3 A3 d r wr w.heap.size (r3.only hw (by simp)) hsz N3.out.symm s3 R3).mono ?_
      rintro e w2 ⟨rfl, hO⟩
      replace hO := hw.trans hO
      obtain ⟨x, hx⟩ : ∃ x, x = inSpans d r := ⟨_, rfl⟩
      rw [← hx]
      have Hx := Lib.hid hx
      clear hx
      cases x with
      | true =>
        go_wp2_with (fail)
        go_ret
        exact ⟨by unfold kindOf; rw [if_neg (by rw [F1.out]; simp)]; rw [if_neg (by rw [F2.out]; simp)]; rw [if_pos Hx.out.symm]; rfl, hO⟩
      | false =>
        go_wp2_with (fail)
        go_roundw
        case rel => exact ⟨hO, .inr (.inr (.inr ⟨rfl, F1.out, F2.out, by rw [← Hx.out]⟩))⟩
        case measure => simp [intOf]
    · have F1 := Lib.hid f1
      have F2 := Lib.hid f2
      have F3 := Lib.hid f3
      clear f1 f2 f3
      go_wp2_with (fail)
      go_ret
      exact ⟨by unfold kindOf; rw [if_neg (by rw [F1.out]; simp), if_neg (by rw [F2.out]; simp), if_neg (by rw [F3.out]; simp)]; rfl, hw⟩
end Go.Proofs.YtodgllnmepnpfaaDoor
