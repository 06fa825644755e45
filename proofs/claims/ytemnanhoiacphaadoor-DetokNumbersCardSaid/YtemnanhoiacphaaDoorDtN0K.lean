/- Detokenisers over models without merges, several of them side by side. -/
import Derived.Test.YtemnanhoiacphaaDoorPk17
set_option linter.unusedVariables false
set_option linter.unusedSimpArgs false
set_option maxRecDepth 100000
namespace Go.Proofs.YtemnanhoiacphaaDoor
open Go.RowKit

def trunc (w : World) (n : Nat) : World := { w with heap := w.heap.extract 0 n }
theorem trunc_size (w : World) {n : Nat} (h : n ≤ w.heap.size) : (trunc w n).heap.size = n := by simp [trunc]; omega
theorem trunc_get (w : World) {n k : Nat} (h : n ≤ w.heap.size) (hk : k < n) : (trunc w n).heap[k]? = w.heap[k]? := by
  simp only [trunc, Array.getElem?_extract]
  rw [if_pos (by omega), Nat.zero_add]
theorem trunc_only (w : World) {n : Nat} (h : n ≤ w.heap.size) : Only [] (trunc w n) w :=
  ⟨rfl, rfl, rfl, by rw [trunc_size w h]; exact h, fun k hk _ => by rw [trunc_size w h] at hk; exact (trunc_get w h hk).symm⟩
theorem only_trunc {w w' : World} {l : List Nat} (h : Only l w w') : Only l w (trunc w' w.heap.size) :=
  ⟨h.os, h.tape, h.output, by rw [trunc_size w' h.size]; exact Nat.le_refl _, fun k hk hl => (trunc_get w' h.size hk).trans (h.block k hk hl)⟩

/-- a detokeniser over a model without merges; its blocks lie from lo on, below hi -/
structure BD (lo hi : Nat) (w : World) (g gr g2 : Nat) (rep : Bool) (x : DkS) : Prop where
  at_ : ∃ W0 base gm, DecAt w W0 g gr g2 gm rep 12 x ∧ MdAt W0 base gm [] [] [] [] blankS 0 (lookM 0 []) 1 ∧ Tabs W0 ∧ lo ≤ base ∧ lo ≤ W0.heap.size ∧ W0.heap.size ≤ hi
  b1 : lo ≤ g ∧ g < hi
  b2 : lo ≤ gr ∧ gr < hi
  b3 : lo ≤ g2 ∧ g2 < hi
section
variable {lo hi : Nat} {w w' : World} {g gr g2 : Nat} {rep : Bool} {x : DkS}
theorem BD.other (h : BD lo hi w g gr g2 rep x) {l : List Nat} (hO : Only l w w') (hl : ∀ y ∈ l, (2 ≤ y ∧ y < lo) ∨ hi ≤ y) : BD lo hi w' g gr g2 rep x := by
  obtain ⟨⟨W0, base, gm, hD, hM, hT, h1, h2, h3⟩, h4, h5, h6⟩ := h
  have hO0 : Only l W0 w' := (hD.new.mono (by simp)).trans hO
  have hO1 := only_trunc hO0
  have hsz := trunc_size w' hO0.size
  have hO2 : Only (l.filter fun y => decide (y < lo)) W0 (trunc w' W0.heap.size) := hO1.mono (fun y hy => by
    rcases hl y hy with h | h
    · exact .inl (List.mem_filter.2 ⟨hy, by simpa using h.2⟩)
    · exact .inr (by omega))
  have hlf : ∀ y ∈ l.filter (fun y => decide (y < lo)), 2 ≤ y ∧ y < lo := by
    intro y hy
    obtain ⟨hy1, hy2⟩ := List.mem_filter.1 hy
    have hy3 : y < lo := by simpa using hy2
    rcases hl y hy1 with h | h
    · exact h
    · omega
  obtain ⟨at_, arr, hR⟩ := hD.ring
  refine ⟨⟨trunc w' W0.heap.size, base, gm, ⟨?_, ⟨at_, arr, ?_⟩, trunc_only w' hO0.size, by rw [hsz]; exact hD.ge, hD.h3⟩, hM.only hO2 (fun y hy => by have := (hlf y hy).2; omega), hT.only hO2 (fun h0 => by have := (hlf 0 h0).1; omega) (fun h0 => by have := (hlf 1 h0).1; omega), h1, by rw [hsz]; exact h2, by rw [hsz]; exact h3⟩, h4, h5, h6⟩
  · exact hD.blk.only hO (fun hg => by rcases hl g hg with h | h <;> omega)
  · exact hR.only hO (fun hg => by rcases hl gr hg with h | h <;> omega) (fun hg => by rcases hl g2 hg with h | h <;> omega)
theorem BD.only0 (h : BD lo hi w g gr g2 rep x) (hO : Only [] w w') : BD lo hi w' g gr g2 rep x := h.other hO (by simp)
theorem BD.lt (h : BD lo hi w g gr g2 rep x) : g < w.heap.size ∧ gr < w.heap.size ∧ g2 < w.heap.size := by
  obtain ⟨⟨W0, base, gm, hD, -⟩, -⟩ := h
  obtain ⟨at_, arr, hR⟩ := hD.ring
  exact ⟨hD.blk.lt, hR.1.lt, hR.2.1.lt⟩
theorem BD.feed (h : BD lo hi w g gr g2 rep x) {b n : Nat} {l : List Int} (hb : Blk w b 3 (l.map (Value.int .i64))) (hbh : hi ≤ b) (hl : l.length = n) (hn : n ≤ 1000) (h64 : ∀ i ∈ l, i64ok i) {k : Nat} {y : DkS} (hres : feedS [] rep 12 l x = (k, y)) (hfl : x.flushed = false) :
    Calls Tryd.prog 12 #[.pointer (some ⟨g, 0, none⟩), .slice (some ⟨b, 0, none⟩) n n] w fun e w' => e = .returned (.tuple #[.int .i64 (k : Int), .int .i64 0]) ∧ BD lo hi w' g gr g2 rep y ∧ Only [g, gr, g2] w w' := by
  obtain ⟨⟨W0, base, gm, hD, hM, hT, h1, h2, h3⟩, h4, h5, h6⟩ := h
  refine (dkFeed_any w W0 g gr g2 gm rep 12 x hD hT base [] [] [] [] blankS 0 (lookM 0 []) 1 hM (by simp) (some ⟨b, 0, none⟩) n n (b + 1) l hl (by omega) (rd_ints hb hl) (.inr (by intro ad e1; injection e1 with e1; subst e1; simp only; omega)) h64).mono ?_
  rintro e w1 ⟨rfl, hD1, hO1⟩
  rw [hfl, hres] at hD1
  simp only [Bool.false_eq_true, if_false] at hD1
  exact ⟨by rw [hfl, hres]; simp, ⟨⟨W0, base, gm, hD1, hM, hT, h1, h2, h3⟩, h4, h5, h6⟩, hO1⟩
theorem BD.fed (h : BD lo hi w g gr g2 rep x) {A : Option Addr} {n : Nat} {l : List Int} (hR : ∃ B, Rd w B 1 A n (l.map (Value.int .i64))) (hA : ∀ ad, A = some ad → hi ≤ ad.block) (hl : l.length = n) (hn : n ≤ 1000) (h64 : ∀ i ∈ l, i64ok i) (hfl : x.flushed = true) :
    Calls Tryd.prog 12 #[.pointer (some ⟨g, 0, none⟩), .slice A n n] w fun e w' => e = .returned (.tuple #[.int .i64 0, .int .i64 40]) ∧ BD lo hi w' g gr g2 rep x ∧ Only [g, gr, g2] w w' := by
  obtain ⟨⟨W0, base, gm, hD, hM, hT, h1, h2, h3⟩, h4, h5, h6⟩ := h
  obtain ⟨B, hR⟩ := hR
  refine (dkFeed_any w W0 g gr g2 gm rep 12 x hD hT base [] [] [] [] blankS 0 (lookM 0 []) 1 hM (by simp) A n n B l hl (by omega) hR (.inr (by intro ad e1; have := hA ad e1; omega)) h64).mono ?_
  rintro e w1 ⟨rfl, hD1, hO1⟩
  rw [hfl] at hD1
  simp only [if_true] at hD1
  exact ⟨by rw [hfl]; simp, ⟨⟨W0, base, gm, hD1, hM, hT, h1, h2, h3⟩, h4, h5, h6⟩, hO1⟩
theorem BD.read (h : BD lo hi w g gr g2 rep x) (k : Int) {y : DkS} {m st : Nat} {t : List UInt8} (hy : dkReadS 12 rep k x = y) (hm : min k.toNat x.ring.length = m) (ht : x.ring.take m = t) (hst : statS y = st) :
    Calls Tryd.prog 13 #[.pointer (some ⟨g, 0, none⟩), .int .i64 k] w fun e w' => ∃ o, e = .returned (.tuple #[.slice (some ⟨o, 0, none⟩) m m, .int .i64 (st : Int)]) ∧ w.heap.size ≤ o ∧ Blk w' o 5 (bvs t) ∧ BD lo hi w' g gr g2 rep y ∧ Only [g, gr, g2] w w' := by
  obtain ⟨⟨W0, base, gm, hD, hM, hT, h1, h2, h3⟩, h4, h5, h6⟩ := h
  refine (dkRead_any w W0 g gr g2 gm rep 12 x hD hT k).mono ?_
  rintro e w1 ⟨o, rfl, hwo, hbo, hD1, hO1⟩
  rw [hy] at hD1
  rw [hm, ht] at hbo
  exact ⟨o, by rw [hm, hy, hst], hwo, hbo, ⟨⟨W0, base, gm, hD1, hM, hT, h1, h2, h3⟩, h4, h5, h6⟩, hO1⟩
theorem BD.flush (h : BD lo hi w g gr g2 rep x) {y : DkS} (hy : dkFlushS 12 rep x = y) :
    Calls Tryd.prog 23 #[.pointer (some ⟨g, 0, none⟩)] w fun e w' => e = .returned (.int .i64 (if x.flushed then 40 else 0)) ∧ BD lo hi w' g gr g2 rep y ∧ Only [g, gr, g2] w w' := by
  obtain ⟨⟨W0, base, gm, hD, hM, hT, h1, h2, h3⟩, h4, h5, h6⟩ := h
  refine (dkFlush_any w W0 g gr g2 gm rep 12 x hD hT).mono ?_
  rintro e w1 ⟨rfl, hD1, hO1⟩
  rw [hy] at hD1
  exact ⟨rfl, ⟨⟨W0, base, gm, hD1, hM, hT, h1, h2, h3⟩, h4, h5, h6⟩, hO1⟩
theorem BD.status (h : BD lo hi w g gr g2 rep x) : Calls Tryd.prog 22 #[.pointer (some ⟨g, 0, none⟩)] w fun e w' => e = .returned (.int .i64 (statS x : Int)) ∧ w = w' := by
  obtain ⟨⟨W0, base, gm, hD, hM, hT, h1, h2, h3⟩, h4, h5, h6⟩ := h
  exact dkStatus_any w W0 g gr g2 gm rep 12 x hD
theorem BD.held (h : BD lo hi w g gr g2 rep x) : Calls Tryd.prog 25 #[.pointer (some ⟨g, 0, none⟩)] w fun e w' => e = .returned (.int .i64 (x.held.size : Int)) ∧ w = w' := by
  obtain ⟨⟨W0, base, gm, hD, hM, hT, h1, h2, h3⟩, h4, h5, h6⟩ := h
  exact dkHeld_any w W0 g gr g2 gm rep 12 x hD
theorem BD.wait (h : BD lo hi w g gr g2 rep x) : Calls Tryd.prog 20 #[.pointer (some ⟨g, 0, none⟩)] w fun e w' => e = .returned (.int .i64 (x.ring.length : Int)) ∧ w = w' := by
  obtain ⟨⟨W0, base, gm, hD, hM, hT, h1, h2, h3⟩, h4, h5, h6⟩ := h
  exact dkWait_any w W0 g gr g2 gm rep 12 x hD
end
theorem bare_yes (w : World) (hT : Tabs w) (rep : Bool) : Calls Tryd.prog 24 #[.int .i64 12, .bool rep] w fun e w' => Only [] w w' ∧ ∃ g gr g2, e = .returned (.tuple #[.pointer (some ⟨g, 0, none⟩), .bool true]) ∧ BD w.heap.size w'.heap.size w' g gr g2 rep dk0 := by
  refine (dkBare_any w 12 (by unfold i64ok; omega) rep).mono ?_
  rintro e w1 ⟨hO1, ⟨hno, rfl⟩ | ⟨-, W0, base, gm, g, gr, g2, rfl, hwW, hwb, hOW, hM, hD⟩⟩
  · exact absurd (by unfold NewOk; omega) hno
  have hT0 := hT.only hOW (by simp) (by simp)
  have hge := hD.ge
  obtain ⟨at_, arr, hR⟩ := hD.ring
  have l1 := hD.blk.lt
  have l2 := hR.1.lt
  have l3 := hR.2.1.lt
  exact ⟨hO1, g, gr, g2, rfl, ⟨W0, base, gm, hD, hM, hT0, hwb, hwW, hD.new.size⟩, by omega, by omega, by omega⟩
theorem bare_no (w : World) (r : Int) (hr : i64ok r) (h : ¬ NewOk 1 r) (rep : Bool) : Calls Tryd.prog 24 #[.int .i64 r, .bool rep] w fun e w' => e = .returned (.tuple #[.pointer none, .bool false]) ∧ Only [] w w' := by
  refine (dkBare_any w r hr rep).mono ?_
  rintro e w1 ⟨hO1, ⟨hno, rfl⟩ | ⟨hyes, -⟩⟩
  · exact ⟨rfl, hO1⟩
  · exact absurd hyes h
set_option maxHeartbeats 1000000 in
theorem new_nil (w : World) (r : Int) (rep : Bool) : Calls Tryd.prog 11 #[.pointer none, .int .i64 r, .bool rep] w fun e w' => e = .returned (.tuple #[.pointer none, .int .i64 1]) ∧ w = w' := by
  go_enter Tryd.func11, Tryd.ntmps11
  go_wp2_with (fail)
  go_ret2
  exact ⟨rfl, rfl⟩
-- the closed runs
theorem nu_a1 : feedS [] true 12 [226, 130, 97] dk0 = (3, ⟨.empty, [239, 191, 189, 97], false, false⟩) := by decide +kernel
theorem nu_a2 : dkReadS 12 true 9 ⟨.empty, [239, 191, 189, 97], false, false⟩ = ⟨.empty, [], false, false⟩ := by decide +kernel
theorem nu_b1 : feedS [] false 12 [226] dk0 = (1, ⟨⟨#[226]⟩, [], false, false⟩) := by decide +kernel
theorem nu_b2 : dkFlushS 12 false ⟨⟨#[226]⟩, [], false, false⟩ = ⟨.empty, [226], false, true⟩ := by decide +kernel
theorem nu_b3 : dkReadS 12 false 9 ⟨.empty, [226], false, true⟩ = ⟨.empty, [], false, true⟩ := by decide +kernel
theorem nu_c1 : feedS [] true 12 [226] dk0 = (1, ⟨⟨#[226]⟩, [], false, false⟩) := by decide +kernel
theorem nu_c2 : dkFlushS 12 true ⟨⟨#[226]⟩, [], false, false⟩ = ⟨.empty, [239, 191, 189], false, true⟩ := by decide +kernel
theorem nu_c3 : dkReadS 12 true 9 ⟨.empty, [239, 191, 189], false, true⟩ = ⟨.empty, [], false, true⟩ := by decide +kernel
theorem nu_d1 : feedS [] false 12 [97, 256, 98] dk0 = (1, ⟨.empty, [97], true, false⟩) := by decide +kernel
theorem nu_d2 : feedS [] false 12 [97] ⟨.empty, [97], true, false⟩ = (0, ⟨.empty, [97], true, false⟩) := by decide +kernel
theorem nu_h1 : feedS [] false 12 [97, 97, 97, 97, 97, 97, 97, 97, 97, 97, 97, 97, 226, 97] dk0 = (13, ⟨⟨#[226]⟩, List.replicate 12 97, false, false⟩) := by decide +kernel
theorem nu_h2 : dkFlushS 12 false ⟨⟨#[226]⟩, List.replicate 12 97, false, false⟩ = ⟨⟨#[226]⟩, List.replicate 12 97, false, true⟩ := by decide +kernel
theorem nu_h3 : dkReadS 12 false 12 ⟨⟨#[226]⟩, List.replicate 12 97, false, true⟩ = ⟨.empty, [226], false, true⟩ := by decide +kernel
theorem nu_h4 : dkReadS 12 false 12 ⟨.empty, [226], false, true⟩ = ⟨.empty, [], false, true⟩ := by decide +kernel
end Go.Proofs.YtemnanhoiacphaaDoor
