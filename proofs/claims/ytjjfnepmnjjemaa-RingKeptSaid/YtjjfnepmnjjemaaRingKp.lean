/- RingKept: the walk. -/
import Derived.Test.YtjjfnepmnjjemaaRingP
import Derived.Test.YtjjfnepmnjjemaaBookA
namespace Go.Proofs.Ytjjfnepmnjjemaa
open Go.RowKit

/-- an empty book -/
theorem book_new {w : World} {base g : Nat} (hb : Blk w g 42 [.slice none 0 0, .slice none 0 0, .int .i64 0, .bool false]) (h : base ≤ g) : BookB w base g [g] [] (.slice none 0 0) (.slice none 0 0) 0 [] where
  blk := hb
  lists := OwnS.nil _ _ _
  was := OwnS.nil _ _ _
  len := rfl
  apart k hk := by simp [Value.ownBlock] at hk
  inl k hk := by simp [Value.ownBlock] at hk
  inw k hk := by simp [Value.ownBlock] at hk
  ing := by simp
  data i e u he := by simp at he
  ents e he := by simp at he
  dist := List.Pairwise.nil
  own x hx := by simp at hx; subst hx; exact ⟨h, hb.lt⟩
  ne := ⟨by decide, by decide, by decide⟩
  good e he := by simp at he

theorem own_row {w : World} {base o m : Nat} {l : List UInt8} (hb : Blk w o 5 (bvs l)) (hl : l.length = m) (hbo : base ≤ o) (hm : m ≤ 70368744177664) : w.ownsRow base 5 1 (.slice (some ⟨o, 0, none⟩) m m) m (bvs l) :=
  own_of_blk (sp := []) (by simpa using hb) hbo (by rw [bvs_length, hl, Nat.mul_one]) (by simp) (Nat.le_refl _) (by simp only [maxLen]; omega)
theorem keep_blk (w : World) (base g : Nat) (bl : List Nat) (L : List Ent) (lv wv : Value) (held : Int) (ws : List Value) (h : BookB w base g bl L lv wv held ws) (hL : L.length ≤ 4000) (o m : Nat) (l : List UInt8) (hb : Blk w o 5 (bvs l)) (hl : l.length = m) (hm : m ≤ 70368744177664)
    (hbo : base ≤ o) (ho : o ∉ bl) (hd : ∀ e ∈ L, e.v.ownBlock ≠ some o) :
    Calls Try.prog 24 #[.pointer (some ⟨g, 0, none⟩), .slice (some ⟨o, 0, none⟩) m m] w fun e w' => e = .returned (.tuple #[]) ∧ KeptB w w' base g bl (L ++ [⟨.slice (some ⟨o, 0, none⟩) m m, m, bvs l⟩]) :=
  keep_any w base g bl L lv wv held ws h hL _ m m l (own_row hb hl hbo hm) (by intro k hk; simp [Value.ownBlock] at hk; subst hk; exact ho) (by intro e he k hk hk2; simp [Value.ownBlock] at hk2; subst hk2; exact hd e he hk) hm

/-- behind a Keep: the book, and what it left alone -/
theorem KeptB.next {w0 wP w' : World} {base g lo : Nat} {bl : List Nat} {L : List Ent} (h : KeptB wP w' base g bl L) (hlo : ∀ x ∈ bl, lo ≤ x) (hs : lo ≤ wP.heap.size) (hb : w0.heap.size ≤ lo) (hO : Only [] w0 wP) :
    ∃ j bl' lv' wv' held' ws', BookB w' base g bl' (L.drop j) lv' wv' held' ws' ∧ (L.drop j).length ≤ 4000 ∧ (∀ x ∈ bl', lo ≤ x) ∧ Only bl wP w' ∧ Only [] w0 w' ∧ ∀ x ∈ bl', x ∈ bl ∨ wP.heap.size ≤ x := by
  obtain ⟨j, bl', lv', wv', held', ws', hB, hl, hj, hO2, hbl⟩ := h
  refine ⟨j, bl', lv', wv', held', ws', hB, hl, ?_, hO2, hO.trans' hO2 ?_, hbl⟩
  · intro x hx
    rcases hbl x hx with h1 | h1
    · exact hlo x h1
    · omega
  · intro x hx; have := hlo x hx; omega

set_option maxRecDepth 100000 in
set_option maxHeartbeats 2000000 in
theorem ringKept_walk (w : World) (A : Option Addr) (n0 c : Nat) (l0 : List UInt8) (hl0 : l0.length = n0) (hrd0 : Rd w w.heap.size 1 A n0 (bvs l0)) (hnc : n0 ≤ c) (hc : c ≤ 140737488351232) :
    Calls Try.prog 6 #[.slice A n0 c] w fun e w' => e = .returned (.bool true) ∧ Only [] w w' := by
  obtain ⟨n, l, hl, hrd, hn1, hn300, -, -, hcase⟩ := hrd0.cutTo hl0 300
  have Hl := Lib.hid hl
  have Hl0 := Lib.hid hl0
  clear hl hl0
  go_enter Try.func6, Try.ntmps6
  go_upto_if 12 with (fail)
  go_cut [0] (fun s wx => w = wx ∧ s = .slice A n c)
  case first =>
    rcases hcase with ⟨h3, h4⟩ | ⟨h3, h4⟩
    · have h5 : ¬ (300 : Int) < (n0 : Int) := by omega
      have H4 := Lib.hid h4
      clear h4
      go_wp2
      go_meet
      case rel => exact ⟨rfl, by rw [H4.out]⟩
    · have hsh := run_slice_h (P := Try.prog) (A := A) (n := n0) (c := c) (m := n) (hi := (300 : Int)) Try.underlying26 (size := 1) (by kernel_rfl) (by omega) (by omega)
      have h5 : (300 : Int) < (n0 : Int) := by omega
      have H4 := Lib.hid h4
      clear h4
      go_wp2
      go_meet
      case rel => exact ⟨rfl, rfl⟩
  case rest =>
  obtain ⟨rfl, rfl⟩ := hcut
  clear hcase hrd0
  go_wp2_with (fail)
  refine (ringNew_yes 400 _ (by omega) (by omega)).mono ?_
  rintro e w1 ⟨g, rfl, hg, hR1, hO1⟩
  obtain ⟨g2, hg2⟩ : ∃ g2, g2 = w.heap.size := ⟨_, rfl⟩
  rw [← hg2] at hR1
  have hgw : w.heap.size ≤ g2 := by omega
  have Hg2 := Lib.hid hg2
  have hgg1 := hR1.lt
  clear hg2
  go_wp2_with ((at_builtin
                obtain ⟨v2, w2, hr2, hown2, hO2, hn2, _⟩ := run_append_row (P := Try.prog) (w := w1.alloc (.cells #[] 5)) w1.heap.size 26 26 5 (.int .u8 0) 1 1 Try.underlying26 byteInfo rfl (by omega)
                  (own_empty w1 w1.heap.size 5 1 rfl (Nat.le_refl _)) c ((hrd.only hO1 (by simp)).alloc _) (bvs_one _) (by simp only [maxLen]; omega) (by omega) (by simp)
                refine wpList_append_run (o := ⟨some 27, _, _, _, _, _⟩) (by rfl) (.tmp 25) (.tmp 26) 26 26 (by rfl) (by rfl) (by rfl) hr2 ?_
                clear hr2
                replace hO2 : Only [] w1 w2 := only_own hO2 (Nat.le_refl _) ((Only.refl [] w1).alloc _)
                simp only [Nat.zero_add, List.nil_append] at hown2))
  obtain ⟨A2, c2, rfl, hc2, hrd2, _⟩ := own_slice hown2
  have hsh2 : 0 < n → ∃ h cs, A2 = some ⟨h, 0, none⟩ ∧ w1.heap.size ≤ h ∧ n ≤ List.length cs ∧ Blk w2 h 5 cs := by
    intro h0
    obtain ⟨h, cap, sp, e, hb, hk, _⟩ := own_shape hown2 h0
    cases e
    exact ⟨h, _, rfl, hb, by rw [List.length_append, bvs_length, Hl.out]; omega, hk⟩
  have hs2 := hO2.size
  refine (ringPut_any g g2 400 0 n c2 A2 _ [] l _ (hR1.only hO2 (by simp) (by simp)) _ hrd2 (by intro ad e h0; obtain ⟨h, cs, e2, hb, _⟩ := hsh2 h0; rw [e] at e2; cases e2; show h ≠ g2; omega) hc2 (by omega)).mono ?_
  rintro e w3 ⟨arr3, rfl, hR3, hO3⟩
  replace hR3 : RingAt w3 g g2 400 0 arr3 l := by
    have e : [] ++ l.take (400 - ([] : List UInt8).length) = l := by rw [List.nil_append, List.take_of_length_le (by rw [Hl.out]; simp; omega)]
    rwa [e] at hR3
  have hOw3 : Only [] w w3 := (hO1.trans hO2).trans' hO3 (by intro x hx; simp at hx; omega)
  have hsh3 : 0 < n → ∃ h cs, A2 = some ⟨h, 0, none⟩ ∧ w1.heap.size ≤ h ∧ n ≤ List.length cs ∧ Blk w3 h 5 cs := by
    intro h0
    obtain ⟨h, cs, e, hb, hk, hh⟩ := hsh2 h0
    exact ⟨h, cs, e, hb, hk, hh.only hO3 (by simp; omega)⟩
  clear hsh2 hown2 hn2 hrd2 hR1 hO2 hO3
  go_wp2_with (fail)
  go_loopw [6] (fun i wr => ∃ k : Nat, i = .int .i64 (k : Int) ∧ k ≤ n ∧ RingAt wr g g2 400 0 arr3 l ∧ Only [] w wr ∧ (0 < n → ∃ h cs, A2 = some ⟨h, 0, none⟩ ∧ w1.heap.size ≤ h ∧ n ≤ List.length cs ∧ Blk wr h 5 cs)) (fun i _ => n - (intOf i).toNat)
  case atStart => exact ⟨0, rfl, by omega, hR3, hOw3, hsh3⟩
  case round =>
    obtain ⟨k, rfl, hk, hR, hO, hsh⟩ := hrel
    clear hR3 hOw3 hsh3
    by_cases hlt : k < n
    · obtain ⟨h, cs, rfl, hb, hcs, hh⟩ := hsh (by omega)
      clear hsh
      obtain ⟨z, hz⟩ : ∃ z, wr.cell? ⟨h, k, none⟩ = some z := ⟨_, by rw [hh.cell, List.getElem?_eq_getElem (by omega)]⟩
      have hf : wr.frozen? ⟨h, k, none⟩ = false := hh.frozen k
      go_wp2_with (fail)
      go_roundw
      case rel =>
        have hS := (Only.refl [h] wr).setCell (p := ⟨h, k, none⟩) (.inl (by simp)) (.int .u8 9)
        exact ⟨k + 1, by go_num, by omega, hR.only hS (by simp; omega) (by simp; omega), hO.trans' hS (by intro x hx; simp at hx; have := hO1.size; omega), fun _ => ⟨h, _, rfl, hb, by simpa using hcs, hh.set k _⟩⟩
      case measure => simp [intOf]; omega
    · clear hsh
      go_wp2_with (fail)
      obtain ⟨g7, hg7⟩ : ∃ g7, g7 = wr.heap.size := ⟨_, rfl⟩
      rw [← hg7]
      refine name_it (p := fun y => Calls _ _ _ y _) ?_
      intro w5 H5
      have hO5' : Only [] wr w5 := by rw [H5.out]; exact (Only.refl _ _).alloc _
      have hb5 : Blk w5 g7 42 [.slice none 0 0, .slice none 0 0, .int .i64 0, .bool false] := by rw [H5.out]; exact Blk.new' _ _ _ hg7.symm rfl
      have hgr := hR.lt
      have hg7g : g < g7 ∧ g2 < g7 := by omega
      have hwg7 : w.heap.size ≤ g7 := by have := hO.size; omega
      have hB0 : BookB w5 w.heap.size g7 [g7] [] (.slice none 0 0) (.slice none 0 0) 0 [] := book_new hb5 hwg7
      replace hR := hR.only hO5' (by simp) (by simp)
      replace hO := hO.trans hO5'
      have hlo0 : ∀ x ∈ [g7], g7 ≤ x := by intro x hx; simp at hx; omega
      have hs5 : g7 ≤ w5.heap.size := Nat.le_of_lt hb5.lt
      clear H5 hg7 hb5 hgr
      refine (ringPeek_any g g2 400 0 400 _ _ _ hR n (by rw [Hl.out]; omega)).mono ?_
      rintro e w6 ⟨o1, rfl, ho1, hb1, hOp⟩
      rw [List.take_of_length_le (by rw [Hl.out]; omega)] at hb1
      have hB1 := hB0.only0 hOp
      replace hR := hR.only hOp (by simp) (by simp)
      replace hO := hO.trans hOp
      have hs6 := hOp.size
      clear hOp
      go_wp2_with (fail)
      refine (keep_blk _ w.heap.size g7 _ _ _ _ _ _ hB1 (by simp) o1 n _ hb1 Hl.out (by omega) (by omega) (by intro hx; have := (hB0.own _ hx).2; omega) (by simp)).mono ?_
      rintro e w7 ⟨rfl, hK1⟩
      obtain ⟨j1, bl1, lv1, wv1, held1, ws1, hB2, hL2, hlo1, hOk, hO7, hbl1⟩ := hK1.next hlo0 (by omega) hwg7 hO
      generalize List.drop j1 _ = L1 at hB2 hL2
      have hR7 := hR.only hOk (by intro hx; have := hlo0 _ hx; omega) (by intro hx; have := hlo0 _ hx; omega)
      have hs7 := hOk.size
      clear hK1 hOk hB0 hB1 hb1 hR hO hbl1 hlo0
      go_wp2_with (fail)
      refine (ringPeek_any g g2 400 0 400 _ _ _ hR7 n (by rw [Hl.out]; omega)).mono ?_
      rintro e w8 ⟨o2, rfl, ho2, hb2, hOp⟩
      rw [List.take_of_length_le (by rw [Hl.out]; omega)] at hb2
      have hB3 := hB2.only0 hOp
      have hR8 := hR7.only hOp (by simp) (by simp)
      have hO8 := hO7.trans hOp
      have hs8 := hOp.size
      clear hOp
      go_wp2_with (fail)
      refine (keep_blk _ w.heap.size g7 _ _ _ _ _ _ hB3 hL2 o2 n _ hb2 Hl.out (by omega) (by omega) (by intro hx; have := (hB2.own _ hx).2; omega) (by intro e he hk; have := (own_lt (hB2.ents e he).1 hk).2; omega)).mono ?_
      rintro e w9 ⟨rfl, hK2⟩
      obtain ⟨j2, bl2, lv2, wv2, held2, ws2, hB4, hL4, hlo2, hOk, hO9, hbl2⟩ := hK2.next hlo1 (by omega) hwg7 hO8
      generalize List.drop j2 _ = L2 at hB4 hL4
      have hR9 := hR8.only hOk (by intro hx; have := hlo1 _ hx; omega) (by intro hx; have := hlo1 _ hx; omega)
      have hs9 := hOk.size
      clear hK2 hOk hB2 hB3 hb2 hR7 hR8 hO7 hO8 hbl2 hlo1
      go_wp2_with (fail)
      obtain ⟨d, hd⟩ : ∃ d, d = n / 2 := ⟨_, rfl⟩
      have hdn : d ≤ n := by omega
      refine (ringTake_any g g2 400 0 ((n : Int) / 2) _ _ _ hR9 d (by rw [Hl.out]; omega)).mono ?_
      rintro e w10 ⟨o3, a3, rfl, ho3, hb3, hR10, hOt⟩
      have Hd := Lib.hid hd
      clear hd
      have hgn : ∀ x ∈ bl2, x ≠ g := by intro x hx hxg; have := hlo2 x hx; omega
      have hB5 := hB4.only hOt (by intro x hx; simp at hx; subst hx; exact fun hx => hgn _ hx rfl) (by
        intro e he k hk hkg; simp at hkg; subst hkg
        obtain ⟨cs, hc⟩ := own_blk (hB4.ents e he).1 hk
        exact hR9.1.ne hc (by decide) rfl)
      have hO10 := hO9.trans' hOt (by intro x hx; simp at hx; omega)
      have hs10 := hOt.size
      have hg10 := hR9.lt
      clear hOt hR9 hO9
      go_wp2_with (fail)
      refine (ringTake_any g g2 400 a3 400 _ _ _ hR10 (n - d) (by rw [List.length_drop, Hl.out]; omega)).mono ?_
      rintro e w11 ⟨o4, a4, rfl, ho4, hb4, hR11, hOt⟩
      have hl3 : (l.take d).length = d := by rw [List.length_take, Hl.out]; omega
      have hl4 : (l.drop d).length = n - d := by rw [List.length_drop, Hl.out]
      rw [List.take_of_length_le (by omega)] at hb4
      have hb3' : Blk w11 o3 5 (bvs (l.take d)) := hb3.only hOt (by simp; omega)
      have hlt3 := hb3.lt
      have hlt4 := hb4.lt
      have hB6 := hB5.only hOt (by intro x hx; simp at hx; subst hx; exact fun hx => hgn _ hx rfl) (by
        intro e he k hk hkg; simp at hkg; subst hkg
        obtain ⟨cs, hc⟩ := own_blk (hB5.ents e he).1 hk
        exact hR10.1.ne hc (by decide) rfl)
      have hO11 := hO10.trans' hOt (by intro x hx; simp at hx; omega)
      have hs11 := hOt.size
      have cv3 := byteStr (n := d) d hb3' hl3
      have cv4 := byteStr (n := n - d) (n - d) hb4 hl4
      have cv0 := run_string_rd (P := Try.prog) 26 9 5 Try.underlying26 Try.underlying5 Try.underlying9 c (hrd.only hO11 (by simp))
      have hsum : ¬ 9223372036854775807 < (str (l.take d)).size + (str (l.drop d)).size := by rw [str_size, str_size, hl3, hl4]; omega
      have hcat : str (l.take d) ++ str (l.drop d) = str l := by
        have e : ∀ a b : List UInt8, str a ++ str b = str (a ++ b) := by intro a b; apply ByteArray.ext; simp [str, ByteArray.data_append]
        rw [e, List.take_append_drop]
      have Hl3 := Lib.hid hl3
      have Hl4 := Lib.hid hl4
      clear hOt hR10 hR11 hO10 hB5 hb3 hl3 hl4
      go_wp2_with (fail)
      clear cv3 cv4 cv0 hsum hcat
      refine (keep_blk _ w.heap.size g7 _ _ _ _ _ _ hB6 hL4 o3 d _ hb3' Hl3.out (by omega) (by omega) (by intro hx; have := (hB4.own _ hx).2; omega) (by intro e he hk; have := (own_lt (hB4.ents e he).1 hk).2; omega)).mono ?_
      rintro e w12 ⟨rfl, hK3⟩
      have hall : ∀ e ∈ L2 ++ [(⟨.slice (some ⟨o3, 0, none⟩) d d, d, bvs (l.take d)⟩ : Ent)], e.v.ownBlock ≠ some o4 := by
        intro e he hk
        simp only [List.mem_append, List.mem_singleton] at he
        rcases he with he | rfl
        · have := (own_lt (hB4.ents e he).1 hk).2; omega
        · simp [Value.ownBlock] at hk; omega
      obtain ⟨j3, bl3, lv3, wv3, held3, ws3, hB7, hL7, hlo3, hOk, hO12, hbl3⟩ := hK3.next hlo2 (by omega) hwg7 hO11
      have hall3 : ∀ e ∈ List.drop j3 (L2 ++ [(⟨.slice (some ⟨o3, 0, none⟩) d d, d, bvs (l.take d)⟩ : Ent)]), e.v.ownBlock ≠ some o4 := fun e he => hall e (List.mem_of_mem_drop he)
      generalize List.drop j3 _ = L3 at hB7 hL7 hall3
      have hb4' : Blk w12 o4 5 (bvs (l.drop d)) := hb4.only hOk (by intro hx; have := (hB4.own _ hx).2; omega)
      have ho4n : o4 ∉ bl3 := by
        intro hx
        rcases hbl3 _ hx with h1 | h1
        · have := (hB4.own _ h1).2; omega
        · omega
      have hs12 := hOk.size
      clear hK3 hOk hB6 hB4 hb3' hb4 hO11 hall hbl3
      go_wp2_with (fail)
      refine (keep_blk _ w.heap.size g7 _ _ _ _ _ _ hB7 hL7 o4 (n - d) _ hb4' Hl4.out (by omega) (by omega) ho4n hall3).mono ?_
      rintro e w13 ⟨rfl, hK4⟩
      obtain ⟨j4, bl4, lv4, wv4, held4, ws4, hB8, hL8, hlo4, hOk, hO13, hbl4⟩ := hK4.next hlo3 (by omega) hwg7 hO12
      generalize List.drop j4 _ = L4 at hB8 hL8
      clear hK4 hOk hB7 hb4' hO12 hall3 hbl4
      go_wp2_with (fail)
      refine (apart_any _ w.heap.size g7 _ _ _ _ _ _ hB8 (by omega)).mono ?_
      rintro e w14 ⟨rfl, hOa⟩
      have hO14 : Only [] w w14 := hO13.trans' hOa (by
        intro x hx
        simp only [List.mem_append, List.mem_flatMap, Option.mem_toList] at hx
        rcases hx with hx | ⟨e, he, hk⟩
        · exact .inr (hB8.own x hx).1
        · exact .inr (own_lt (hB8.ents e he).1 hk).1)
      go_wp2_with (fail)
      refine (ringKnown _).mono ?_
      rintro e w15 ⟨rfl, hO15⟩
      go_wp2
      go_ret
      exact ⟨rfl, hO14.trans hO15⟩
end Go.Proofs.Ytjjfnepmnjjemaa
