/- Chapter 1's runs: the law's helper 'known' answers true; OctetSums, OctetNumbers, OctetGets: the walks. -/
import Derived.Test.YtjjfnepmnjjemaaCrc
import Derived.Test.YtjjfnepmnjjemaaPut
import Derived.Test.YtjjfnepmnjjemaaBk
import Derived.Lib.SlBytesConst
namespace Go.Proofs.Ytjjfnepmnjjemaa
open Go.RowKit

/-- a slice literal of bytes -/
theorem rd_lit (w : World) (t : TypeId) (l : List UInt8) (m : Nat × Nat) (g : Nat) (hg : w.heap.size = g) (A : Array Value) (hA : A.toList = bvs l) (B : Nat) (hB : g < B) : Rd (w.alloc (.cells A t m)) B 1 (some ⟨g, 0, none⟩) l.length (bvs l) := by
  subst hg
  refine ⟨by rw [bvs_length, Nat.mul_one], fun _ => ⟨_, rfl, hB, by simp, rfl, fun j u hu => ?_⟩⟩
  rw [add_lit, cell_of_row _ _ _ _ _ _ (heap_alloc_new w _)]
  rw [← hA] at hu
  simpa using hu
theorem sum_digits : ((~~~(sumOf [49, 50, 51, 52, 53, 54, 55, 56, 57])).toNat : Int) = 3421780262 := by decide +kernel
theorem sum_a : ((~~~(sumOf [97])).toNat : Int) = 3904355907 := by decide +kernel
theorem sum_none : ((~~~(sumOf [])).toNat : Int) = 0 := by decide +kernel

set_option maxRecDepth 100000 in
set_option maxHeartbeats 1000000 in
theorem octetKnown (w : World) : Calls Try.prog 29 #[] w fun e w' => e = .returned (.bool true) ∧ Only [] w w' := by
  have kc := fun (w : World) (C : Array Value) (n c : Nat) => Lib.run_convert_bytes_const (P := Try.prog) w 26 5 C n c Try.underlying26 Try.underlying5
  have hsum := sum_digits
  obtain ⟨h, hh⟩ : ∃ h, h = w.heap.size := ⟨_, rfl⟩
  have hg := get_any (some ⟨h, 0, none⟩) 5 5 [9, 0, 0, 1, 2] (w.alloc (.cells #[.int .u8 9, .int .u8 0, .int .u8 0, .int .u8 1, .int .u8 2] 5)) (rd_lit w 5 [9, 0, 0, 1, 2] (0, 0) h hh.symm _ rfl _ (by simp [hh])) (by omega) (by omega) 1
  rw [show getTuple (getVal [9, 0, 0, 1, 2] 1) = .tuple #[.int .u32 258, .int .i64 5, .int .i64 0] by rfl] at hg
  have Hg := Lib.hid hg
  clear hg
  go_enter Try.func29, Try.ntmps29
  go_wp2_with (fail)
  rw [← hh]
  refine Hg.out.mono ?_
  rintro e w1 ⟨rfl, hw1⟩
  have hO1 : Only [] w w1 := by rw [← hw1]; exact (Only.refl [] w).alloc _
  clear hw1 hh Hg
  go_wp2_with (fail)
  refine (sum_any _ 9 9 0 [49, 50, 51, 52, 53, 54, 55, 56, 57] _ (by exact rd_lit _ 5 _ _ _ (by simp) _ rfl _ (by simp)) (by omega)).mono ?_
  rintro e w2 ⟨rfl, hO2⟩
  rw [hsum]
  clear hsum
  go_wp2
  go_ret
  exact ⟨rfl, (hO1.alloc _).trans hO2⟩

set_option maxRecDepth 100000 in
set_option maxHeartbeats 1000000 in
theorem octetSums_walk (w : World) (A : Option Addr) (n c : Nat) (l : List UInt8) (hl : l.length = n) (hr : Rd w w.heap.size 1 A n (bvs l)) (hc : n ≤ c) (hb : c ≤ 140737488351232) :
    Calls Try.prog 7 #[.slice A n c] w fun e w' => e = .returned (.bool true) ∧ Only [] w w' := by
  have Hl := Lib.hid hl
  clear hl
  go_enter Try.func7, Try.ntmps7
  go_wp2_with (fail)
  refine (sum_any A n c 0 l _ hr (by omega)).mono ?_
  rintro e w1 ⟨rfl, hO1⟩
  go_wp2_with (fail)
  refine (refSum_any A n c 0 l _ ((hr.only hO1 (by simp)).more hO1.size) (by omega)).mono ?_
  rintro e w2 ⟨rfl, rfl⟩
  rw [← sumOf_eq_refOf]
  go_wp2_with (fail)
  refine (octetKnown _).mono ?_
  rintro e w3 ⟨rfl, hO3⟩
  go_wp2
  go_ret
  exact ⟨rfl, hO1.trans hO3⟩

set_option maxRecDepth 100000 in
set_option maxHeartbeats 1000000 in
theorem octetNumbers_walk (w : World) : Calls Try.prog 11 #[] w fun e w' => e = .returned (.bool true) ∧ Only [] w w' := by
  have kc := fun (w : World) (C : Array Value) (n c : Nat) => Lib.run_convert_bytes_const (P := Try.prog) w 26 5 C n c Try.underlying26 Try.underlying5
  have e1 : textTuple (getTextVal [0, 0, 0, 2, 97] 0 9) = .tuple #[.string ByteArray.empty, .int .i64 0, .int .i64 10] := by rfl
  have e2 : textTuple (getTextVal [0, 0, 0, 2, 97, 98] 0 1) = .tuple #[.string ByteArray.empty, .int .i64 0, .int .i64 3] := by rfl
  have e3 : getTuple (getVal [0, 0, 1, 2] 1) = .tuple #[.int .u32 0, .int .i64 0, .int .i64 10] := by rfl
  have e4 : getTuple (getVal [0, 0, 1, 2] 5) = .tuple #[.int .u32 0, .int .i64 0, .int .i64 1] := by rfl
  have e5 : getTuple (getVal [0, 0, 1, 2] (-1)) = .tuple #[.int .u32 0, .int .i64 0, .int .i64 1] := by rfl
  have E1 := Lib.hid e1
  have E2 := Lib.hid e2
  have E3 := Lib.hid e3
  have E4 := Lib.hid e4
  have E5 := Lib.hid e5
  have S1 := Lib.hid sum_none
  have S2 := Lib.hid sum_a
  clear e1 e2 e3 e4 e5
  go_enter Try.func11, Try.ntmps11
  go_wp2_with (fail)
  refine (getText_any _ 5 5 [0, 0, 0, 2, 97] _ (by exact rd_lit _ 5 _ _ _ (by simp) _ rfl _ (by simp)) (by omega) (by omega) 0 9).mono ?_
  rintro e w1 ⟨rfl, rfl⟩
  rw [E1.out]
  go_wp2_with (fail)
  refine (getText_any _ 6 6 [0, 0, 0, 2, 97, 98] _ (by exact rd_lit _ 5 _ _ _ (by simp) _ rfl _ (by simp)) (by omega) (by omega) 0 1).mono ?_
  rintro e w1 ⟨rfl, rfl⟩
  rw [E2.out]
  go_wp2_with (fail)
  refine (get_any _ 4 4 [0, 0, 1, 2] _ (by exact rd_lit _ 5 _ _ _ (by simp) _ rfl _ (by simp)) (by omega) (by omega) 1).mono ?_
  rintro e w1 ⟨rfl, rfl⟩
  rw [E3.out]
  go_wp2_with (fail)
  refine (get_any _ 4 4 [0, 0, 1, 2] _ (by exact rd_lit _ 5 _ _ _ (by simp) _ rfl _ (by simp)) (by omega) (by omega) 5).mono ?_
  rintro e w1 ⟨rfl, rfl⟩
  rw [E4.out]
  go_wp2_with (fail)
  refine (get_any _ 4 4 [0, 0, 1, 2] _ (by exact rd_lit _ 5 _ _ _ (by simp) _ rfl _ (by simp)) (by omega) (by omega) (-1)).mono ?_
  rintro e w1 ⟨rfl, rfl⟩
  rw [E5.out]
  go_wp2_with (fail)
  refine (sum_any none 0 0 0 [] _ (Rd.zero _ _ _ _) (by omega)).mono ?_
  rintro e w2 ⟨rfl, hO2⟩
  rw [S1.out]
  replace hO2 := ((((((Only.refl [] w).alloc _).alloc _).alloc _).alloc _).alloc _).trans hO2
  go_wp2_with (fail)
  refine (sum_any _ 1 1 0 [97] _ (by exact rd_lit _ 5 _ _ _ (by simp) _ rfl _ (by simp)) (by omega)).mono ?_
  rintro e w3 ⟨rfl, hO3⟩
  rw [S2.out]
  replace hO3 := (hO2.alloc _).trans hO3
  go_wp2_with (fail)
  refine (octetKnown _).mono ?_
  rintro e w4 ⟨rfl, hO4⟩
  go_wp2
  go_ret
  exact ⟨rfl, hO3.trans hO4⟩

theorem getText_neg (l : List UInt8) (at_ most : Int) (h : most < 0) : ∃ er, getTextVal l at_ most = ([], 0, er) ∧ getTextVal l at_ (-1) = ([], 0, er) := by
  rw [getTextVal_def, getTextVal_def]
  by_cases h0 : (getVal l at_).2.2 ≠ 0
  · rw [if_pos h0, if_pos h0]; exact ⟨_, rfl, rfl⟩
  · rw [if_neg h0, if_neg h0, if_pos (by omega), if_pos (by omega)]; exact ⟨_, rfl, rfl⟩

set_option maxRecDepth 100000 in
set_option maxHeartbeats 2000000 in
theorem octetGets_walk (w : World) (A : Option Addr) (n c : Nat) (l : List UInt8) (hl : l.length = n) (hr : Rd w w.heap.size 1 A n (bvs l)) (hc : n ≤ c) (hb : c ≤ 140737488351232)
    (at_ : Int) (hat : -9223372036854775808 ≤ at_ ∧ at_ ≤ 9223372036854775807) (most : Int) (hmost : -9223372036854775808 ≤ most ∧ most ≤ 9223372036854775807) :
    Calls Try.prog 12 #[.slice A n c, .int .i64 at_, .int .i64 most] w fun e w' => e = .returned (.bool true) ∧ Only [] w w' := by
  have hm165 := byte_lt 165
  go_enter Try.func12, Try.ntmps12
  go_wp2_with (fail)
  refine (roomy_any A n c w.heap.size l 165 _ hr (by omega)).mono ?_
  rintro e w1 ⟨rfl, hb1, hO1⟩
  obtain ⟨h, hh⟩ : ∃ h, h = w.heap.size := ⟨_, rfl⟩
  rw [← hh] at hb1 ⊢
  have hf : Rd w1 w1.heap.size 1 (some ⟨h, 0, none⟩) (n + 80) (bvs (roomy l 165)) := (Rd.whole hb1 (by rw [bvs_length, roomy, List.length_append, List.length_replicate, hl, Nat.mul_one])).more hb1.lt
  have hf' : Rd w1 w1.heap.size 1 (some ⟨h, 0, none⟩) n (bvs l) := by
    have h1 := hf.take (k := n) (by omega)
    rw [Nat.mul_one, bvs_take] at h1
    have e : (roomy l 165).take n = l := by unfold roomy; rw [List.take_append_of_le_length (by omega), List.take_of_length_le (by omega)]
    rwa [e] at h1
  have hr1 := (hr.only hO1 (by simp)).more hO1.size
  have Hl := Lib.hid hl
  clear hh hl
  go_wp2_with (fail)
  refine (get_any _ n (n + 80) l _ hf' (by omega) (by omega) at_).mono ?_
  rintro e w2 ⟨rfl, rfl⟩
  have hx := getVal_bd l at_
  generalize hG : getVal l at_ = x at hx ⊢
  obtain ⟨x1, x2, x3⟩ := x
  have HG := Lib.hid hG
  clear hG
  simp only [getTuple]
  go_wp2_with (fail)
  refine (refGet_any A n c l _ hr1 (by omega) at_).mono ?_
  rintro e w2 ⟨rfl, rfl⟩
  rw [HG.out]
  simp only [getTuple]
  go_wp2_with (fail)
  refine (getText_any _ n (n + 80) l _ hf' (by omega) (by omega) at_ most).mono ?_
  rintro e w2 ⟨rfl, rfl⟩
  by_cases hm : most < 0
  · obtain ⟨er, e1, e2⟩ := getText_neg l at_ most hm
    rw [e1]
    have E2 := Lib.hid e2
    clear e1 e2
    simp only [textTuple, str_nil]
    go_wp2_with (fail)
    refine (refGetText_any A n c l _ hr1 (by omega) (by omega) at_ (-1)).mono ?_
    rintro e w2 ⟨rfl, rfl⟩
    rw [E2.out]
    simp only [textTuple, str_nil]
    go_wp2_with (fail)
    refine (intact_any (some ⟨h, 0, none⟩) A n (n + 80) c _ _ l 165 _ hf hr1 (by omega) (by omega)).mono ?_
    rintro e w3 ⟨rfl, k3, rfl⟩
    go_wp2_with (fail)
    refine (octetKnown _).mono ?_
    rintro e w4 ⟨rfl, hO4⟩
    go_wp2
    go_ret
    exact ⟨rfl, (hO1.drewN _).trans hO4⟩
  · generalize hT : getTextVal l at_ most = y
    obtain ⟨y1, y2, y3⟩ := y
    have HT := Lib.hid hT
    clear hT
    simp only [textTuple]
    go_wp2_with (fail)
    refine (refGetText_any A n c l _ hr1 (by omega) (by omega) at_ most).mono ?_
    rintro e w2 ⟨rfl, rfl⟩
    rw [HT.out]
    simp only [textTuple]
    go_wp2_with (fail)
    refine (intact_any (some ⟨h, 0, none⟩) A n (n + 80) c _ _ l 165 _ hf hr1 (by omega) (by omega)).mono ?_
    rintro e w3 ⟨rfl, k3, rfl⟩
    go_wp2_with (fail)
    refine (octetKnown _).mono ?_
    rintro e w4 ⟨rfl, hO4⟩
    go_wp2
    go_ret
    exact ⟨rfl, (hO1.drewN _).trans hO4⟩
end Go.Proofs.Ytjjfnepmnjjemaa
