/- OctetPuts, OctetBack: the walks. -/
import Derived.Test.YtjjfnepmnjjemaaOctK
namespace Go.Proofs.Ytjjfnepmnjjemaa
open Go.RowKit

theorem roomy_rd {w w1 : World} {h n : Nat} {l : List UInt8} {m : UInt8} {t : TypeId} (hb1 : Blk w1 h t (bvs (roomy l m))) (hl : l.length = n) :
    Rd w1 w1.heap.size 1 (some ⟨h, 0, none⟩) (n + 80) (bvs (roomy l m)) ∧ Rd w1 w1.heap.size 1 (some ⟨h, 0, none⟩) n (bvs l) := by
  have hf : Rd w1 w1.heap.size 1 (some ⟨h, 0, none⟩) (n + 80) (bvs (roomy l m)) := (Rd.whole hb1 (by rw [bvs_length, roomy, List.length_append, List.length_replicate, hl, Nat.mul_one])).more hb1.lt
  refine ⟨hf, ?_⟩
  have h1 := hf.take (k := n) (by omega)
  rw [Nat.mul_one, bvs_take] at h1
  have e : (roomy l m).take n = l := by unfold roomy; rw [List.take_append_of_le_length (by omega), List.take_of_length_le (by omega)]
  rwa [e] at h1
theorem Rd.go {w w' : World} {B size n : Nat} {A : Option Addr} {xs : List Value} (h : Rd w B size A n xs) (hB : B ≤ w.heap.size) (hO : Only [] w w') : Rd w' w'.heap.size size A n xs := (h.only hO (by simp)).more (Nat.le_trans hB hO.size)

set_option maxRecDepth 100000 in
set_option maxHeartbeats 2000000 in
theorem octetPuts_walk (w : World) (A : Option Addr) (n c : Nat) (l : List UInt8) (hl : l.length = n) (hr : Rd w w.heap.size 1 A n (bvs l)) (hc : n ≤ c) (hb : c ≤ 1048576)
    (x : Int) (hx : 0 ≤ x ∧ x ≤ 4294967295) (s : ByteArray) (hs : s.size ≤ 1048576) :
    Calls Try.prog 9 #[.slice A n c, .int .u32 x, .string s] w fun e w' => e = .returned (.bool true) ∧ Only [] w w' := by
  have hm165 := byte_lt 165
  obtain ⟨x, rfl⟩ := Int.eq_ofNat_of_zero_le hx.1
  have hx' : x < 4294967296 := by omega
  clear hx
  go_enter Try.func9, Try.ntmps9
  go_wp2_with (fail)
  refine (roomy_any A n c w.heap.size l 165 _ hr (by omega)).mono ?_
  rintro e w1 ⟨rfl, hb1, hO1⟩
  obtain ⟨h, hh⟩ : ∃ h, h = w.heap.size := ⟨_, rfl⟩
  rw [← hh] at hb1 ⊢
  obtain ⟨hf, hf'⟩ := roomy_rd (w := w) hb1 hl
  have hr1 := hr.go (Nat.le_refl _) hO1
  have Hl := Lib.hid hl
  clear hh hl hr
  go_wp2_with (fail)
  refine (put_any _ n (n + 80) x l _ hf' (by omega) hx' (by omega)).mono ?_
  rintro e w2 ⟨v2, rfl, hown2, hO2⟩
  obtain ⟨A2, c2, rfl, hc2, hrd2, _⟩ := own_slice hown2
  replace hf := hf.go (Nat.le_refl _) hO2
  replace hf' := hf'.go (Nat.le_refl _) hO2
  replace hr1 := hr1.go (Nat.le_refl _) hO2
  clear hown2
  go_wp2_with (fail)
  refine (putText_any _ n (n + 80) l s _ hf' (by omega) (by omega) (by omega)).mono ?_
  rintro e w3 ⟨v3, rfl, hown3, hO3⟩
  obtain ⟨A3, c3, rfl, hc3, hrd3, _⟩ := own_slice hown3
  replace hf := hf.go (Nat.le_refl _) hO3
  replace hr1 := hr1.go (Nat.le_refl _) hO3
  replace hrd2 := hrd2.go (Nat.le_refl _) hO3
  clear hown3 hf'
  go_wp2_with (fail)
  refine (refPut_any _ n c x l _ hr1 (by omega) hx' (by omega)).mono ?_
  rintro e w4 ⟨v4, rfl, hown4, hO4⟩
  obtain ⟨A4, c4, rfl, hc4, hrd4, _⟩ := own_slice hown4
  replace hf := hf.go (Nat.le_refl _) hO4
  replace hr1 := hr1.go (Nat.le_refl _) hO4
  replace hrd2 := hrd2.go (Nat.le_refl _) hO4
  replace hrd3 := hrd3.go (Nat.le_refl _) hO4
  clear hown4
  go_wp2_with (fail)
  refine (same_any A2 A4 (n + 4) c2 (n + 4) c4 _ _ _ _ _ hrd2 hrd4 (by omega)).mono ?_
  rintro e w5 ⟨rfl, k5, rfl⟩
  rw [decide_eq_true rfl]
  clear hrd2 hrd4
  go_wp2_with (fail)
  refine (refPutText_any _ n c l s _ (hr1.drewN k5) (by omega) (by omega) (by omega)).mono ?_
  rintro e w6 ⟨v6, rfl, hown6, hO6⟩
  obtain ⟨A6, c6, rfl, hc6, hrd6, _⟩ := own_slice hown6
  replace hf := (hf.drewN k5).go (Nat.le_refl _) hO6
  replace hr1 := (hr1.drewN k5).go (Nat.le_refl _) hO6
  replace hrd3 := (hrd3.drewN k5).go (Nat.le_refl _) hO6
  clear hown6
  go_wp2_with (fail)
  refine (same_any A3 A6 (n + 4 + s.size) c3 (n + 4 + s.size) c6 _ _ _ _ _ hrd3 hrd6 (by omega)).mono ?_
  rintro e w7 ⟨rfl, k7, rfl⟩
  rw [decide_eq_true rfl]
  clear hrd3 hrd6
  go_wp2_with (fail)
  refine (intact_any (some ⟨h, 0, none⟩) A n (n + 80) c _ _ l 165 _ (hf.drewN k7) (hr1.drewN k7) (by omega) (by omega)).mono ?_
  rintro e w8 ⟨rfl, k8, rfl⟩
  go_wp2_with (fail)
  refine (octetKnown _).mono ?_
  rintro e w9 ⟨rfl, hO9⟩
  go_wp2
  go_ret
  exact ⟨rfl, (((((hO1.trans hO2).trans hO3).trans hO4).drewN k5).trans hO6 |>.drewN (k7 + k8)).trans hO9⟩

theorem be4_length (x : Nat) : (be4 x).length = 4 := rfl
theorem beN_be4 (x : Nat) (h : x < 4294967296) : beN (be4 x) = x := by
  simp [beN, be4]
  omega
theorem numAt_behind (l r : List UInt8) (x k : Nat) (h : x < 4294967296) (hk : l.length = k) : numAt (l ++ be4 x ++ r) k = x := by
  subst hk
  unfold numAt
  rw [List.append_assoc, List.drop_left, List.take_left' (be4_length x), beN_be4 x h]
theorem getVal_behind (l r : List UInt8) (x k : Nat) (h : x < 4294967296) (hk : l.length = k) : getVal (l ++ be4 x ++ r) (k : Int) = (x, k + 4, 0) := by
  unfold getVal
  have hlen : (l ++ be4 x ++ r).length = k + 4 + r.length := by rw [List.length_append, List.length_append, be4_length, hk]
  rw [if_neg (by omega), if_neg (by omega), Int.toNat_natCast, numAt_behind l r x k h hk]
theorem getText_behind (l r : List UInt8) (s : ByteArray) (k : Nat) (most : Int) (h : s.size < 4294967296) (hk : l.length = k) (hm : (s.size : Int) ≤ most) : getTextVal (l ++ be4 s.size ++ (s.data.toList ++ r)) (k : Int) most = (s.data.toList, k + 4 + s.size, 0) := by
  have hlen : (l ++ be4 s.size ++ (s.data.toList ++ r)).length = k + 4 + s.size + r.length := by
    rw [List.length_append, List.length_append, be4_length, hk, List.length_append, Array.length_toList]
    show _ = k + 4 + s.data.size + r.length
    omega
  rw [getTextVal_def, getVal_behind l _ s.size k h hk]
  simp only
  rw [if_neg (by omega), if_neg (by omega), if_neg (by omega)]
  have e : (l ++ be4 s.size ++ (s.data.toList ++ r)).drop (k + 4) = s.data.toList ++ r := by
    rw [List.drop_left' (by rw [List.length_append, be4_length, hk])]
  rw [e, List.take_left' (by rw [Array.length_toList]; rfl)]

set_option maxRecDepth 100000 in
set_option maxHeartbeats 2000000 in
theorem octetBack_walk (w : World) (A : Option Addr) (n c : Nat) (l : List UInt8) (hl : l.length = n) (hr : Rd w w.heap.size 1 A n (bvs l)) (hc : n ≤ c) (hb : c ≤ 1048576)
    (x : Int) (hx : 0 ≤ x ∧ x ≤ 4294967295) (s : ByteArray) (hs : s.size ≤ 1048576)
    (A' : Option Addr) (n' c' : Nat) (l' : List UInt8) (hl' : l'.length = n') (hr' : Rd w w.heap.size 1 A' n' (bvs l')) (hc' : n' ≤ c') (hb' : c' ≤ 1048576) :
    Calls Try.prog 13 #[.slice A n c, .int .u32 x, .string s, .slice A' n' c'] w fun e w' => e = .returned (.bool true) ∧ Only [] w w' := by
  obtain ⟨x, rfl⟩ := Int.eq_ofNat_of_zero_le hx.1
  have hx' : x < 4294967296 := by omega
  clear hx
  go_enter Try.func13, Try.ntmps13
  go_wp2_with (fail)
  refine (put_any _ n c x l _ hr (by omega) hx' (by omega)).mono ?_
  rintro e w2 ⟨v2, rfl, hown2, hO2⟩
  obtain ⟨A2, c2, rfl, hc2, hrd2, _⟩ := own_slice hown2
  replace hr' := hr'.go (Nat.le_refl _) hO2
  clear hown2
  go_wp2_with (fail)
  refine (putText_any _ (n + 4) c2 (l ++ be4 x) s _ hrd2 (by omega) (by omega) (by omega)).mono ?_
  rintro e w3 ⟨v3, rfl, hown3, hO3⟩
  replace hr' := hr'.go (Nat.le_refl _) hO3
  obtain ⟨v4, w4, hrun, hown4, hO4, _⟩ := run_append_row (P := Try.prog) w2.heap.size 26 26 5 (.int .u8 0) 1 1 Try.underlying26 byteInfo' rfl (by omega) hown3 c' hr' (bvs_one _) (by simp only [maxLen]; omega) (by omega) hO3.size
  rw [bvs_append] at hown4
  have hOw4 : Only [] w w4 := (hO2.trans hO3).trans' hO4 (by intro k hk; have := (own_lt hown3 (by simpa using hk)).1; have := hO2.size; omega)
  obtain ⟨A4, c4, rfl, hc4, hrd4, _⟩ := own_slice hown4
  have Hrun := Lib.hid hrun
  have Hl := Lib.hid hl
  have Hl' := Lib.hid hl'
  have hgt := getVal_behind l (be4 s.size ++ (s.data.toList ++ l')) x n hx' hl
  have hgs := getText_behind (l ++ be4 x) l' s (n + 4) (s.size : Int) (by omega) (by rw [List.length_append, be4_length, hl]) (Int.le_refl _)
  have e1 : putText (l ++ be4 x) s ++ l' = l ++ be4 x ++ (be4 s.size ++ (s.data.toList ++ l')) := by unfold putText; simp only [List.append_assoc]
  have e2 : putText (l ++ be4 x) s ++ l' = l ++ be4 x ++ be4 s.size ++ (s.data.toList ++ l') := by unfold putText; simp only [List.append_assoc]
  rw [← e1] at hgt
  rw [← e2] at hgs
  generalize putText (l ++ be4 x) s ++ l' = L at hgt hgs hrd4
  have Hgt := Lib.hid hgt
  have Hgs := Lib.hid hgs
  clear hrun hown3 hown4 e1 e2 hgt hgs hl hl'
  go_wp2_with ((at_builtin; refine wpList_append_run (o := ⟨some 22, _, _, _, _, _⟩) (by rfl) (.tmp 20) (.tmp 21) 26 26 (by rfl) (by rfl) (by rfl) Hrun.out ?_))
  refine (get_any _ (n + 4 + 4 + s.size + n') c4 L _ hrd4 (by omega) (by omega) (n : Int)).mono ?_
  rintro e w5 ⟨rfl, rfl⟩
  rw [Hgt.out]
  simp only [getTuple]
  go_wp2_with (fail)
  refine (getText_any _ (n + 4 + 4 + s.size + n') c4 L _ hrd4 (by omega) (by omega) _ _).mono ?_
  rintro e w5 ⟨rfl, rfl⟩
  rw [show ((n : Int) + 4) = ((n + 4 : Nat) : Int) by omega, Hgs.out]
  simp only [textTuple]
  rw [str_of]
  go_wp2_with (fail)
  refine (octetKnown _).mono ?_
  rintro e w9 ⟨rfl, hO9⟩
  go_wp2
  go_ret
  exact ⟨rfl, hOw4.trans hO9⟩
end Go.Proofs.Ytjjfnepmnjjemaa
