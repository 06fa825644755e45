/- Contracts of octet.Get, GetText and their references. -/
import Derived.Test.YtjjfnepmnjjemaaProg
import Derived.Test.YtjjfnepmnjjemaaWd
import Derived.Laws.BitsAllLaws
namespace Go.Proofs.Ytjjfnepmnjjemaa
open Go.RowKit

/-- bytes as a number, the first byte the highest -/
def beN (l : List UInt8) : Nat := l.foldl (fun n c => n * 256 + c.toNat) 0
theorem beN_snoc (l : List UInt8) (c : UInt8) : beN (l ++ [c]) = beN l * 256 + c.toNat := by simp [beN]
theorem beN_fold (l : List UInt8) : ∀ (m k : Nat), m < 256 ^ k → l.foldl (fun n c => n * 256 + c.toNat) m < 256 ^ (k + l.length) := by
  induction l with
  | nil => intro m k h; simpa using h
  | cons c l ih =>
    intro m k h
    rw [List.foldl_cons, List.length_cons, show k + (l.length + 1) = (k + 1) + l.length by omega]
    refine ih _ _ ?_
    have := c.toNat_lt
    rw [Nat.pow_succ]
    omega
theorem beN_lt (l : List UInt8) : beN l < 256 ^ l.length := by
  have := beN_fold l 0 0 (by simp)
  rw [Nat.zero_add] at this
  exact this
theorem or_byte (x : Nat) (b : UInt8) (h : x < 16777216) : bits .or .u32 ((x : Int) * 256) (b.toNat : Int) = ((x * 256 + b.toNat : Nat) : Int) := by
  have hb := b.toNat_lt
  rw [show ((x : Int) * 256) = ((x * 256 : Nat) : Int) by omega, u32_or_nat _ _ (by omega) (by omega), nat_join 8 (x * 256) b.toNat (by omega) hb]
/-- the number that stands at a place -/
def numAt (l : List UInt8) (at_ : Nat) : Nat := beN ((l.drop at_).take 4)
theorem numAt_lt (l : List UInt8) (at_ : Nat) : numAt l at_ < 4294967296 := by
  have h := beN_lt ((l.drop at_).take 4)
  have h2 : ((l.drop at_).take 4).length ≤ 4 := by rw [List.length_take]; omega
  exact Nat.lt_of_lt_of_le h (show _ ≤ 256 ^ 4 from Nat.pow_le_pow_right (by omega) h2)
theorem numAt_step (l : List UInt8) (at_ k : Nat) (h : at_ + k < l.length) : beN ((l.drop at_).take (k + 1)) = beN ((l.drop at_).take k) * 256 + (l[at_ + k]).toNat := by
  have h2 : k < (l.drop at_).length := by rw [List.length_drop]; omega
  rw [List.take_succ_eq_append_getElem h2, beN_snoc]
  simp
theorem numAt_bd (l : List UInt8) (at_ k : Nat) (h : k < 4) : beN ((l.drop at_).take k) < 16777216 := by
  have h1 := beN_lt ((l.drop at_).take k)
  have h2 : ((l.drop at_).take k).length ≤ 3 := by rw [List.length_take]; omega
  exact Nat.lt_of_lt_of_le h1 (show _ ≤ 256 ^ 3 from Nat.pow_le_pow_right (by omega) h2)

section
variable (A : Option Addr) (n c : Nat) (l : List UInt8) (w : World) (hs : Rd w w.heap.size 1 A n (bvs l)) (hn : n ≤ 140737488351232) (hnc : n ≤ c)

set_option maxRecDepth 100000 in
set_option maxHeartbeats 1000000 in
theorem get_arg (at_ : Int) (h : at_ < 0 ∨ (n : Int) < at_) :
    Calls Try.prog 36 #[.slice A n c, .int .i64 at_] w fun e w' => e = .returned (.tuple #[.int .u32 0, .int .i64 0, .int .i64 1]) ∧ w = w' := by
  by_cases h0 : at_ < 0
  · go_enter Try.func36, Try.ntmps36
    go_wp2
    go_ret3
    exact ⟨rfl, rfl⟩
  · have h1 : (n : Int) < at_ := by omega
    go_enter Try.func36, Try.ntmps36
    go_wp2
    go_ret3
    exact ⟨rfl, rfl⟩
set_option maxRecDepth 100000 in
set_option maxHeartbeats 1000000 in
theorem get_short (at_ : Nat) (h : at_ ≤ n) (h4 : n < at_ + 4) (hn : n ≤ 140737488351232) :
    Calls Try.prog 36 #[.slice A n c, .int .i64 (at_ : Int)] w fun e w' => e = .returned (.tuple #[.int .u32 0, .int .i64 0, .int .i64 10]) ∧ w = w' := by
  have h0 : ¬ (at_ : Int) < 0 := by omega
  have h1 : ¬ (n : Int) < (at_ : Int) := by omega
  have h2 : (n : Int) - (at_ : Int) < 4 := by omega
  go_enter Try.func36, Try.ntmps36
  go_wp2
  go_ret3
  exact ⟨rfl, rfl⟩
include hs hnc hn
set_option maxRecDepth 100000 in
set_option maxHeartbeats 1000000 in
theorem get_ok (at_ : Nat) (h4 : at_ + 4 ≤ n) :
    Calls Try.prog 36 #[.slice A n c, .int .i64 (at_ : Int)] w fun e w' => e = .returned (.tuple #[.int .u32 (numAt l at_ : Int), .int .i64 ((at_ + 4 : Nat) : Int), .int .i64 0]) ∧ w = w' := by
  have h0 : ¬ (at_ : Int) < 0 := by omega
  have h1 : ¬ (n : Int) < (at_ : Int) := by omega
  have h2 : ¬ (n : Int) - (at_ : Int) < 4 := by omega
  have hln : l.length = n := by have := hs.1; rw [bvs_length] at this; omega
  have Hln := Lib.hid hln; clear hln
  have hne : ¬ c = at_ := by omega
  go_enter Try.func36, Try.ntmps36
  go_wp2
  have hX := hs.sub (k := at_) (m := 4) (by omega)
  rw [Nat.mul_one, bvs_drop, Nat.mul_one, bvs_take] at hX
  generalize Option.map (fun x => x.add at_) A = A' at hX ⊢
  go_loop [7, 31] (fun x i => ∃ k : Nat, k ≤ 4 ∧ i = .int .i64 (k : Int) ∧ x = .int .u32 ((beN ((l.drop at_).take k) : Nat) : Int)) (fun _ i => 4 - (intOf i).toNat)
  case atStart => exact ⟨0, by omega, rfl, rfl⟩
  case round =>
    obtain ⟨k, hk, rfl, rfl⟩ := hrel
    have hln := Hln.out
    by_cases hlt : k < 4
    · obtain ⟨g, o, _, _, hix, hcell⟩ := hX.index1 Try.underlying26 (by kernel_rfl) hlt
      have hl4 : k < ((l.drop at_).take 4).length := by rw [List.length_take, List.length_drop]; omega
      rw [bvs_get hl4] at hcell
      have hst := numAt_step l at_ k (by omega)
      obtain ⟨b, hb⟩ : ∃ b : UInt8, b = l[at_ + k]'(by omega) := ⟨_, rfl⟩
      rw [show ((l.drop at_).take 4)[k] = b by rw [hb]; simp] at hcell
      rw [← hb] at hst
      have hbd := numAt_bd l at_ k hlt
      have hb8 := byte_lt b
      have Hst := Lib.hid hst
      clear hst hb hln hl4
      generalize beN ((l.drop at_).take k) = x at hbd Hst ⊢
      go_wp2
      go_round
      case rel => exact ⟨k + 1, by omega, by go_num, by rw [or_byte x b hbd, Hst.out]⟩
      case measure => simp [intOf]; omega
    · obtain rfl : k = 4 := by omega
      have hlt := numAt_lt l at_
      clear hX
      go_wp2
      go_ret3
      exact ⟨by rfl, rfl⟩

omit hnc in
set_option maxRecDepth 100000 in
set_option maxHeartbeats 1000000 in
theorem refGet_ok (at_ : Nat) (h4 : at_ + 4 ≤ n) :
    Calls Try.prog 37 #[.slice A n c, .int .i64 (at_ : Int)] w fun e w' => e = .returned (.tuple #[.int .u32 (numAt l at_ : Int), .int .i64 ((at_ + 4 : Nat) : Int), .int .i64 0]) ∧ w = w' := by
  have h0 : ¬ (at_ : Int) < 0 := by omega
  have h1 : ¬ (n : Int) < (at_ : Int) := by omega
  have h2 : ¬ (n : Int) - (at_ : Int) < 4 := by omega
  have hln : l.length = n := by have := hs.1; rw [bvs_length] at this; omega
  have Hln := Lib.hid hln; clear hln
  go_enter Try.func37, Try.ntmps37
  go_wp2
  go_loop [7, 8] (fun x i => ∃ k : Nat, k ≤ 4 ∧ i = .int .i64 ((at_ + k : Nat) : Int) ∧ x = .int .u32 ((beN ((l.drop at_).take k) : Nat) : Int)) (fun _ i => at_ + 4 - (intOf i).toNat)
  case atStart => exact ⟨0, by omega, rfl, rfl⟩
  case round =>
    obtain ⟨k, hk, rfl, rfl⟩ := hrel
    have hln := Hln.out
    by_cases hlt : k < 4
    · obtain ⟨j, hj⟩ : ∃ j, j = at_ + k := ⟨_, rfl⟩
      have hjn : j < n := by omega
      obtain ⟨g, o, _, _, hix, hcell⟩ := hs.index1 Try.underlying26 (by kernel_rfl) hjn
      rw [bvs_get (by omega)] at hcell
      have hst := numAt_step l at_ k (by omega)
      obtain ⟨b, hb⟩ : ∃ b : UInt8, b = l[j]'(by omega) := ⟨_, rfl⟩
      rw [← hb] at hcell
      rw [show l[at_ + k]'(by omega) = b by rw [hb]; simp only [hj]] at hst
      have hbd := numAt_bd l at_ k hlt
      have hb8 := byte_lt b
      have hj4 : (j : Int) < (at_ : Int) + 4 := by omega
      have Hst := Lib.hid hst
      rw [← hj]
      have Hj := Lib.hid hj
      clear hst hb hln hj hlt
      generalize beN ((l.drop at_).take k) = x at hbd Hst ⊢
      go_wp2
      have hj := Hj.out
      go_round
      case rel => exact ⟨k + 1, by omega, by go_num, by rw [Hst.out]; go_num⟩
      case measure => simp [intOf]; omega
    · obtain rfl : k = 4 := by omega
      have hlt := numAt_lt l at_
      clear hs
      go_wp2
      go_ret3
      exact ⟨by rfl, rfl⟩
omit hs hnc hn
set_option maxRecDepth 100000 in
set_option maxHeartbeats 1000000 in
theorem refGet_arg (at_ : Int) (h : at_ < 0 ∨ (n : Int) < at_) :
    Calls Try.prog 37 #[.slice A n c, .int .i64 at_] w fun e w' => e = .returned (.tuple #[.int .u32 0, .int .i64 0, .int .i64 1]) ∧ w = w' := by
  by_cases h0 : at_ < 0
  · go_enter Try.func37, Try.ntmps37
    go_wp2
    go_ret3
    exact ⟨rfl, rfl⟩
  · have h1 : (n : Int) < at_ := by omega
    go_enter Try.func37, Try.ntmps37
    go_wp2
    go_ret3
    exact ⟨rfl, rfl⟩
set_option maxRecDepth 100000 in
set_option maxHeartbeats 1000000 in
theorem refGet_short (at_ : Nat) (h : at_ ≤ n) (h4 : n < at_ + 4) (hn : n ≤ 140737488351232) :
    Calls Try.prog 37 #[.slice A n c, .int .i64 (at_ : Int)] w fun e w' => e = .returned (.tuple #[.int .u32 0, .int .i64 0, .int .i64 10]) ∧ w = w' := by
  have h0 : ¬ (at_ : Int) < 0 := by omega
  have h1 : ¬ (n : Int) < (at_ : Int) := by omega
  have h2 : (n : Int) - (at_ : Int) < 4 := by omega
  go_enter Try.func37, Try.ntmps37
  go_wp2
  go_ret3
  exact ⟨rfl, rfl⟩
end

/-! ### what Get answers, in one word -/
def getVal (l : List UInt8) (at_ : Int) : Nat × Nat × Nat :=
  if at_ < 0 ∨ (l.length : Int) < at_ then (0, 0, 1) else if (l.length : Int) < at_ + 4 then (0, 0, 10) else (numAt l at_.toNat, at_.toNat + 4, 0)
def getTuple (x : Nat × Nat × Nat) : Value := .tuple #[.int .u32 (x.1 : Int), .int .i64 (x.2.1 : Int), .int .i64 (x.2.2 : Int)]
section
variable (A : Option Addr) (n c : Nat) (l : List UInt8) (w : World) (hs : Rd w w.heap.size 1 A n (bvs l)) (hn : n ≤ 140737488351232) (hnc : n ≤ c)
include hs hn hnc
theorem get_any (at_ : Int) : Calls Try.prog 36 #[.slice A n c, .int .i64 at_] w fun e w' => e = .returned (getTuple (getVal l at_)) ∧ w = w' := by
  have hln : l.length = n := by have := hs.1; rw [bvs_length] at this; omega
  unfold getVal
  by_cases h1 : at_ < 0 ∨ (l.length : Int) < at_
  · rw [if_pos h1]; exact get_arg A n c w at_ (by omega)
  · rw [if_neg h1]
    obtain ⟨k, rfl⟩ := Int.eq_ofNat_of_zero_le (show 0 ≤ at_ by omega)
    by_cases h2 : (l.length : Int) < (k : Int) + 4
    · rw [if_pos h2]; exact get_short A n c w k (by omega) (by omega) hn
    · rw [if_neg h2]; exact get_ok A n c l w hs hn hnc k (by omega)
omit hnc in
theorem refGet_any (at_ : Int) : Calls Try.prog 37 #[.slice A n c, .int .i64 at_] w fun e w' => e = .returned (getTuple (getVal l at_)) ∧ w = w' := by
  have hln : l.length = n := by have := hs.1; rw [bvs_length] at this; omega
  unfold getVal
  by_cases h1 : at_ < 0 ∨ (l.length : Int) < at_
  · rw [if_pos h1]; exact refGet_arg A n c w at_ (by omega)
  · rw [if_neg h1]
    obtain ⟨k, rfl⟩ := Int.eq_ofNat_of_zero_le (show 0 ≤ at_ by omega)
    by_cases h2 : (l.length : Int) < (k : Int) + 4
    · rw [if_pos h2]; exact refGet_short A n c w k (by omega) (by omega) hn
    · rw [if_neg h2]; exact refGet_ok A n c l w hs hn k (by omega)
end

/-! ### texts -/
theorem getVal_bd (l : List UInt8) (at_ : Int) : (getVal l at_).1 < 4294967296 ∧ (getVal l at_).2.2 ≤ 10 ∧ ((getVal l at_).2.2 = 0 → (getVal l at_).2.1 ≤ l.length) := by
  unfold getVal
  split
  · simp
  · split
    · simp
    · have := numAt_lt l at_.toNat
      simp; omega
def getTextVal (l : List UInt8) (at_ most : Int) : List UInt8 × Nat × Nat :=
  if (getVal l at_).2.2 ≠ 0 then ([], 0, (getVal l at_).2.2)
  else if most < ((getVal l at_).1 : Int) then ([], 0, 3)
  else if l.length - (getVal l at_).2.1 < (getVal l at_).1 then ([], 0, 10)
  else ((l.drop (getVal l at_).2.1).take (getVal l at_).1, (getVal l at_).2.1 + (getVal l at_).1, 0)
theorem getTextVal_def (l : List UInt8) (at_ most : Int) : getTextVal l at_ most = (if (getVal l at_).2.2 ≠ 0 then ([], 0, (getVal l at_).2.2)
  else if most < ((getVal l at_).1 : Int) then ([], 0, 3)
  else if l.length - (getVal l at_).2.1 < (getVal l at_).1 then ([], 0, 10)
  else ((l.drop (getVal l at_).2.1).take (getVal l at_).1, (getVal l at_).2.1 + (getVal l at_).1, 0)) := rfl
def textTuple (x : List UInt8 × Nat × Nat) : Value := .tuple #[.string (str x.1), .int .i64 (x.2.1 : Int), .int .i64 (x.2.2 : Int)]
theorem str_nil : str [] = ByteArray.empty := rfl
section
variable (A : Option Addr) (n c : Nat) (l : List UInt8) (w : World) (hs : Rd w w.heap.size 1 A n (bvs l)) (hn : n ≤ 140737488351232) (hnc : n ≤ c)
include hs hn hnc
set_option maxRecDepth 100000 in
set_option maxHeartbeats 1000000 in
theorem getText_any (at_ most : Int) : Calls Try.prog 35 #[.slice A n c, .int .i64 at_, .int .i64 most] w fun e w' => e = .returned (textTuple (getTextVal l at_ most)) ∧ w = w' := by
  have hln : l.length = n := by have := hs.1; rw [bvs_length] at this; omega
  have hg := get_any A n c l w hs hn hnc at_
  have hbd := getVal_bd l at_
  have hspec := getTextVal_def l at_ most
  generalize getTextVal l at_ most = R at hspec ⊢
  generalize getVal l at_ = x at hg hbd hspec
  obtain ⟨m, pl, er⟩ := x
  simp only at hbd hspec
  simp only [getTuple] at hg
  obtain ⟨hb1, hb2, hb3⟩ := hbd
  have Hln := Lib.hid hln
  have Hg := Lib.hid hg
  clear hln hg
  by_cases h0 : er ≠ 0
  · rw [if_pos h0] at hspec
    have Hs := Lib.hid hspec; clear hspec
    have h0' : ((er : Int) != 0) = true := by simp; omega
    go_enter Try.func35, Try.ntmps35
    go_wp2_with (fail)
    refine Hg.out.mono ?_
    rintro e w1 ⟨rfl, rfl⟩
    go_wp2
    go_ret3
    exact ⟨by rw [Hs.out]; rfl, rfl⟩
  · obtain rfl : er = 0 := by omega
    have hto := hb3 rfl
    rw [if_neg h0] at hspec
    clear h0 hb2 hb3
    by_cases h1 : most < (m : Int)
    · rw [if_pos h1] at hspec
      have Hs := Lib.hid hspec; clear hspec
      go_enter Try.func35, Try.ntmps35
      go_wp2_with (fail)
      refine Hg.out.mono ?_
      rintro e w1 ⟨rfl, rfl⟩
      go_wp2
      go_ret3
      exact ⟨by rw [Hs.out]; rfl, rfl⟩
    · rw [if_neg h1] at hspec
      have hln := Hln.out
      have hton : pl ≤ n := by omega
      by_cases h2 : l.length - pl < m
      · rw [if_pos h2] at hspec
        have Hs := Lib.hid hspec; clear hspec
        have h2' : (n : Int) - (pl : Int) < (m : Int) := by omega
        clear hln h2 hto
        go_enter Try.func35, Try.ntmps35
        go_wp2_with (fail)
        refine Hg.out.mono ?_
        rintro e w1 ⟨rfl, rfl⟩
        go_wp2
        go_ret3
        exact ⟨by rw [Hs.out]; rfl, rfl⟩
      · rw [if_neg h2] at hspec
        have Hs := Lib.hid hspec; clear hspec
        have h2' : ¬ (n : Int) - (pl : Int) < (m : Int) := by omega
        have h3 : pl + m ≤ n := by omega
        obtain ⟨A', hsl, hX⟩ := hs.slice_lh (P := Try.prog) Try.underlying26 (by kernel_rfl) (k := pl) (m := m) (c := c) (lo := (pl : Int)) (hi := (pl : Int) + (m : Int)) rfl (by omega) h3 hnc
        rw [Nat.mul_one, Nat.mul_one, bvs_drop, bvs_take] at hX
        have hcv := fun c => run_string_rd (P := Try.prog) 26 9 5 Try.underlying26 Try.underlying5 Try.underlying9 c hX
        clear hln h2 hto
        go_enter Try.func35, Try.ntmps35
        go_wp2_with (fail)
        refine Hg.out.mono ?_
        rintro e w1 ⟨rfl, rfl⟩
        go_wp2
        go_ret3
        exact ⟨by rw [Hs.out]; rfl, rfl⟩
set_option maxRecDepth 100000 in
set_option maxHeartbeats 1000000 in
theorem refGetText_any (at_ most : Int) : Calls Try.prog 38 #[.slice A n c, .int .i64 at_, .int .i64 most] w fun e w' => e = .returned (textTuple (getTextVal l at_ most)) ∧ w = w' := by
  have hln : l.length = n := by have := hs.1; rw [bvs_length] at this; omega
  have hg := refGet_any A n c l w hs hn at_
  have hbd := getVal_bd l at_
  have hspec := getTextVal_def l at_ most
  generalize getTextVal l at_ most = R at hspec ⊢
  generalize getVal l at_ = x at hg hbd hspec
  obtain ⟨m, pl, er⟩ := x
  simp only at hbd hspec
  simp only [getTuple] at hg
  obtain ⟨hb1, hb2, hb3⟩ := hbd
  have Hln := Lib.hid hln
  have Hg := Lib.hid hg
  clear hln hg
  by_cases h0 : er ≠ 0
  · rw [if_pos h0] at hspec
    have Hs := Lib.hid hspec; clear hspec
    have h0' : ((er : Int) != 0) = true := by simp; omega
    go_enter Try.func38, Try.ntmps38
    go_wp2_with (fail)
    refine Hg.out.mono ?_
    rintro e w1 ⟨rfl, rfl⟩
    go_wp2
    go_ret3
    exact ⟨by rw [Hs.out]; rfl, rfl⟩
  · obtain rfl : er = 0 := by omega
    have hto := hb3 rfl
    rw [if_neg h0] at hspec
    clear h0 hb2 hb3
    by_cases h1 : most < (m : Int)
    · rw [if_pos h1] at hspec
      have Hs := Lib.hid hspec; clear hspec
      go_enter Try.func38, Try.ntmps38
      go_wp2_with (fail)
      refine Hg.out.mono ?_
      rintro e w1 ⟨rfl, rfl⟩
      go_wp2
      go_ret3
      exact ⟨by rw [Hs.out]; rfl, rfl⟩
    · rw [if_neg h1] at hspec
      have hln := Hln.out
      have hton : pl ≤ n := by omega
      by_cases h2 : l.length - pl < m
      · rw [if_pos h2] at hspec
        have Hs := Lib.hid hspec; clear hspec
        have h2' : (n : Int) - (pl : Int) < (m : Int) := by omega
        clear hln h2 hto
        go_enter Try.func38, Try.ntmps38
        go_wp2_with (fail)
        refine Hg.out.mono ?_
        rintro e w1 ⟨rfl, rfl⟩
        go_wp2
        go_ret3
        exact ⟨by rw [Hs.out]; rfl, rfl⟩
      · rw [if_neg h2] at hspec
        have Hs := Lib.hid hspec; clear hspec
        have h2' : ¬ (n : Int) - (pl : Int) < (m : Int) := by omega
        have h3 : pl + m ≤ n := by omega
        obtain ⟨A', hsl, hX⟩ := hs.slice_lh (P := Try.prog) Try.underlying26 (by kernel_rfl) (k := pl) (m := m) (c := c) (lo := (pl : Int)) (hi := (pl : Int) + (m : Int)) rfl (by omega) h3 hnc
        rw [Nat.mul_one, Nat.mul_one, bvs_drop, bvs_take] at hX
        have hcv := fun c => run_string_rd (P := Try.prog) 26 9 5 Try.underlying26 Try.underlying5 Try.underlying9 c hX
        clear hln h2 hto
        go_enter Try.func38, Try.ntmps38
        go_wp2_with (fail)
        refine Hg.out.mono ?_
        rintro e w1 ⟨rfl, rfl⟩
        go_wp2
        go_ret3
        exact ⟨by rw [Hs.out]; rfl, rfl⟩
end
end Go.Proofs.Ytjjfnepmnjjemaa
