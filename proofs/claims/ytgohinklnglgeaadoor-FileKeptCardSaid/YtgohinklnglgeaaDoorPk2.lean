/- Several texts in one: Contracts of octet.Get, GetText and their references.; Contracts of octet.Put, PutText and their references.; Contracts of octet.Sum and its reference.; CRC-32, plainly: over natural numbers without bound the sum is a shift of one number; the table's way and the bitwise way agree; a burst within 32 bits is seen.; Contracts of tesserabook's Same, Roomy, Intact at bytes, and Within. -/
import Derived.Test.YtgohinklnglgeaaDoorProg
import Derived.Test.YtgohinklnglgeaaDoorPk1
import Derived.Laws.BitsAllLaws
set_option linter.unusedVariables false
set_option linter.unusedSimpArgs false
namespace Go.Proofs.YtgohinklnglgeaaDoor
open Go.RowKit

/-- bytes as a number, the first byte the highest -/
def beN (l : List UInt8) : Nat := l.foldl (fun n c => n * 256 + c.toNat) 0
theorem beN_snoc (l : List UInt8) (c : UInt8) : beN (l ++ [c]) = beN l * 256 + c.toNat := by simp [beN]
theorem beN_fold (l : List UInt8) : ∀ (m k : Nat), m < 256 ^ k → l.foldl (fun n c => n * 256 + c.toNat) m < 256 ^ (k + l.length) := by
  induction l with
  | nil => intro m k h; simpa using h
  | cons c l ih =>
    intro m k h
    rw [List.foldl_cons, List.length_cons, show k + (l.length + 1) = (k + 1) + l.length by omega]
    refine ih _ _ ?_
    have := c.toNat_lt
    rw [Nat.pow_succ]
    omega
theorem beN_lt (l : List UInt8) : beN l < 256 ^ l.length := by
  have := beN_fold l 0 0 (by simp)
  rw [Nat.zero_add] at this
  exact this
theorem or_byte (x : Nat) (b : UInt8) (h : x < 16777216) : bits .or .u32 ((x : Int) * 256) (b.toNat : Int) = ((x * 256 + b.toNat : Nat) : Int) := by
  have hb := b.toNat_lt
  rw [show ((x : Int) * 256) = ((x * 256 : Nat) : Int) by omega, u32_or_nat _ _ (by omega) (by omega), nat_join 8 (x * 256) b.toNat (by omega) hb]
/-- the number that stands at a place -/
def numAt (l : List UInt8) (at_ : Nat) : Nat := beN ((l.drop at_).take 4)
theorem numAt_lt (l : List UInt8) (at_ : Nat) : numAt l at_ < 4294967296 := by
  have h := beN_lt ((l.drop at_).take 4)
  have h2 : ((l.drop at_).take 4).length ≤ 4 := by rw [List.length_take]; omega
  exact Nat.lt_of_lt_of_le h (show _ ≤ 256 ^ 4 from Nat.pow_le_pow_right (by omega) h2)
theorem numAt_step (l : List UInt8) (at_ k : Nat) (h : at_ + k < l.length) : beN ((l.drop at_).take (k + 1)) = beN ((l.drop at_).take k) * 256 + (l[at_ + k]).toNat := by
  have h2 : k < (l.drop at_).length := by rw [List.length_drop]; omega
  rw [List.take_succ_eq_append_getElem h2, beN_snoc]
  simp
theorem numAt_bd (l : List UInt8) (at_ k : Nat) (h : k < 4) : beN ((l.drop at_).take k) < 16777216 := by
  have h1 := beN_lt ((l.drop at_).take k)
  have h2 : ((l.drop at_).take k).length ≤ 3 := by rw [List.length_take]; omega
  exact Nat.lt_of_lt_of_le h1 (show _ ≤ 256 ^ 3 from Nat.pow_le_pow_right (by omega) h2)

section
variable (A : Option Addr) (n c : Nat) (l : List UInt8) (w : World) (hs : Rd w w.heap.size 1 A n (bvs l)) (hn : n ≤ 140737488351232) (hnc : n ≤ c)

set_option maxRecDepth 100000 in
set_option maxHeartbeats 1000000 in
theorem get_arg (at_ : Int) (h : at_ < 0 ∨ (n : Int) < at_) :
    Calls Tryd.prog 58 #[.slice A n c, .int .i64 at_] w fun e w' => e = .returned (.tuple #[.int .u32 0, .int .i64 0, .int .i64 1]) ∧ w = w' := by
  by_cases h0 : at_ < 0
  · go_enter Tryd.func58, Tryd.ntmps58
    go_wp2
    go_ret3
    exact ⟨rfl, rfl⟩
  · have h1 : (n : Int) < at_ := by omega
    go_enter Tryd.func58, Tryd.ntmps58
    go_wp2
    go_ret3
    exact ⟨rfl, rfl⟩
set_option maxRecDepth 100000 in
set_option maxHeartbeats 1000000 in
theorem get_short (at_ : Nat) (h : at_ ≤ n) (h4 : n < at_ + 4) (hn : n ≤ 140737488351232) :
    Calls Tryd.prog 58 #[.slice A n c, .int .i64 (at_ : Int)] w fun e w' => e = .returned (.tuple #[.int .u32 0, .int .i64 0, .int .i64 10]) ∧ w = w' := by
  have h0 : ¬ (at_ : Int) < 0 := by omega
  have h1 : ¬ (n : Int) < (at_ : Int) := by omega
  have h2 : (n : Int) - (at_ : Int) < 4 := by omega
  go_enter Tryd.func58, Tryd.ntmps58
  go_wp2
  go_ret3
  exact ⟨rfl, rfl⟩
include hs hnc hn
set_option maxRecDepth 100000 in
set_option maxHeartbeats 1000000 in
theorem get_ok (at_ : Nat) (h4 : at_ + 4 ≤ n) :
    Calls Tryd.prog 58 #[.slice A n c, .int .i64 (at_ : Int)] w fun e w' => e = .returned (.tuple #[.int .u32 (numAt l at_ : Int), .int .i64 ((at_ + 4 : Nat) : Int), .int .i64 0]) ∧ w = w' := by
  have h0 : ¬ (at_ : Int) < 0 := by omega
  have h1 : ¬ (n : Int) < (at_ : Int) := by omega
  have h2 : ¬ (n : Int) - (at_ : Int) < 4 := by omega
  have hln : l.length = n := by have := hs.1; rw [bvs_length] at this; omega
  have Hln := Lib.hid hln; clear hln
  have hne : ¬ c = at_ := by omega
  go_enter Tryd.func58, Tryd.ntmps58
  go_wp2
  have hX := hs.sub (k := at_) (m := 4) (by omega)
  rw [Nat.mul_one, bvs_drop, Nat.mul_one, bvs_take] at hX
  generalize Option.map (fun x => x.add at_) A = A' at hX ⊢
  go_loop [7, 31] (fun x i => ∃ k : Nat, k ≤ 4 ∧ i = .int .i64 (k : Int) ∧ x = .int .u32 ((beN ((l.drop at_).take k) : Nat) : Int)) (fun _ i => 4 - (intOf i).toNat)
  case atStart => exact ⟨0, by omega, rfl, rfl⟩
  case round =>
    obtain ⟨k, hk, rfl, rfl⟩ := hrel
    have hln := Hln.out
    by_cases hlt : k < 4
    · obtain ⟨g, o, _, _, hix, hcell⟩ := hX.index1 Tryd.underlying22 (by kernel_rfl) hlt
      have hl4 : k < ((l.drop at_).take 4).length := by rw [List.length_take, List.length_drop]; omega
      rw [bvs_get hl4] at hcell
      have hst := numAt_step l at_ k (by omega)
      obtain ⟨b, hb⟩ : ∃ b : UInt8, b = l[at_ + k]'(by omega) := ⟨_, rfl⟩
      rw [show ((l.drop at_).take 4)[k] = b by rw [hb]; simp] at hcell
      rw [← hb] at hst
      have hbd := numAt_bd l at_ k hlt
      have hb8 := byte_lt b
      have Hst := Lib.hid hst
      clear hst hb hln hl4
      generalize beN ((l.drop at_).take k) = x at hbd Hst ⊢
      go_wp2
      go_round
      case rel => exact ⟨k + 1, by omega, by go_num, by rw [or_byte x b hbd, Hst.out]⟩
      case measure => simp [intOf]; omega
    · obtain rfl : k = 4 := by omega
      have hlt := numAt_lt l at_
      clear hX
      go_wp2
      go_ret3
      exact ⟨by rfl, rfl⟩

omit hnc in
set_option maxRecDepth 100000 in
set_option maxHeartbeats 1000000 in
theorem refGet_ok (at_ : Nat) (h4 : at_ + 4 ≤ n) :
    Calls Tryd.prog 69 #[.slice A n c, .int .i64 (at_ : Int)] w fun e w' => e = .returned (.tuple #[.int .u32 (numAt l at_ : Int), .int .i64 ((at_ + 4 : Nat) : Int), .int .i64 0]) ∧ w = w' := by
  have h0 : ¬ (at_ : Int) < 0 := by omega
  have h1 : ¬ (n : Int) < (at_ : Int) := by omega
  have h2 : ¬ (n : Int) - (at_ : Int) < 4 := by omega
  have hln : l.length = n := by have := hs.1; rw [bvs_length] at this; omega
  have Hln := Lib.hid hln; clear hln
  go_enter Tryd.func69, Tryd.ntmps69
  go_wp2
  go_loop [7, 8] (fun x i => ∃ k : Nat, k ≤ 4 ∧ i = .int .i64 ((at_ + k : Nat) : Int) ∧ x = .int .u32 ((beN ((l.drop at_).take k) : Nat) : Int)) (fun _ i => at_ + 4 - (intOf i).toNat)
  case atStart => exact ⟨0, by omega, rfl, rfl⟩
  case round =>
    obtain ⟨k, hk, rfl, rfl⟩ := hrel
    have hln := Hln.out
    by_cases hlt : k < 4
    · obtain ⟨j, hj⟩ : ∃ j, j = at_ + k := ⟨_, rfl⟩
      have hjn : j < n := by omega
      obtain ⟨g, o, _, _, hix, hcell⟩ := hs.index1 Tryd.underlying22 (by kernel_rfl) hjn
      rw [bvs_get (by omega)] at hcell
      have hst := numAt_step l at_ k (by omega)
      obtain ⟨b, hb⟩ : ∃ b : UInt8, b = l[j]'(by omega) := ⟨_, rfl⟩
      rw [← hb] at hcell
      rw [show l[at_ + k]'(by omega) = b by rw [hb]; simp only [hj]] at hst
      have hbd := numAt_bd l at_ k hlt
      have hb8 := byte_lt b
      have hj4 : (j : Int) < (at_ : Int) + 4 := by omega
      have Hst := Lib.hid hst
      rw [← hj]
      have Hj := Lib.hid hj
      clear hst hb hln hj hlt
      generalize beN ((l.drop at_).take k) = x at hbd Hst ⊢
      go_wp2
      have hj := Hj.out
      go_round
      case rel => exact ⟨k + 1, by omega, by go_num, by rw [Hst.out]; go_num⟩
      case measure => simp [intOf]; omega
    · obtain rfl : k = 4 := by omega
      have hlt := numAt_lt l at_
      clear hs
      go_wp2
      go_ret3
      exact ⟨by rfl, rfl⟩
omit hs hnc hn
set_option maxRecDepth 100000 in
set_option maxHeartbeats 1000000 in
theorem refGet_arg (at_ : Int) (h : at_ < 0 ∨ (n : Int) < at_) :
    Calls Tryd.prog 69 #[.slice A n c, .int .i64 at_] w fun e w' => e = .returned (.tuple #[.int .u32 0, .int .i64 0, .int .i64 1]) ∧ w = w' := by
  by_cases h0 : at_ < 0
  · go_enter Tryd.func69, Tryd.ntmps69
    go_wp2
    go_ret3
    exact ⟨rfl, rfl⟩
  · have h1 : (n : Int) < at_ := by omega
    go_enter Tryd.func69, Tryd.ntmps69
    go_wp2
    go_ret3
    exact ⟨rfl, rfl⟩
set_option maxRecDepth 100000 in
set_option maxHeartbeats 1000000 in
theorem refGet_short (at_ : Nat) (h : at_ ≤ n) (h4 : n < at_ + 4) (hn : n ≤ 140737488351232) :
    Calls Tryd.prog 69 #[.slice A n c, .int .i64 (at_ : Int)] w fun e w' => e = .returned (.tuple #[.int .u32 0, .int .i64 0, .int .i64 10]) ∧ w = w' := by
  have h0 : ¬ (at_ : Int) < 0 := by omega
  have h1 : ¬ (n : Int) < (at_ : Int) := by omega
  have h2 : (n : Int) - (at_ : Int) < 4 := by omega
  go_enter Tryd.func69, Tryd.ntmps69
  go_wp2
  go_ret3
  exact ⟨rfl, rfl⟩
end

/-! ### what Get answers, in one word -/
def getVal (l : List UInt8) (at_ : Int) : Nat × Nat × Nat :=
  if at_ < 0 ∨ (l.length : Int) < at_ then (0, 0, 1) else if (l.length : Int) < at_ + 4 then (0, 0, 10) else (numAt l at_.toNat, at_.toNat + 4, 0)
def getTuple (x : Nat × Nat × Nat) : Value := .tuple #[.int .u32 (x.1 : Int), .int .i64 (x.2.1 : Int), .int .i64 (x.2.2 : Int)]
section
variable (A : Option Addr) (n c : Nat) (l : List UInt8) (w : World) (hs : Rd w w.heap.size 1 A n (bvs l)) (hn : n ≤ 140737488351232) (hnc : n ≤ c)
include hs hn hnc
theorem get_any (at_ : Int) : Calls Tryd.prog 58 #[.slice A n c, .int .i64 at_] w fun e w' => e = .returned (getTuple (getVal l at_)) ∧ w = w' := by
  have hln : l.length = n := by have := hs.1; rw [bvs_length] at this; omega
  unfold getVal
  by_cases h1 : at_ < 0 ∨ (l.length : Int) < at_
  · rw [if_pos h1]; exact get_arg A n c w at_ (by omega)
  · rw [if_neg h1]
    obtain ⟨k, rfl⟩ := Int.eq_ofNat_of_zero_le (show 0 ≤ at_ by omega)
    by_cases h2 : (l.length : Int) < (k : Int) + 4
    · rw [if_pos h2]; exact get_short A n c w k (by omega) (by omega) hn
    · rw [if_neg h2]; exact get_ok A n c l w hs hn hnc k (by omega)
omit hnc in
theorem refGet_any (at_ : Int) : Calls Tryd.prog 69 #[.slice A n c, .int .i64 at_] w fun e w' => e = .returned (getTuple (getVal l at_)) ∧ w = w' := by
  have hln : l.length = n := by have := hs.1; rw [bvs_length] at this; omega
  unfold getVal
  by_cases h1 : at_ < 0 ∨ (l.length : Int) < at_
  · rw [if_pos h1]; exact refGet_arg A n c w at_ (by omega)
  · rw [if_neg h1]
    obtain ⟨k, rfl⟩ := Int.eq_ofNat_of_zero_le (show 0 ≤ at_ by omega)
    by_cases h2 : (l.length : Int) < (k : Int) + 4
    · rw [if_pos h2]; exact refGet_short A n c w k (by omega) (by omega) hn
    · rw [if_neg h2]; exact refGet_ok A n c l w hs hn k (by omega)
end

/-! ### texts -/
theorem getVal_bd (l : List UInt8) (at_ : Int) : (getVal l at_).1 < 4294967296 ∧ (getVal l at_).2.2 ≤ 10 ∧ ((getVal l at_).2.2 = 0 → (getVal l at_).2.1 ≤ l.length) := by
  unfold getVal
  split
  · simp
  · split
    · simp
    · have := numAt_lt l at_.toNat
      simp; omega
def getTextVal (l : List UInt8) (at_ most : Int) : List UInt8 × Nat × Nat :=
  if (getVal l at_).2.2 ≠ 0 then ([], 0, (getVal l at_).2.2)
  else if most < ((getVal l at_).1 : Int) then ([], 0, 3)
  else if l.length - (getVal l at_).2.1 < (getVal l at_).1 then ([], 0, 10)
  else ((l.drop (getVal l at_).2.1).take (getVal l at_).1, (getVal l at_).2.1 + (getVal l at_).1, 0)
theorem getTextVal_def (l : List UInt8) (at_ most : Int) : getTextVal l at_ most = (if (getVal l at_).2.2 ≠ 0 then ([], 0, (getVal l at_).2.2)
  else if most < ((getVal l at_).1 : Int) then ([], 0, 3)
  else if l.length - (getVal l at_).2.1 < (getVal l at_).1 then ([], 0, 10)
  else ((l.drop (getVal l at_).2.1).take (getVal l at_).1, (getVal l at_).2.1 + (getVal l at_).1, 0)) := rfl
def textTuple (x : List UInt8 × Nat × Nat) : Value := .tuple #[.string (str x.1), .int .i64 (x.2.1 : Int), .int .i64 (x.2.2 : Int)]
theorem str_nil : str [] = ByteArray.empty := rfl
section
variable (A : Option Addr) (n c : Nat) (l : List UInt8) (w : World) (hs : Rd w w.heap.size 1 A n (bvs l)) (hn : n ≤ 140737488351232) (hnc : n ≤ c)
end
end Go.Proofs.YtgohinklnglgeaaDoor

set_option linter.unusedVariables false
set_option linter.unusedSimpArgs false
namespace Go.Proofs.YtgohinklnglgeaaDoor
open Go.RowKit

theorem byteInfo' : (Tryd.prog.info? 5).map (fun i => (i.zero, i.size, i.bytes)) = some (some (.int .u8 0), 1, 1) := by kernel_rfl
def be4 (x : Nat) : List UInt8 := [UInt8.ofNat (x / 16777216), UInt8.ofNat (x / 65536), UInt8.ofNat (x / 256), UInt8.ofNat x]

set_option maxRecDepth 100000 in
set_option maxHeartbeats 1000000 in
theorem put_any (A : Option Addr) (n c x : Nat) (l : List UInt8) (w : World) (hs : Rd w w.heap.size 1 A n (bvs l)) (hn : n ≤ 140737488351232) (hx : x < 4294967296) (hnc : n ≤ c) :
    Calls Tryd.prog 29 #[.slice A n c, .int .u32 (x : Int)] w fun e w' => Ex fun v => e = .returned v ∧ w'.ownsRow w.heap.size 5 1 v (n + 4) (bvs (l ++ be4 x)) ∧ Only [] w w' := by
  obtain ⟨h, hh⟩ : ∃ h, h = w.heap.size := ⟨_, rfl⟩
  have h4 : Blk (w.alloc (.cells #[.int .u8 ((x : Int) / 16777216), .int .u8 ((x : Int) / 65536 % 256), .int .u8 ((x : Int) / 256 % 256), .int .u8 ((x : Int) % 256)] 5)) h 5 (bvs (be4 x)) := by
    refine Blk.new' _ _ _ hh.symm ?_
    simp [bvs, bv, be4]
    omega
  obtain ⟨cap, w2, hap, hown, hO⟩ := run_append_new (P := Tryd.prog) (w := w.alloc (.cells #[.int .u8 ((x : Int) / 16777216), .int .u8 ((x : Int) / 65536 % 256), .int .u8 ((x : Int) / 256 % 256), .int .u8 ((x : Int) % 256)] 5)) 22 22 5 (.int .u8 0) 1 1 Tryd.underlying22 byteInfo' rfl (by omega)
    (hs.alloc _) (c := n) (m := 4) (by omega) (fun hA => by
      rcases Nat.eq_zero_or_pos n with h0 | h0
      · exact h0
      · obtain ⟨ad, e, _⟩ := hs.2 h0
        rw [hA] at e; cases e) 4 (Rd.whole h4 (n := 4) (by simp [bvs, be4])) (by omega) (by omega) (by simp only [maxLen]; omega)
  rw [bvs_append] at hown
  have hOw : Only [] w w2 := ((Only.refl [] w).alloc _).trans hO
  have hown' : w2.ownsRow w.heap.size 5 1 _ (n + 4) (bvs (l ++ be4 x)) := own_base hown (by simp)
  simp only [World.size_alloc] at hap hown'
  rw [hh] at hap
  have Hap := Lib.hid hap
  clear hO h4 hown hh hs hap
  go_enter Tryd.func29, Tryd.ntmps29
  go_wp2_with ((at_builtin; refine wpList_append_run (o := ⟨some 23, _, _, _, _, _⟩) (by rfl) (.tmp 10) (.tmp 22) 22 22 (by rfl) (by rfl) (by rfl) Hap.out ?_))
  go_ret
  exact Ex.of _ ⟨rfl, hown', hOw⟩

def putText (l : List UInt8) (s : ByteArray) : List UInt8 := l ++ be4 s.size ++ s.data.toList
set_option maxRecDepth 100000 in
set_option maxHeartbeats 1000000 in
theorem putText_any (A : Option Addr) (n c : Nat) (l : List UInt8) (s : ByteArray) (w : World) (hs : Rd w w.heap.size 1 A n (bvs l)) (hn : n ≤ 70368744177664) (hx : s.size < 4294967296) (hnc : n ≤ c) :
    Calls Tryd.prog 30 #[.slice A n c, .string s] w fun e w' => Ex fun v => e = .returned v ∧ w'.ownsRow w.heap.size 5 1 v (n + 4 + s.size) (bvs (putText l s)) ∧ Only [] w w' := by
  go_enter Tryd.func30, Tryd.ntmps30
  go_wp2_with (fail)
  refine (put_any A n c s.size l _ hs (by omega) hx hnc).mono ?_
  rintro e w1 ⟨v, rfl, hown, hO⟩
  obtain ⟨v2, w2, hrun, hown2, hO2, _⟩ := run_append_row_str (P := Tryd.prog) w.heap.size 22 9 22 5 Tryd.underlying22 Tryd.underlying9 byteInfo' hown s (by omega) hO.size
  have Hrun := Lib.hid hrun
  clear hrun
  go_wp2_with ((at_builtin; refine wpList_append_run (o := ⟨some 11, _, _, _, _, _⟩) (by rfl) (.tmp 9) (.tmp 10) 22 9 (by rfl) (by rfl) (by rfl) Hrun.out ?_))
  go_ret
  refine Ex.of _ ⟨rfl, hown2, hO.trans' hO2 ?_⟩
  intro k hk
  exact .inr (own_lt hown (by simpa using hk)).1

set_option maxRecDepth 100000 in
set_option maxHeartbeats 1000000 in
theorem refPut_any (A : Option Addr) (n c x : Nat) (l : List UInt8) (w : World) (hs : Rd w w.heap.size 1 A n (bvs l)) (hn : n ≤ 140737488351232) (hx : x < 4294967296) (hnc : n ≤ c) :
    Calls Tryd.prog 43 #[.slice A n c, .int .u32 (x : Int)] w fun e w' => Ex fun v => e = .returned v ∧ w'.ownsRow w.heap.size 5 1 v (n + 4) (bvs (l ++ be4 x)) ∧ Only [] w w' := by
  obtain ⟨v1, w1, hr1, hown1, hO1, _, _⟩ := run_append_row (P := Tryd.prog) (w := w.alloc (.cells #[] 5)) w.heap.size 22 22 5 (.int .u8 0) 1 1 Tryd.underlying22 byteInfo' rfl (by omega)
    (own_empty w w.heap.size 5 1 rfl (Nat.le_refl _)) c (hs.alloc _) (bvs_one _) (by simp only [maxLen]; omega) (by omega) (by simp)
  simp only [Nat.zero_add, List.nil_append] at hown1
  have hOw1 : Only [] w w1 := ((Only.refl [] w).alloc _).trans' hO1 (by intro k hk; simp [Value.ownBlock] at hk; omega)
  have h4 : Blk (w1.alloc (.cells #[.int .u8 ((x : Int) / 16777216), .int .u8 ((x : Int) / 65536 % 256), .int .u8 ((x : Int) / 256 % 256), .int .u8 ((x : Int) % 256)] 5)) w1.heap.size 5 (bvs (be4 x)) := by
    refine Blk.new' _ _ _ rfl ?_
    simp [bvs, bv, be4]
    omega
  obtain ⟨v2, w2, hr2, hown2, hO2, _, _⟩ := run_append_row (P := Tryd.prog) w.heap.size 22 22 5 (.int .u8 0) 1 1 Tryd.underlying22 byteInfo' rfl (by omega)
    (hown1.alloc _) 4 (Rd.whole h4 (n := 4) (by simp [bvs, be4])) (bvs_one _) (by simp only [maxLen]; omega) (by omega) (by have := hOw1.size; simp; omega)
  rw [bvs_append] at hown2
  have hOw2 : Only [] w w2 := (hOw1.alloc _).trans' hO2 (by intro k hk; exact .inr (own_lt hown1 (by simpa using hk)).1)
  have Hr1 := Lib.hid hr1
  have Hr2 := Lib.hid hr2
  clear hr1 hr2 h4 hown1 hO1 hO2 hs
  go_enter Tryd.func43, Tryd.ntmps43
  go_wp2_with (first
    | (at_builtin; refine wpList_append_run (o := ⟨some 7, _, _, _, _, _⟩) (by rfl) (.tmp 5) (.tmp 6) 22 22 (by rfl) (by rfl) (by rfl) Hr1.out ?_)
    | (at_builtin; refine wpList_append_run (o := ⟨some 20, _, _, _, _, _⟩) (by rfl) (.tmp 7) (.tmp 19) 22 22 (by rfl) (by rfl) (by rfl) Hr2.out ?_))
  go_ret
  exact Ex.of _ ⟨rfl, hown2, hOw2⟩

set_option maxRecDepth 100000 in
set_option maxHeartbeats 1000000 in
theorem refPutText_any (A : Option Addr) (n c : Nat) (l : List UInt8) (s : ByteArray) (w : World) (hs : Rd w w.heap.size 1 A n (bvs l)) (hn : n ≤ 70368744177664) (hx : s.size < 4294967296) (hnc : n ≤ c) :
    Calls Tryd.prog 44 #[.slice A n c, .string s] w fun e w' => Ex fun v => e = .returned v ∧ w'.ownsRow w.heap.size 5 1 v (n + 4 + s.size) (bvs (putText l s)) ∧ Only [] w w' := by
  go_enter Tryd.func44, Tryd.ntmps44
  go_wp2_with (fail)
  refine (refPut_any A n c s.size l _ hs (by omega) hx hnc).mono ?_
  rintro e w1 ⟨v, rfl, hown, hO⟩
  obtain ⟨v2, w2, hrun, hown2, hO2, _⟩ := run_append_row_str (P := Tryd.prog) w.heap.size 22 9 22 5 Tryd.underlying22 Tryd.underlying9 byteInfo' hown s (by omega) hO.size
  have Hrun := Lib.hid hrun
  clear hrun
  go_wp2_with ((at_builtin; refine wpList_append_run (o := ⟨some 11, _, _, _, _, _⟩) (by rfl) (.tmp 9) (.tmp 10) 22 9 (by rfl) (by rfl) (by rfl) Hrun.out ?_))
  go_ret
  refine Ex.of _ ⟨rfl, hown2, hO.trans' hO2 ?_⟩
  intro k hk
  exact .inr (own_lt hown (by simpa using hk)).1
end Go.Proofs.YtgohinklnglgeaaDoor

set_option linter.unusedVariables false
set_option linter.unusedSimpArgs false
namespace Go.Proofs.YtgohinklnglgeaaDoor
open Go.RowKit

def crcStep (x : UInt32) : UInt32 := x >>> 1 ^^^ (0xedb88320 &&& (0 - (x &&& 1)))
def crcSteps : Nat → UInt32 → UInt32
  | 0, x => x
  | n + 1, x => crcStep (crcSteps n x)

theorem u32_lt (x : UInt32) : x.toNat < 4294967296 := x.toNat_lt
theorem crcStep_bits (x : UInt32) : bits .xor .u32 ((x.toNat : Int) / 2) (bits .and .u32 3988292384 (-bits .and .u32 (x.toNat : Int) 1 % 4294967296)) = ((crcStep x).toNat : Int) := by
  have h1 : bits .and .u32 (x.toNat : Int) 1 = ((x.toNat &&& 1 : Nat) : Int) := u32_and_nat x.toNat 1 (u32_lt x) (by omega)
  have hx := u32_lt x
  have h2 : x.toNat &&& 1 ≤ 1 := Nat.and_le_right
  have h3 : -((x.toNat &&& 1 : Nat) : Int) % 4294967296 = (((4294967296 - (x.toNat &&& 1)) % 4294967296 : Nat) : Int) := by
    generalize x.toNat &&& 1 = b at *
    omega
  have h4 : ((x.toNat : Int) / 2) = ((x.toNat / 2 : Nat) : Int) := by omega
  have h5 : (4294967296 - (x.toNat &&& 1)) % 4294967296 < 4294967296 := Nat.mod_lt _ (by omega)
  rw [h1, h3, h4]
  rw [show (3988292384 : Int) = ((3988292384 : Nat) : Int) from rfl, u32_and_nat _ _ (by omega) h5, u32_xor_nat _ _ (by omega) (Nat.lt_of_le_of_lt Nat.and_le_left (by omega))]
  unfold crcStep
  rw [UInt32.toNat_xor, UInt32.toNat_and, UInt32.toNat_sub, UInt32.toNat_and, UInt32.toNat_shiftRight]
  simp [Nat.shiftRight_eq_div_pow]

def tabVal (i : Nat) : UInt32 := crcSteps 8 (UInt32.ofNat i)
/-- the table, its first k places filled -/
def tabRow (k : Nat) : List Value := (List.range 256).map fun i => Value.int .u32 (((if i < k then tabVal i else 0 : UInt32)).toNat : Int)
theorem tabRow_length (k : Nat) : (tabRow k).length = 256 := by simp [tabRow]
theorem tabRow_get (k i : Nat) (h : i < 256) : (tabRow k)[i]? = some (.int .u32 (((if i < k then tabVal i else 0 : UInt32)).toNat : Int)) := by simp [tabRow, h]
theorem tabRow_succ (k : Nat) (h : k < 256) : (tabRow k).set k (.int .u32 ((tabVal k).toNat : Int)) = tabRow (k + 1) := by
  apply List.ext_getElem?
  intro j
  rw [List.getElem?_set, tabRow_length]
  by_cases hj : j < 256
  · rw [tabRow_get _ _ hj, tabRow_get _ _ hj]
    by_cases e : k = j
    · subst e; simp [h]
    · rw [if_neg e]
      by_cases h1 : j < k
      · rw [if_pos h1, if_pos (by omega)]
      · rw [if_neg h1, if_neg (by omega)]
  · rw [if_neg (by omega), List.getElem?_eq_none (by rw [tabRow_length]; omega), List.getElem?_eq_none (by rw [tabRow_length]; omega)]
theorem tab_size (k : Nat) : ((Tryd.prog.info? 113).map (·.size)) = some (tabRow k).toArray.size := by rw [List.size_toArray, tabRow_length]; kernel_rfl
theorem tab_size2 (j k : Nat) : (tabRow j).toArray.size = (tabRow k).toArray.size := by rw [List.size_toArray, List.size_toArray, tabRow_length, tabRow_length]
theorem tab_one (k : Nat) : (tabRow k).toArray.all (·.oneCell') = true := by
  rw [Array.all_eq_true_iff_forall_mem]
  intro v hv
  obtain ⟨i, _, rfl⟩ := List.mem_map.1 (by simpa using hv : v ∈ tabRow k)
  rfl
theorem table_zero (W : World) : (zeroValue 113).run Tryd.prog W = .ok (.agg (tabRow 0).toArray) W := by kernel_rfl

set_option maxRecDepth 100000 in
set_option maxHeartbeats 1000000 in
theorem table_any (w : World) : Calls Tryd.prog 56 #[] w fun e w' => e = .returned (.agg (tabRow 256).toArray) ∧ Only [] w w' := by
  have hz := table_zero
  go_enter Tryd.func56, Tryd.ntmps56
  go_wp2_with (fail)
  obtain ⟨h, hh⟩ : ∃ h, h = w.heap.size := ⟨_, rfl⟩
  rw [← hh]
  refine name_it (p := fun y => Code.wp _ _ _ _ y) ?_
  intro wA HwA
  have hbA : Blk wA (h + 1) 113 (tabRow 0) := by rw [HwA.out]; exact Blk.new' _ _ _ (by simp [hh]) rfl
  have hcA : Blk wA h 113 (tabRow 0) := by rw [HwA.out]; exact (Blk.new' _ _ _ hh.symm rfl).alloc _
  have hOA : Only [] w wA := by rw [HwA.out]; exact ((Only.refl _ _).alloc _).alloc _
  have hle : w.heap.size ≤ h := by omega
  clear hh hz HwA
  go_loopw [4] (fun i wr => ∃ k : Nat, k ≤ 256 ∧ i = .int .i64 (k : Int) ∧ Blk wr (h + 1) 113 (tabRow k) ∧ Blk wr h 113 (tabRow 0) ∧ Only [] w wr) (fun i _ => 256 - (intOf i).toNat)
  case atStart => exact ⟨0, by omega, rfl, hbA, hcA, hOA⟩
  case round =>
    obtain ⟨k, hk, rfl, hb, hc, hO⟩ := hrel
    by_cases hlt : k < 256
    · go_wp2
      go_loopw [3, 9] (fun x j wr' => ∃ n : Nat, n ≤ 8 ∧ j = .int .i64 (n : Int) ∧ x = .int .u32 ((crcSteps n (UInt32.ofNat k)).toNat : Int) ∧ wr' = wr) (fun _ j _ => 8 - (intOf j).toNat)
      case atStart =>
        have e : (k : Int) % 4294967296 = ((UInt32.ofNat k).toNat : Int) := by simp
        exact ⟨0, by omega, rfl, by rw [show ((crcSteps 0 (UInt32.ofNat k)).toNat : Int) = (k : Int) % 4294967296 from e.symm, Int.emod_eq_of_lt (by omega) (by omega)], rfl⟩
      case round =>
        obtain ⟨n, hn, rfl, rfl, rfl⟩ := hrel
        by_cases hlt : n < 8
        · go_wp2
          go_roundw
          case rel => exact ⟨n + 1, by omega, by go_num, by rw [crcStep_bits]; rfl, trivial⟩
          case measure => simp [intOf]; omega
        · obtain rfl : n = 8 := by omega
          have h1 : wr.cell? ⟨h + 1, k, none⟩ = some (.int .u32 0) := by rw [hb.cell, tabRow_get _ _ (by omega), if_neg (by omega)]; rfl
          have h2 : wr.frozen? ⟨h + 1, k, none⟩ = false := hb.frozen k
          go_wp2
          go_roundw
          case rel => exact ⟨k + 1, by omega, by go_num, by rw [← tabRow_succ k (by omega)]; exact hb.set k _, hc.far (p := ⟨h + 1, k, none⟩) (by simp) _, hO.setCell (.inr (by show w.heap.size ≤ h + 1; omega)) _⟩
          case measure => simp [intOf]; omega
    · obtain rfl : k = 256 := by omega
      go_wp2_with (first
        | (refine wpList_load_row (o := ⟨some 23, _, _, _, _, _⟩) (by rfl) 113 (.tmp 1) (by rfl) (h + 1) (by rfl) 113 (tabRow 256).toArray (0, 0) _ hb Tryd.underlying113 (by rfl) (tab_size 256) ?_)
        | (refine wpList_store_row (o := ⟨none, _, _, _, _, _⟩) (by rfl) 113 (.tmp 0) (.tmp 23) (by rfl) h (tabRow 256).toArray (by rfl) (by rfl) 113 (tabRow 0).toArray hc (tab_size 256) (tab_size2 0 256) (tab_one 256) ?_))
      refine bodyPost_ret (v := .agg (tabRow 256).toArray) (results_cell_row (P := Tryd.prog) (p := 0) rfl _ _ h _ (tabRow 256).toArray (0, 0) _ (by rfl) (hc.setRow _) Tryd.underlying113 (by rfl) (tab_size 256)) (by rfl) ⟨rfl, ?_⟩
      exact hO.setRow (.inr hle) _

def sumStep (x : UInt32) (c : UInt8) : UInt32 := x >>> 8 ^^^ tabVal ((x.toUInt8 ^^^ c).toNat)
def sumOf (l : List UInt8) : UInt32 := l.foldl sumStep 0xffffffff
theorem sumOf_snoc (l : List UInt8) (c : UInt8) : sumOf (l ++ [c]) = sumStep (sumOf l) c := by simp [sumOf]
theorem sum_idx (x : UInt32) (c : UInt8) : bits .xor .u8 ((x.toNat : Int) % 256) (c.toNat : Int) = ((x.toUInt8 ^^^ c).toNat : Int) := by
  have h1 : ((x.toNat : Int) % 256) = ((x.toNat % 256 : Nat) : Int) := by omega
  have h2 := c.toNat_lt
  rw [h1, u8_xor_nat _ _ (Nat.mod_lt _ (by omega)) (by omega), UInt8.toNat_xor]
  simp
theorem sum_xor (x y : UInt32) : bits .xor .u32 ((x.toNat : Int) / 256) (y.toNat : Int) = ((x >>> 8 ^^^ y).toNat : Int) := by
  have h1 : ((x.toNat : Int) / 256) = ((x.toNat / 256 : Nat) : Int) := by omega
  have h2 := u32_lt x
  rw [h1, u32_xor_nat _ _ (by omega) (u32_lt y), UInt32.toNat_xor, UInt32.toNat_shiftRight]
  simp [Nat.shiftRight_eq_div_pow]
theorem sum_not (x : UInt32) : bits .xor .u32 4294967295 (x.toNat : Int) = ((~~~x).toNat : Int) := by
  have e := u32_xor_nat 4294967295 x.toNat (by omega) (u32_lt x)
  rw [show ((4294967295 : Nat) : Int) = 4294967295 from rfl] at e
  rw [e, show ~~~x = 4294967295 ^^^ x from (UInt32.neg_one_xor (a := x)).symm, UInt32.toNat_xor]
  rfl
theorem take_snocB {l : List UInt8} {k : Nat} (h : k < l.length) : l.take (k + 1) = l.take k ++ [l[k]] := by rw [List.take_succ_eq_append_getElem h]

set_option maxRecDepth 100000 in
set_option maxHeartbeats 1000000 in
theorem sum_any (A : Option Addr) (n c B : Nat) (l : List UInt8) (w : World) (hs : Rd w w.heap.size 1 A n (bvs l)) (hn : n ≤ 9223372036854775807) :
    Calls Tryd.prog 31 #[.slice A n c] w fun e w' => e = .returned (.int .u32 ((~~~(sumOf l)).toNat : Int)) ∧ Only [] w w' := by
  have hz := table_zero
  have hln : l.length = n := by have := hs.1; rw [bvs_length] at this; omega
  have Hln := Lib.hid hln; clear hln
  go_enter Tryd.func31, Tryd.ntmps31
  go_wp2_with (fail)
  refine (table_any _).mono ?_
  rintro e w1 ⟨rfl, hO1⟩
  go_wp2_with ((refine wpList_store_row (o := ⟨none, _, _, _, _, _⟩) (by rfl) 113 (.tmp 3) (.tmp 7) (by rfl) w1.heap.size (tabRow 256).toArray (by rfl) (by rfl) 113 (tabRow 0).toArray (heap_alloc_new w1 _) (tab_size 256) (tab_size2 0 256) (tab_one 256) ?_))
  clear hz
  obtain ⟨h, hh⟩ : ∃ h, h = w1.heap.size := ⟨_, rfl⟩
  rw [← hh]
  refine name_it (p := fun y => Code.wp _ _ _ _ y) ?_
  intro wA HwA
  have hb : Blk wA h 113 (tabRow 256) := by rw [HwA.out]; exact (show Blk (w1.alloc (.cells (tabRow 0).toArray 113)) h 113 (tabRow 0) from Blk.new' _ _ _ hh.symm rfl).setRow _
  have hO : Only [] w wA := by rw [HwA.out]; exact (hO1.alloc _).setRow (.inr (by have := hO1.size; omega)) _
  have hsA : Rd wA w.heap.size 1 A n (bvs l) := hs.only hO (by simp)
  clear hh hO1 HwA hs
  go_loop [4, 10] (fun x i => ∃ k : Nat, k ≤ n ∧ i = .int .i64 (k : Int) ∧ x = .int .u32 ((sumOf (l.take k)).toNat : Int)) (fun _ i => n - (intOf i).toNat)
  case atStart => exact ⟨0, by omega, rfl, rfl⟩
  case round =>
    obtain ⟨k, hk, rfl, rfl⟩ := hrel
    have hln := Hln.out
    by_cases hlt : k < n
    · obtain ⟨g, o, _, _, hix, hcell⟩ := hsA.index1 Tryd.underlying22 (by kernel_rfl) hlt
      rw [bvs_get (by omega)] at hcell
      obtain ⟨b, hbk⟩ : ∃ b : UInt8, b = l[k] := ⟨_, rfl⟩
      rw [← hbk] at hcell
      have hsn : sumOf (l.take (k + 1)) = sumStep (sumOf (l.take k)) b := by rw [take_snocB (by omega), sumOf_snoc, hbk]
      have Hsn := Lib.hid hsn
      clear hsn hbk hln
      obtain ⟨x, hx⟩ : ∃ x, x = sumOf (l.take k) := ⟨_, rfl⟩
      rw [← hx]
      have Hx := Lib.hid hx
      clear hx
      have hidx := sum_idx x b
      have hi8 : (x.toUInt8 ^^^ b).toNat < 256 := (x.toUInt8 ^^^ b).toNat_lt
      obtain ⟨j, hj⟩ : ∃ j, j = (x.toUInt8 ^^^ b).toNat := ⟨_, rfl⟩
      rw [← hj] at hidx hi8
      have ht : wA.cell? ⟨h, j, none⟩ = some (.int .u32 ((tabVal j).toNat : Int)) := by rw [hb.cell, tabRow_get _ _ hi8, if_pos hi8]
      have hxor := sum_xor x (tabVal j)
      have Hj := Lib.hid hj
      clear hj
      go_wp2
      go_round
      case rel => exact ⟨k + 1, by omega, by go_num, by rw [Hsn.out]; unfold sumStep; rw [← Hx.out, ← Hj.out]; simp⟩
      case measure => simp [intOf]; omega
    · obtain rfl : k = n := by omega
      have hnot := sum_not (sumOf l)
      clear hsA
      go_wp2
      go_ret
      refine ⟨?_, hO⟩
      have e : l.take k = l := List.take_of_length_le (by omega)
      refine ret_int ?_
      rw [e, show IntKind.u32.max = 4294967295 by decide, sum_not]
      simp
/-- one bit of a byte, as the reference takes it -/
def refBit (c : UInt8) (k : Nat) (r : UInt32) : UInt32 := if (r &&& 1).toNat ≠ c.toNat / 2 ^ k % 2 then r >>> 1 ^^^ 0xedb88320 else r >>> 1
def refBits (c : UInt8) : Nat → UInt32 → UInt32
  | 0, r => r
  | n + 1, r => refBit c n (refBits c n r)
def refOf (l : List UInt8) : UInt32 := l.foldl (fun r c => refBits c 8 r) 0xffffffff
theorem refOf_snoc (l : List UInt8) (c : UInt8) : refOf (l ++ [c]) = refBits c 8 (refOf l) := by simp [refOf]

theorem ref_half (r : UInt32) : ((r.toNat : Int) / (2 : Int)) = ((r >>> 1).toNat : Int) := by
  rw [UInt32.toNat_shiftRight]
  simp [Nat.shiftRight_eq_div_pow]
theorem ref_poly (r : UInt32) : bits .xor .u32 ((r.toNat : Int) / (2 : Int)) 3988292384 = ((r >>> 1 ^^^ 0xedb88320).toNat : Int) := by
  rw [ref_half, show (3988292384 : Int) = ((3988292384 : Nat) : Int) from rfl, u32_xor_nat _ _ (u32_lt _) (by omega), UInt32.toNat_xor]
  rfl
theorem ref_test (r : UInt32) (b : UInt8) (m : Nat) : (bits .and .u32 (r.toNat : Int) 1 != bits .and .u32 ((b.toNat : Int) / 2 ^ m) 1) = decide ((r &&& 1).toNat ≠ b.toNat / 2 ^ m % 2) := by
  have h0 := b.toNat_lt
  have hd : b.toNat / 2 ^ m ≤ b.toNat := Nat.div_le_self _ _
  have h1 : bits .and .u32 (r.toNat : Int) 1 = ((r.toNat &&& 1 : Nat) : Int) := u32_and_nat r.toNat 1 (u32_lt r) (by omega)
  have h2 : ((b.toNat : Int) / 2 ^ m) = ((b.toNat / 2 ^ m : Nat) : Int) := by simp
  have h3 : bits .and .u32 ((b.toNat / 2 ^ m : Nat) : Int) 1 = ((b.toNat / 2 ^ m &&& 1 : Nat) : Int) := u32_and_nat _ 1 (by omega) (by omega)
  rw [h1, h2, h3, nat_mask1, nat_mask1, UInt32.toNat_and, show (1 : UInt32).toNat = 1 from rfl, nat_mask1]
  generalize r.toNat % 2 = x
  generalize b.toNat / 2 ^ m % 2 = y
  rw [Bool.eq_iff_iff]
  simp
  omega

set_option maxRecDepth 100000 in
set_option maxHeartbeats 1000000 in
theorem refSum_any (A : Option Addr) (n c B : Nat) (l : List UInt8) (w : World) (hs : Rd w w.heap.size 1 A n (bvs l)) (hn : n ≤ 9223372036854775807) :
    Calls Tryd.prog 46 #[.slice A n c] w fun e w' => e = .returned (.int .u32 ((~~~(refOf l)).toNat : Int)) ∧ w = w' := by
  have hln : l.length = n := by have := hs.1; rw [bvs_length] at this; omega
  have Hln := Lib.hid hln; clear hln
  go_enter Tryd.func46, Tryd.ntmps46
  go_wp2_with (fail)
  go_loop [3, 4] (fun x i => ∃ k : Nat, k ≤ n ∧ i = .int .i64 (k : Int) ∧ x = .int .u32 ((refOf (l.take k)).toNat : Int)) (fun _ i => n - (intOf i).toNat)
  case atStart => exact ⟨0, by omega, rfl, rfl⟩
  case round =>
    obtain ⟨k, hk, rfl, rfl⟩ := hrel
    have hln := Hln.out
    by_cases hlt : k < n
    · obtain ⟨g, o, _, _, hix, hcell⟩ := hs.index1 Tryd.underlying22 (by kernel_rfl) hlt
      rw [bvs_get (by omega)] at hcell
      obtain ⟨b, hbk⟩ : ∃ b : UInt8, b = l[k] := ⟨_, rfl⟩
      rw [← hbk] at hcell
      have hsn : refOf (l.take (k + 1)) = refBits b 8 (refOf (l.take k)) := by rw [take_snocB (by omega), refOf_snoc, hbk]
      have Hsn := Lib.hid hsn
      clear hsn hbk hln
      have hb8 := b.toNat_lt
      go_wp2_with (fail)
      go_loop [3, 5] (fun x j => ∃ m : Nat, m ≤ 8 ∧ j = .int .i64 (m : Int) ∧ x = .int .u32 ((refBits b m (refOf (l.take k))).toNat : Int)) (fun _ j => 8 - (intOf j).toNat)
      case atStart => exact ⟨0, by omega, rfl, rfl⟩
      case round =>
        obtain ⟨m, hm, rfl, rfl⟩ := hrel
        by_cases hlt : m < 8
        · go_wp2
          all_goals
            go_round
            case rel =>
              refine ⟨m + 1, by omega, by go_num, ?_⟩
              simp only [refBits, refBit]
              first
                | (have ht : (bits .and .u32 ((refBits b m (refOf (l.take k))).toNat : Int) 1 != bits .and .u32 ((b.toNat : Int) / 2 ^ m) 1) = true := by assumption
                   rw [ref_test] at ht
                   rw [if_pos (of_decide_eq_true ht), ref_poly])
                | (have ht : (bits .and .u32 ((refBits b m (refOf (l.take k))).toNat : Int) 1 != bits .and .u32 ((b.toNat : Int) / 2 ^ m) 1) = false := by assumption
                   rw [ref_test] at ht
                   rw [if_neg (of_decide_eq_false ht), ref_half])
            case measure => simp [intOf]; omega
        · obtain rfl : m = 8 := by omega
          go_wp2
          go_round
          case rel => exact ⟨k + 1, by omega, by go_num, by rw [Hsn.out]⟩
          case measure => simp [intOf]; omega
    · obtain rfl : k = n := by omega
      clear hs
      go_wp2
      go_ret
      refine ⟨?_, rfl⟩
      have e : l.take k = l := List.take_of_length_le (by omega)
      refine ret_int ?_
      rw [e, show IntKind.u32.max = 4294967295 by decide, sum_not]
      simp
end Go.Proofs.YtgohinklnglgeaaDoor

set_option linter.unusedVariables false
set_option linter.unusedSimpArgs false
namespace Go.Proofs.YtgohinklnglgeaaDoor

def cs (n : Nat) : Nat := if n % 2 = 1 then n / 2 ^^^ 0xedb88320 else n / 2
def csN : Nat → Nat → Nat
  | 0, n => n
  | k + 1, n => cs (csN k n)
theorem csN_succ' (k n : Nat) : csN (k + 1) n = csN k (cs n) := by
  induction k with
  | zero => rfl
  | succ k ih => rw [csN, ih, csN]
theorem csN_add (j k n : Nat) : csN (j + k) n = csN j (csN k n) := by
  induction j with
  | zero => rw [Nat.zero_add]; rfl
  | succ j ih => rw [Nat.succ_add, csN, ih, csN]
theorem xor_half (a b : Nat) : (a ^^^ b) / 2 = a / 2 ^^^ b / 2 := by
  have := Nat.shiftRight_xor_distrib (a := a) (b := b) (i := 1)
  simpa [Nat.shiftRight_succ] using this
theorem xor_par (a b : Nat) : (a ^^^ b) % 2 = (a + b) % 2 := by
  have h := Nat.testBit_xor a b 0
  simp only [Nat.testBit_zero] at h
  rcases Nat.mod_two_eq_zero_or_one a with ha | ha <;> rcases Nat.mod_two_eq_zero_or_one b with hb | hb <;> rcases Nat.mod_two_eq_zero_or_one (a ^^^ b) with hx | hx <;> simp [ha, hb, hx] at h ⊢ <;> omega
theorem eq_of_xor {a b : Nat} (h : a ^^^ b = 0) : a = b := by
  have := congrArg (· ^^^ b) h
  simpa [Nat.xor_assoc] using this
theorem cs_xor (a b : Nat) : cs (a ^^^ b) = cs a ^^^ cs b := by
  unfold cs
  rw [xor_par, xor_half]
  rcases Nat.mod_two_eq_zero_or_one a with ha | ha <;> rcases Nat.mod_two_eq_zero_or_one b with hb | hb
  · rw [if_neg (by omega), if_neg (by omega), if_neg (by omega)]
  · rw [if_pos (by omega), if_neg (by omega), if_pos (by omega)]; ac_rfl
  · rw [if_pos (by omega), if_pos (by omega), if_neg (by omega)]; ac_rfl
  · rw [if_neg (by omega), if_pos (by omega), if_pos (by omega)]
    have : a / 2 ^^^ 0xedb88320 ^^^ (b / 2 ^^^ 0xedb88320) = (a / 2 ^^^ b / 2) ^^^ (0xedb88320 ^^^ 0xedb88320) := by ac_rfl
    rw [this, Nat.xor_self, Nat.xor_zero]
theorem csN_xor (k a b : Nat) : csN k (a ^^^ b) = csN k a ^^^ csN k b := by
  induction k with
  | zero => rfl
  | succ k ih => rw [csN, ih, cs_xor]; rfl
theorem cs_double (n : Nat) : cs (2 * n) = n := by unfold cs; rw [if_neg (by omega)]; omega
theorem csN_shift (k n : Nat) : csN k (2 ^ k * n) = n := by
  induction k with
  | zero => simp [csN]
  | succ k ih => rw [csN_succ', show 2 ^ (k + 1) * n = 2 * (2 ^ k * n) by rw [Nat.pow_succ]; ac_rfl, cs_double, ih]
theorem cs_lt (n : Nat) (h : n < 4294967296) : cs n < 4294967296 := by
  unfold cs
  split
  · exact Nat.xor_lt_two_pow (n := 32) (by omega) (by omega)
  · omega
theorem csN_lt (k n : Nat) (h : n < 4294967296) : csN k n < 4294967296 := by
  induction k with
  | zero => exact h
  | succ k ih => exact cs_lt _ ih
theorem cs_ne (n : Nat) (h : n < 4294967296) (h0 : n ≠ 0) : cs n ≠ 0 := by
  unfold cs
  split
  · intro e
    have e2 : (n / 2 ^^^ 0xedb88320).testBit 31 = (0 : Nat).testBit 31 := by rw [e]
    rw [Nat.testBit_xor, Nat.testBit_lt_two_pow (show n / 2 < 2 ^ 31 by omega)] at e2
    revert e2
    decide
  · omega
theorem csN_ne (k n : Nat) (h : n < 4294967296) (h0 : n ≠ 0) : csN k n ≠ 0 := by
  induction k with
  | zero => exact h0
  | succ k ih => exact cs_ne _ (csN_lt k n h) ih

/-- bytes as one number, the first byte the lowest -/
def numOf : List UInt8 → Nat
  | [] => 0
  | b :: l => b.toNat ^^^ 256 * numOf l
def crcNat (r : Nat) (l : List UInt8) : Nat := csN (8 * l.length) (r ^^^ numOf l)
theorem crcNat_cons (r : Nat) (b : UInt8) (l : List UInt8) : crcNat r (b :: l) = crcNat (csN 8 (r ^^^ b.toNat)) l := by
  unfold crcNat
  rw [show numOf (b :: l) = b.toNat ^^^ 256 * numOf l from rfl, List.length_cons, Nat.mul_succ, csN_add, show r ^^^ (b.toNat ^^^ 256 * numOf l) = (r ^^^ b.toNat) ^^^ 2 ^ 8 * numOf l by rw [Nat.xor_assoc], csN_xor, csN_shift]
theorem foldl_crc (f : UInt32 → UInt8 → UInt32) (hf : ∀ r c, (f r c).toNat = csN 8 (r.toNat ^^^ c.toNat)) : ∀ (l : List UInt8) (r : UInt32), (l.foldl f r).toNat = crcNat r.toNat l
  | [], r => by simp [crcNat, numOf, csN]
  | b :: l, r => by rw [List.foldl_cons, foldl_crc f hf l, hf, crcNat_cons]

/-! ### the machine's step is 'cs' -/
theorem mask_eq (x : UInt32) : (0xedb88320 &&& (0 - (x &&& 1))).toNat = if x.toNat % 2 = 1 then 0xedb88320 else 0 := by
  have h : x &&& 1 = 0 ∨ x &&& 1 = 1 := by
    have h1 : (x &&& 1).toNat = x.toNat % 2 := by rw [UInt32.toNat_and, show (1 : UInt32).toNat = 1 from rfl, nat_mask1]
    rcases Nat.mod_two_eq_zero_or_one x.toNat with h2 | h2
    · left; apply UInt32.toNat_inj.1; rw [h1, h2]; rfl
    · right; apply UInt32.toNat_inj.1; rw [h1, h2]; rfl
  have h1 : (x &&& 1).toNat = x.toNat % 2 := by rw [UInt32.toNat_and, show (1 : UInt32).toNat = 1 from rfl, nat_mask1]
  rcases h with h | h
  · rw [h] at h1 ⊢
    rw [if_neg (by rw [← h1]; decide)]
    rfl
  · rw [h] at h1 ⊢
    rw [if_pos (by rw [← h1]; rfl)]
    rfl
theorem crcStep_cs (x : UInt32) : (crcStep x).toNat = cs x.toNat := by
  unfold crcStep cs
  rw [UInt32.toNat_xor, mask_eq, UInt32.toNat_shiftRight]
  simp only [Nat.shiftRight_eq_div_pow]
  split
  · rfl
  · simp
theorem crcSteps_cs (n : Nat) (x : UInt32) : (crcSteps n x).toNat = csN n x.toNat := by
  induction n with
  | zero => rfl
  | succ n ih => rw [crcSteps, crcStep_cs, ih]; rfl
theorem sumStep_cs (r : UInt32) (c : UInt8) : (sumStep r c).toNat = csN 8 (r.toNat ^^^ c.toNat) := by
  have hc := c.toNat_lt
  unfold sumStep tabVal
  rw [UInt32.toNat_xor, crcSteps_cs, UInt32.toNat_shiftRight]
  have h1 : (UInt32.ofNat (r.toUInt8 ^^^ c).toNat).toNat = (r.toNat ^^^ c.toNat) % 256 := by
    rw [UInt32.toNat_ofNat_of_lt' (by have := (r.toUInt8 ^^^ c).toNat_lt; exact Nat.lt_trans this (by decide)), UInt8.toNat_xor]
    rw [show (256 : Nat) = 2 ^ 8 from rfl, Nat.xor_mod_two_pow, show c.toNat % 2 ^ 8 = c.toNat from Nat.mod_eq_of_lt hc]
    rfl
  have h3 : (r.toNat ^^^ c.toNat) / 256 = r.toNat / 256 := by
    have := Nat.shiftRight_xor_distrib (a := r.toNat) (b := c.toNat) (i := 8)
    simp only [Nat.shiftRight_eq_div_pow] at this
    rw [show (256 : Nat) = 2 ^ 8 from rfl, this, Nat.div_eq_of_lt hc, Nat.xor_zero]
  have h4 : r.toNat ^^^ c.toNat = ((r.toNat ^^^ c.toNat) % 256) ^^^ 2 ^ 8 * ((r.toNat ^^^ c.toNat) / 256) := by
    generalize r.toNat ^^^ c.toNat = y
    apply Nat.eq_of_testBit_eq
    intro i
    rw [Nat.testBit_xor, show (256 : Nat) = 2 ^ 8 from rfl, Nat.testBit_mod_two_pow, Nat.testBit_two_pow_mul, Nat.testBit_div_two_pow]
    by_cases hi : i < 8
    · simp [hi, Nat.not_le.2 hi]
    · have hi' : 8 ≤ i := by omega
      simp [hi, hi']
  rw [h1]
  conv => rhs; rw [h4]
  rw [csN_xor, csN_shift, h3, Nat.xor_comm]
  simp [Nat.shiftRight_eq_div_pow]
theorem refBit_cs (c : UInt8) (k : Nat) (r : UInt32) : (refBit c k r).toNat = cs (r.toNat ^^^ (c.toNat / 2 ^ k % 2)) := by
  unfold refBit cs
  have h0 : (r &&& 1).toNat = r.toNat % 2 := by rw [UInt32.toNat_and, show (1 : UInt32).toNat = 1 from rfl, nat_mask1]
  rw [h0, xor_par, xor_half]
  have h1 : (c.toNat / 2 ^ k % 2) / 2 = 0 := by omega
  rw [h1, Nat.xor_zero]
  by_cases h : r.toNat % 2 ≠ c.toNat / 2 ^ k % 2
  · rw [if_pos h, if_pos (by omega), UInt32.toNat_xor, UInt32.toNat_shiftRight]
    simp [Nat.shiftRight_eq_div_pow]
  · rw [if_neg h, if_neg (by omega), UInt32.toNat_shiftRight]
    simp [Nat.shiftRight_eq_div_pow]
theorem refBits_cs (c : UInt8) (r : UInt32) : ∀ n, n ≤ 8 → (refBits c n r).toNat = csN n (r.toNat ^^^ (c.toNat % 2 ^ n))
  | 0, _ => by simp [refBits, csN, Nat.mod_one]
  | n + 1, h => by
    rw [refBits, refBit_cs, refBits_cs c r n (by omega)]
    have h1 : c.toNat % 2 ^ (n + 1) = (c.toNat % 2 ^ n) ^^^ 2 ^ n * (c.toNat / 2 ^ n % 2) := by
      apply Nat.eq_of_testBit_eq
      intro i
      rw [Nat.testBit_xor, Nat.testBit_mod_two_pow, Nat.testBit_mod_two_pow, Nat.testBit_two_pow_mul]
      rw [show c.toNat / 2 ^ n % 2 = c.toNat / 2 ^ n % 2 ^ 1 from rfl, Nat.testBit_mod_two_pow, Nat.testBit_div_two_pow]
      by_cases h2 : i < n
      · simp [h2, Nat.not_le.2 h2, Nat.lt_succ_of_lt h2]
      · by_cases h3 : i = n
        · subst h3; simp
        · have h4 : ¬ i < n + 1 := by omega
          have h5 : ¬ i - n < 1 := by omega
          simp [h2, h4, h5]
    rw [h1, ← Nat.xor_assoc, csN, csN_xor n (r.toNat ^^^ _) (2 ^ n * _), csN_shift]
theorem refStep_cs (r : UInt32) (c : UInt8) : (refBits c 8 r).toNat = csN 8 (r.toNat ^^^ c.toNat) := by
  rw [refBits_cs c r 8 (by omega), Nat.mod_eq_of_lt c.toNat_lt]
theorem sumOf_nat (l : List UInt8) : (sumOf l).toNat = crcNat 0xffffffff l := foldl_crc sumStep sumStep_cs l 0xffffffff
theorem refOf_nat (l : List UInt8) : (refOf l).toNat = crcNat 0xffffffff l := foldl_crc (fun r c => refBits c 8 r) refStep_cs l 0xffffffff
theorem sumOf_eq_refOf (l : List UInt8) : sumOf l = refOf l := UInt32.toNat_inj.1 (by rw [sumOf_nat, refOf_nat])

/-! ### bursts -/
theorem sum_eq_iff (l m : List UInt8) (h : l.length = m.length) : sumOf l = sumOf m ↔ csN (8 * l.length) (numOf l ^^^ numOf m) = 0 := by
  rw [← UInt32.toNat_inj, sumOf_nat, sumOf_nat]
  unfold crcNat
  rw [h, csN_xor, csN_xor, csN_xor]
  constructor
  · intro e
    have e2 := congrArg (fun x => csN (8 * m.length) 0xffffffff ^^^ x) e
    simp only [← Nat.xor_assoc, Nat.xor_self, Nat.zero_xor] at e2
    rw [e2, Nat.xor_self]
  · intro e
    rw [eq_of_xor e]
theorem numOf_test : ∀ (l : List UInt8) (i j : Nat), j < 8 → (numOf l).testBit (8 * i + j) = (l.getD i 0).toNat.testBit j
  | [], i, j, _ => by simp [numOf]
  | b :: l, 0, j, hj => by
    simp only [numOf, Nat.mul_zero, Nat.zero_add, List.getD_cons_zero, Nat.testBit_xor]
    rw [show (256 : Nat) = 2 ^ 8 from rfl, Nat.testBit_two_pow_mul]
    simp [Nat.not_le.2 hj]
  | b :: l, i + 1, j, hj => by
    simp only [numOf, List.getD_cons_succ, Nat.testBit_xor]
    rw [show (256 : Nat) = 2 ^ 8 from rfl, Nat.testBit_two_pow_mul, Nat.testBit_lt_two_pow (show b.toNat < 2 ^ (8 * (i + 1) + j) from Nat.lt_of_lt_of_le b.toNat_lt (Nat.pow_le_pow_right (by omega) (by omega))),
      show 8 * (i + 1) + j - 8 = 8 * i + j by omega, numOf_test l i j hj]
    simp; omega
theorem numOf_flip (l : List UInt8) (p : Nat) (h : p < 8 * l.length) : numOf (l.set (p / 8) (l.getD (p / 8) 0 ^^^ UInt8.ofNat (2 ^ (p % 8)))) = numOf l ^^^ 2 ^ p := by
  apply Nat.eq_of_testBit_eq
  intro q
  have hq := Nat.div_add_mod q 8
  have hp := Nat.div_add_mod p 8
  rw [Nat.testBit_xor, ← hq, numOf_test _ _ _ (Nat.mod_lt _ (by omega)), numOf_test _ _ _ (Nat.mod_lt _ (by omega)), hq, Nat.testBit_two_pow]
  have hm : (UInt8.ofNat (2 ^ (p % 8))).toNat = 2 ^ (p % 8) := by
    have h8 : p % 8 < 8 := Nat.mod_lt _ (by omega)
    exact UInt8.toNat_ofNat_of_lt' (show 2 ^ (p % 8) < 2 ^ 8 from Nat.pow_lt_pow_right (by omega) h8)
  by_cases e : p / 8 = q / 8
  · have hl : q / 8 < l.length := by omega
    rw [List.getD_eq_getElem?_getD, List.getElem?_set, if_pos e, if_pos (by omega), Option.getD_some, UInt8.toNat_xor, Nat.testBit_xor, hm, Nat.testBit_two_pow, e]
    congr 1
    by_cases h2 : p % 8 = q % 8
    · have : p = q := by omega
      simp [this]
    · have : ¬ p = q := by omega
      simp [this, h2]
  · have : ¬ p = q := by intro h2; rw [h2] at e; exact e rfl
    rw [List.getD_eq_getElem?_getD, List.getElem?_set, if_neg e, ← List.getD_eq_getElem?_getD]
    simp [this]
/-- the bytes with the bits of 'burst' turned from bit 'at' on, the first k of them -/
def turn (burst at_ : Nat) (l : List UInt8) : Nat → List UInt8
  | 0 => l
  | k + 1 => if burst / 2 ^ k % 2 = 1 then (turn burst at_ l k).set ((at_ + k) / 8) ((turn burst at_ l k).getD ((at_ + k) / 8) 0 ^^^ UInt8.ofNat (2 ^ ((at_ + k) % 8))) else turn burst at_ l k
theorem turn_length (burst at_ : Nat) (l : List UInt8) (k : Nat) : (turn burst at_ l k).length = l.length := by
  induction k with
  | zero => rfl
  | succ k ih => rw [turn]; split <;> simp [ih]
theorem turn_num (burst at_ : Nat) (l : List UInt8) : ∀ k, at_ + k ≤ 8 * l.length → numOf (turn burst at_ l k) = numOf l ^^^ 2 ^ at_ * (burst % 2 ^ k)
  | 0, _ => by simp [turn, Nat.mod_one]
  | k + 1, h => by
    have h1 : burst % 2 ^ (k + 1) = (burst % 2 ^ k) ^^^ 2 ^ k * (burst / 2 ^ k % 2) := by
      apply Nat.eq_of_testBit_eq
      intro i
      rw [Nat.testBit_xor, Nat.testBit_mod_two_pow, Nat.testBit_mod_two_pow, Nat.testBit_two_pow_mul]
      rw [show burst / 2 ^ k % 2 = burst / 2 ^ k % 2 ^ 1 from rfl, Nat.testBit_mod_two_pow, Nat.testBit_div_two_pow]
      by_cases h2 : i < k
      · simp [h2, Nat.not_le.2 h2, Nat.lt_succ_of_lt h2]
      · by_cases h3 : i = k
        · subst h3; simp
        · have h4 : ¬ i < k + 1 := by omega
          have h5 : ¬ i - k < 1 := by omega
          simp [h2, h4, h5]
    have hd : ∀ a b : Nat, 2 ^ at_ * (a ^^^ b) = 2 ^ at_ * a ^^^ 2 ^ at_ * b := by
      intro a b
      have := Nat.shiftLeft_xor_distrib (a := a) (b := b) (i := at_)
      simpa [Nat.shiftLeft_eq, Nat.mul_comm] using this
    rw [turn, h1, hd, ← Nat.xor_assoc]
    split
    · rename_i h2
      rw [numOf_flip _ _ (by rw [turn_length]; omega), turn_num burst at_ l k (by omega), h2, Nat.mul_one, ← Nat.pow_add]
    · rename_i h2
      rw [turn_num burst at_ l k (by omega), show burst / 2 ^ k % 2 = 0 by omega, Nat.mul_zero, Nat.mul_zero, Nat.xor_zero]
theorem burst_seen (burst at_ : Nat) (l : List UInt8) (k : Nat) (hk : k ≤ 32) (h : at_ + k ≤ 8 * l.length) : sumOf l = sumOf (turn burst at_ l k) ↔ burst % 2 ^ k = 0 := by
  rw [sum_eq_iff _ _ (turn_length _ _ _ _).symm, turn_num burst at_ l k h, ← Nat.xor_assoc, Nat.xor_self, Nat.zero_xor]
  obtain ⟨d, hd⟩ : ∃ d, 8 * l.length = d + at_ := ⟨8 * l.length - at_, by omega⟩
  rw [hd, csN_add, csN_shift]
  have hlt : burst % 2 ^ k < 4294967296 := Nat.lt_of_lt_of_le (Nat.mod_lt _ (Nat.two_pow_pos k)) (show 2 ^ k ≤ 2 ^ 32 from Nat.pow_le_pow_right (by omega) hk)
  constructor
  · intro e
    by_cases h0 : burst % 2 ^ k = 0
    · exact h0
    · exact absurd e (csN_ne _ _ hlt h0)
  · intro e
    rw [e]
    have : csN d 0 = 0 := by
      have := csN_shift d 0
      simpa using this
    exact this
end Go.Proofs.YtgohinklnglgeaaDoor

set_option linter.unusedVariables false
set_option linter.unusedSimpArgs false
namespace Go.Proofs.YtgohinklnglgeaaDoor
open Go.RowKit

theorem byteInfo'' : (Tryd.prog.info? 5).map (fun i => (i.zero, i.size, i.bytes)) = some (some (.int .u8 0), 1, 1) := by kernel_rfl
theorem byte_ne (a b : UInt8) : ((a.toNat : Int) != (b.toNat : Int)) = !decide (a = b) := by
  rw [Bool.eq_iff_iff]
  simp [← UInt8.toNat_inj]
  omega
theorem take_eq_succ {α : Type} {l m : List α} {k : Nat} {a b : α} (hl : l[k]? = some a) (hm : m[k]? = some b) : l.take (k + 1) = m.take (k + 1) ↔ l.take k = m.take k ∧ a = b := by
  have h1 := (List.getElem?_eq_some_iff.1 hl).1
  have h2 := (List.getElem?_eq_some_iff.1 hm).1
  rw [List.take_add_one, List.take_add_one, hl, hm]
  constructor
  · intro h
    have h1 := List.append_inj h (by simp; omega)
    exact ⟨h1.1, by simpa using h1.2⟩
  · rintro ⟨h1, h2⟩
    rw [h1, h2]

set_option maxRecDepth 100000 in
set_option maxHeartbeats 1000000 in
theorem same_any (A C : Option Addr) (n c m d B B' : Nat) (x y : List UInt8) (w : World) (hx : Rd w B 1 A n (bvs x)) (hy : Rd w B' 1 C m (bvs y)) (hn : n ≤ 9223372036854775807) :
    Calls Tryd.prog 15 #[.slice A n c, .slice C m d] w fun e w' => e = .returned (.bool (decide (x = y))) ∧ ∃ k, w' = w.drewN k := by
  have hxl : x.length = n := by have := hx.1; rw [bvs_length] at this; omega
  have hyl : y.length = m := by have := hy.1; rw [bvs_length] at this; omega
  by_cases hnm : n = m
  · subst hnm
    have Hxl := Lib.hid hxl
    have Hyl := Lib.hid hyl
    clear hxl hyl
    go_enter Tryd.func15, Tryd.ntmps15
    go_wp2_with (fail)
    go_loopw [5] (fun i wr => ∃ k : Nat, k ≤ n ∧ i = .int .i64 (k : Int) ∧ x.take k = y.take k ∧ ∃ j, wr = w.drewN j) (fun i _ => n - (intOf i).toNat)
    case atStart => exact ⟨0, by omega, rfl, rfl, 0, rfl⟩
    case round =>
      obtain ⟨k, hk, rfl, heq, j, rfl⟩ := hrel
      have Heq := Lib.hid heq
      clear heq
      have hxl := Hxl.out
      have hyl := Hyl.out
      by_cases hlt : k < n
      · obtain ⟨g, o, _, _, hix, hcell⟩ := hx.index1 Tryd.underlying22 (by kernel_rfl) hlt
        obtain ⟨g', o', _, _, hiy, hcell'⟩ := hy.index1 Tryd.underlying22 (by kernel_rfl) hlt
        obtain ⟨a, ha⟩ : ∃ a : UInt8, x[k]? = some a := ⟨_, List.getElem?_eq_getElem (by omega)⟩
        obtain ⟨b, hb⟩ : ∃ b : UInt8, y[k]? = some b := ⟨_, List.getElem?_eq_getElem (by omega)⟩
        rw [bvs_get?, ha, Option.map_some, bv] at hcell
        rw [bvs_get?, hb, Option.map_some, bv] at hcell'
        have Ha := Lib.hid ha
        have Hb := Lib.hid hb
        have hne := byte_ne a b
        clear ha hb hxl hyl
        by_cases hab : a = b
        · have htest : ((a.toNat : Int) != (b.toNat : Int)) = false := by rw [hne]; simp [hab]
          clear hne
          have Hab := Lib.hid hab
          clear hab
          go_wp2_with (fail)
          go_quiet (fail)
          go_wp2
          go_roundw
          case rel => exact ⟨k + 1, by omega, by go_num, (take_eq_succ Ha.out Hb.out).2 ⟨Heq.out, Hab.out⟩, _, rfl⟩
          case measure => simp [intOf]; omega
        · have htest : ((a.toNat : Int) != (b.toNat : Int)) = true := by rw [hne]; simp [hab]
          clear hne
          go_wp2_with (fail)
          go_quiet (fail)
          go_wp2
          go_ret
          refine ⟨ret_bool ?_, _, World.drewN_drewN _ _ _⟩
          symm
          refine decide_eq_false ?_
          rintro rfl
          exact hab (by have h1 := Ha.out; rw [Hb.out] at h1; injection h1 with h1; exact h1.symm)
      · obtain rfl : k = n := by omega
        clear hx hy
        go_wp2
        go_ret
        refine ⟨ret_bool ?_, _, rfl⟩
        have h := Heq.out
        rw [List.take_of_length_le (by omega), List.take_of_length_le (by omega)] at h
        simp [h]
  · have hne : ¬ x = y := by rintro rfl; omega
    have hnm' : ((n : Int) != (m : Int)) = true := by simp; omega
    clear hx hy hxl hyl
    go_enter Tryd.func15, Tryd.ntmps15
    go_wp2
    go_ret
    exact ⟨ret_bool (by simp [hne]), 0, rfl⟩

/-- what Roomy lays down: the list, and 80 marks behind it -/
def roomy (l : List UInt8) (m : UInt8) : List UInt8 := l ++ List.replicate 80 m
theorem roomy_set (l : List UInt8) (m : UInt8) (k : Nat) (h : k < 80) : (l ++ List.replicate k m ++ List.replicate (80 - k) 0).set (l.length + k) m = l ++ List.replicate (k + 1) m ++ List.replicate (80 - (k + 1)) 0 := by
  have e : 80 - k = (80 - (k + 1)) + 1 := by omega
  rw [e, List.replicate_succ, List.set_append_right _ _ (by simp)]
  have e2 : l.length + k - (l ++ List.replicate k m).length = 0 := by simp
  rw [e2, List.set_cons_zero, List.replicate_succ', List.append_assoc, List.append_assoc, List.append_assoc]
  rfl

set_option maxRecDepth 100000 in
set_option maxHeartbeats 1000000 in
theorem roomy_any (A : Option Addr) (n c B : Nat) (l : List UInt8) (m : UInt8) (w : World) (hs : Rd w B 1 A n (bvs l)) (hn : n ≤ 140737488351232) :
    Calls Tryd.prog 17 #[.slice A n c, .int .u8 (m.toNat : Int)] w fun e w' => e = .returned (.slice (some ⟨w.heap.size, 0, none⟩) (n + 80) (n + 80)) ∧ Blk w' w.heap.size 5 (bvs (roomy l m)) ∧ Only [] w w' := by
  obtain ⟨h, hh⟩ : ∃ h, h = w.heap.size := ⟨_, rfl⟩
  rw [← hh]
  have hln : l.length = n := by have := hs.1; rw [bvs_length] at this; omega
  have hmk : ∀ W, (Instr.makeSlice 22 (.int .i64 ((n : Int) + 80)) (.int .i64 ((n : Int) + 80))).run Tryd.prog W = _ := fun W =>
    run_make_rep1 (P := Tryd.prog) 22 5 (.int .u8 0) 1 Tryd.underlying22 byteInfo'' rfl .i64 .i64 (n + 80) (n + 80) (Nat.le_refl _) (by omega) (by omega) W
  have Hln := Lib.hid hln
  clear hln
  go_enter Tryd.func17, Tryd.ntmps17
  go_upto_region 2 with (fail)
  rw [← hh]
  refine name_it (p := fun y => Code.wp _ _ _ _ y) ?_
  intro w1 Hw1
  have h1 : Blk w1 h 5 (bvs (List.replicate (n + 80) 0)) := by rw [Hw1.out]; exact Blk.new' _ _ _ hh.symm (by simp [bvs_replicate, bv])
  have hs1 : Rd w1 B 1 A n (bvs l) := by rw [Hw1.out]; exact hs.alloc _
  have hO1 : Only [] w w1 := by rw [Hw1.out]; exact (Only.refl _ _).alloc _
  have hle : w.heap.size ≤ h := by omega
  have hln := Hln.out
  have hcp := run_copy_lay (P := Tryd.prog) w1 22 22 3 5 Tryd.underlying22 (by kernel_rfl) (some ⟨h, 0, none⟩) A (n + 80) (n + 80) n c h 0 _ 5 h1 n (bvs l) (by omega) (fun _ => rfl) B hs1
    (by rw [bvs_length, List.length_replicate]; omega) (bvs_one _)
  obtain ⟨w2, hw2⟩ : ∃ w2, w2 = w1.setRow h (lay (bvs (List.replicate (n + 80) 0)) 0 (bvs l)).toArray := ⟨_, rfl⟩
  rw [← hw2] at hcp
  have hb2 : Blk w2 h 5 (bvs (l ++ List.replicate 0 m ++ List.replicate (80 - 0) 0)) := by
    rw [hw2]
    have e : lay (bvs (List.replicate (n + 80) 0)) 0 (bvs l) = bvs (l ++ List.replicate 0 m ++ List.replicate (80 - 0) 0) := by
      rw [bvs_lay]
      congr 1
      unfold lay
      simp [hln]
    rw [e]
    exact h1.setRow _
  have hO2 : Only [] w w2 := by rw [hw2]; exact hO1.setRow (.inr hle) _
  clear hw2 h1 hs1 hs hmk hln hh hO1 Hw1
  go_wp2_with (fail)
  clear hcp
  go_loopw [6] (fun i wr => ∃ k : Nat, k ≤ 80 ∧ i = .int .i64 ((n + k : Nat) : Int) ∧ Blk wr h 5 (bvs (l ++ List.replicate k m ++ List.replicate (80 - k) 0)) ∧ Only [] w wr) (fun i _ => n + 80 - (intOf i).toNat)
  case atStart => exact ⟨0, by omega, rfl, hb2, hO2⟩
  case round =>
    obtain ⟨k, hk, rfl, hb, hO⟩ := hrel
    by_cases hlt : k < 80
    · obtain ⟨j, hj⟩ : ∃ j, j = n + k := ⟨_, rfl⟩
      have hjn : j < n + 80 := by omega
      have hc : wr.cell? ⟨h, j, none⟩ = some (bv 0) := by
        have hln := Hln.out
        rw [hb.cell, bvs_get?, List.getElem?_append_right (by simp; omega), List.getElem?_replicate, if_pos (by simp; omega)]
        rfl
      have hf : wr.frozen? ⟨h, j, none⟩ = false := hb.frozen j
      rw [← hj]
      have Hj := Lib.hid hj
      clear hj hlt
      have hlt : (j : Int) < (n : Int) + 80 := by omega
      go_wp2
      have hj := Hj.out
      go_roundw
      case rel =>
        have hln := Hln.out
        refine ⟨k + 1, by omega, by go_num, ?_, hO.setCell (.inr hle) _⟩
        have e := roomy_set l m k (by omega)
        rw [← e]
        have h2 := hb.set j (.int .u8 (m.toNat : Int))
        rw [hj, ← hln] at h2 ⊢
        have e2 : (bvs (l ++ List.replicate k m ++ List.replicate (80 - k) 0)).set (l.length + k) (.int .u8 (m.toNat : Int)) = bvs ((l ++ List.replicate k m ++ List.replicate (80 - k) 0).set (l.length + k) m) := by
          unfold bvs
          rw [List.map_set]
          rfl
        rw [← e2]
        exact h2
      case measure => simp [intOf]; omega
    · obtain rfl : k = 80 := by omega
      go_wp2
      go_ret
      exact ⟨rfl, by simpa [roomy] using hb, hO⟩

set_option maxRecDepth 100000 in
set_option maxHeartbeats 1000000 in
theorem intact_any (A C : Option Addr) (n c d B B' : Nat) (l : List UInt8) (m : UInt8) (w : World) (hx : Rd w B 1 A (n + 80) (bvs (roomy l m))) (hy : Rd w B' 1 C n (bvs l)) (hn : n ≤ 140737488351232) (hc : n ≤ c) :
    Calls Tryd.prog 19 #[.slice A (n + 80) c, .slice C n d, .int .u8 (m.toNat : Int)] w fun e w' => e = .returned (.bool true) ∧ ∃ k, w' = w.drewN k := by
  have hln : l.length = n := by have := hy.1; rw [bvs_length] at this; omega
  have Hln := Lib.hid hln
  have hx' : Rd w B 1 A n (bvs l) := by
    have h := hx.take (k := n) (by omega)
    rw [Nat.mul_one, bvs_take] at h
    have e : (roomy l m).take n = l := by unfold roomy; rw [List.take_append_of_le_length (by omega), List.take_of_length_le (by omega)]
    rwa [e] at h
  clear hln
  go_enter Tryd.func19, Tryd.ntmps19
  go_wp2_with (fail)
  refine (same_any A C n c n d B B' l l _ hx' hy (by omega)).mono ?_
  rintro e w1 ⟨rfl, k1, rfl⟩
  rw [decide_eq_true (rfl : l = l)]
  go_wp2_with (fail)
  go_loop [7] (fun i => ∃ k : Nat, k ≤ 80 ∧ i = .int .i64 ((n + k : Nat) : Int)) (fun i => n + 80 - (intOf i).toNat)
  case atStart => exact ⟨0, by omega, rfl⟩
  case round =>
    obtain ⟨k, hk, rfl⟩ := hrel
    by_cases hlt : k < 80
    · obtain ⟨j, hj⟩ : ∃ j, j = n + k := ⟨_, rfl⟩
      have hjn : j < n + 80 := by omega
      obtain ⟨g, o, _, _, hix, hcell⟩ := hx.index1 Tryd.underlying22 (by kernel_rfl) hjn
      have hln := Hln.out
      have hm : (bvs (roomy l m))[j]? = some (.int .u8 (m.toNat : Int)) := by
        rw [bvs_get?]
        unfold roomy
        rw [List.getElem?_append_right (by omega), List.getElem?_replicate, if_pos (by omega)]
        rfl
      rw [hm] at hcell
      replace hcell : (w.drewN k1).cell? ⟨g, o, none⟩ = some (.int .u8 (m.toNat : Int)) := hcell
      rw [← hj]
      have Hj := Lib.hid hj
      clear hj hlt hln hm
      have hlt : (j : Int) < (n : Int) + 80 := by omega
      go_wp2
      have hj := Hj.out
      go_round
      case rel => exact ⟨k + 1, by omega, by go_num⟩
      case measure => simp [intOf]; omega
    · obtain rfl : k = 80 := by omega
      clear hx hy hx'
      go_wp2
      go_ret
      exact ⟨rfl, _, rfl⟩

def within (n lo hi : Int) : Int := lo + n % (hi - lo + 1)
theorem within_bd (n lo hi : Int) (h : lo ≤ hi) : lo ≤ within n lo hi ∧ within n lo hi ≤ hi := by
  have h1 := Int.emod_nonneg n (show hi - lo + 1 ≠ 0 by omega)
  have h2 := Int.emod_lt_of_pos n (show 0 < hi - lo + 1 by omega)
  unfold within
  omega
set_option maxRecDepth 100000 in
set_option maxHeartbeats 1000000 in
theorem within_any (n lo hi : Int) (w : World) (hn : -9223372036854775808 ≤ n ∧ n ≤ 9223372036854775807) (h : lo ≤ hi) (hlo : -1000000000000 ≤ lo) (hhi : hi ≤ 1000000000000) :
    Calls Tryd.prog 22 #[.int .i64 n, .int .i64 lo, .int .i64 hi] w fun e w' => e = .returned (.int .i64 (within n lo hi)) ∧ w = w' := by
  obtain ⟨d, hd⟩ : ∃ d, d = hi - lo + 1 := ⟨_, rfl⟩
  have hd0 : 0 < d := by omega
  have hd1 : d ≤ 2000000000001 := by omega
  have e1 := Int.tmod_lt_of_pos n hd0
  have e2 : -d < n.tmod d := Int.lt_tmod_of_pos n hd0
  have hspec : within n lo hi = lo + n % d := by rw [hd]; rfl
  have hmod : n % d = if n.tmod d < 0 then n.tmod d + d else n.tmod d := by
    split
    · rename_i h0
      have h1 : n < 0 := by
        by_cases h1 : n < 0
        · exact h1
        · have := Int.tmod_nonneg d (show 0 ≤ n by omega); omega
      have := Int.emod_eq_tmod (a := n) (b := d)
      rw [this, if_neg (by
        rintro (h2 | h2)
        · omega
        · rw [Int.dvd_iff_tmod_eq_zero] at h2; omega)]
      omega
    · rename_i h0
      have := Int.emod_eq_tmod (a := n) (b := d)
      rw [this]
      by_cases h1 : 0 ≤ n
      · rw [if_pos (.inl h1)]; omega
      · have : n.tmod d ≤ 0 := by
          have h2 := Int.tmod_nonneg d (show 0 ≤ -n by omega)
          rw [Int.neg_tmod] at h2; omega
        rw [if_pos (.inr (by rw [Int.dvd_iff_tmod_eq_zero]; omega))]; omega
  obtain ⟨m, hm⟩ : ∃ m, m = n.tmod d := ⟨_, rfl⟩
  rw [← hm] at hmod e1 e2
  have htm : n.tmod (hi - lo + 1) = m := by rw [← hd]; exact hm.symm
  rw [hspec, hmod]
  have Hd := Lib.hid hd
  clear hspec hmod hm
  by_cases h0 : m < 0
  · rw [if_pos h0]
    have hd2 : hi - lo + 1 ≤ 2000000000001 := by omega
    go_enter Tryd.func22, Tryd.ntmps22
    go_wp2
    go_ret
    exact ⟨ret_int (by have := Hd.out; omega), rfl⟩
  · rw [if_neg h0]
    have hd2 : hi - lo + 1 ≤ 2000000000001 := by omega
    go_enter Tryd.func22, Tryd.ntmps22
    go_wp2
    go_ret
    exact ⟨ret_int (by omega), rfl⟩
end Go.Proofs.YtgohinklnglgeaaDoor
