/- Contracts of tesserabook's Same, Roomy, Intact at bytes, and Within. -/
import Derived.Test.YtjjfnepmnjjemaaProg
import Derived.Test.YtjjfnepmnjjemaaWd
namespace Go.Proofs.Ytjjfnepmnjjemaa
open Go.RowKit

theorem byteInfo'' : (Try.prog.info? 5).map (fun i => (i.zero, i.size, i.bytes)) = some (some (.int .u8 0), 1, 1) := by kernel_rfl
theorem byte_ne (a b : UInt8) : ((a.toNat : Int) != (b.toNat : Int)) = !decide (a = b) := by
  rw [Bool.eq_iff_iff]
  simp [← UInt8.toNat_inj]
  omega
theorem take_eq_succ {α : Type} {l m : List α} {k : Nat} {a b : α} (hl : l[k]? = some a) (hm : m[k]? = some b) : l.take (k + 1) = m.take (k + 1) ↔ l.take k = m.take k ∧ a = b := by
  have h1 := (List.getElem?_eq_some_iff.1 hl).1
  have h2 := (List.getElem?_eq_some_iff.1 hm).1
  rw [List.take_add_one, List.take_add_one, hl, hm]
  constructor
  · intro h
    have h1 := List.append_inj h (by simp; omega)
    exact ⟨h1.1, by simpa using h1.2⟩
  · rintro ⟨h1, h2⟩
    rw [h1, h2]

set_option maxRecDepth 100000 in
set_option maxHeartbeats 1000000 in
theorem same_any (A C : Option Addr) (n c m d B B' : Nat) (x y : List UInt8) (w : World) (hx : Rd w B 1 A n (bvs x)) (hy : Rd w B' 1 C m (bvs y)) (hn : n ≤ 9223372036854775807) :
    Calls Try.prog 32 #[.slice A n c, .slice C m d] w fun e w' => e = .returned (.bool (decide (x = y))) ∧ ∃ k, w' = w.drewN k := by
  have hxl : x.length = n := by have := hx.1; rw [bvs_length] at this; omega
  have hyl : y.length = m := by have := hy.1; rw [bvs_length] at this; omega
  by_cases hnm : n = m
  · subst hnm
    have Hxl := Lib.hid hxl
    have Hyl := Lib.hid hyl
    clear hxl hyl
    go_enter Try.func32, Try.ntmps32
    go_wp2_with (fail)
    go_loopw [5] (fun i wr => ∃ k : Nat, k ≤ n ∧ i = .int .i64 (k : Int) ∧ x.take k = y.take k ∧ ∃ j, wr = w.drewN j) (fun i _ => n - (intOf i).toNat)
    case atStart => exact ⟨0, by omega, rfl, rfl, 0, rfl⟩
    case round =>
      obtain ⟨k, hk, rfl, heq, j, rfl⟩ := hrel
      have Heq := Lib.hid heq
      clear heq
      have hxl := Hxl.out
      have hyl := Hyl.out
      by_cases hlt : k < n
      · obtain ⟨g, o, _, _, hix, hcell⟩ := hx.index1 Try.underlying26 (by kernel_rfl) hlt
        obtain ⟨g', o', _, _, hiy, hcell'⟩ := hy.index1 Try.underlying26 (by kernel_rfl) hlt
        obtain ⟨a, ha⟩ : ∃ a : UInt8, x[k]? = some a := ⟨_, List.getElem?_eq_getElem (by omega)⟩
        obtain ⟨b, hb⟩ : ∃ b : UInt8, y[k]? = some b := ⟨_, List.getElem?_eq_getElem (by omega)⟩
        rw [bvs_get?, ha, Option.map_some, bv] at hcell
        rw [bvs_get?, hb, Option.map_some, bv] at hcell'
        have Ha := Lib.hid ha
        have Hb := Lib.hid hb
        have hne := byte_ne a b
        clear ha hb hxl hyl
        by_cases hab : a = b
        · have htest : ((a.toNat : Int) != (b.toNat : Int)) = false := by rw [hne]; simp [hab]
          clear hne
          have Hab := Lib.hid hab
          clear hab
          go_wp2_with (fail)
          go_quiet (fail)
          go_wp2
          go_roundw
          case rel => exact ⟨k + 1, by omega, by go_num, (take_eq_succ Ha.out Hb.out).2 ⟨Heq.out, Hab.out⟩, _, rfl⟩
          case measure => simp [intOf]; omega
        · have htest : ((a.toNat : Int) != (b.toNat : Int)) = true := by rw [hne]; simp [hab]
          clear hne
          go_wp2_with (fail)
          go_quiet (fail)
          go_wp2
          go_ret
          refine ⟨ret_bool ?_, _, World.drewN_drewN _ _ _⟩
          symm
          refine decide_eq_false ?_
          rintro rfl
          exact hab (by have h1 := Ha.out; rw [Hb.out] at h1; injection h1 with h1; exact h1.symm)
      · obtain rfl : k = n := by omega
        clear hx hy
        go_wp2
        go_ret
        refine ⟨ret_bool ?_, _, rfl⟩
        have h := Heq.out
        rw [List.take_of_length_le (by omega), List.take_of_length_le (by omega)] at h
        simp [h]
  · have hne : ¬ x = y := by rintro rfl; omega
    have hnm' : ((n : Int) != (m : Int)) = true := by simp; omega
    clear hx hy hxl hyl
    go_enter Try.func32, Try.ntmps32
    go_wp2
    go_ret
    exact ⟨ret_bool (by simp [hne]), 0, rfl⟩

/-- what Roomy lays down: the list, and 80 marks behind it -/
def roomy (l : List UInt8) (m : UInt8) : List UInt8 := l ++ List.replicate 80 m
theorem roomy_set (l : List UInt8) (m : UInt8) (k : Nat) (h : k < 80) : (l ++ List.replicate k m ++ List.replicate (80 - k) 0).set (l.length + k) m = l ++ List.replicate (k + 1) m ++ List.replicate (80 - (k + 1)) 0 := by
  have e : 80 - k = (80 - (k + 1)) + 1 := by omega
  rw [e, List.replicate_succ, List.set_append_right _ _ (by simp)]
  have e2 : l.length + k - (l ++ List.replicate k m).length = 0 := by simp
  rw [e2, List.set_cons_zero, List.replicate_succ', List.append_assoc, List.append_assoc, List.append_assoc]
  rfl

set_option maxRecDepth 100000 in
set_option maxHeartbeats 1000000 in
theorem roomy_any (A : Option Addr) (n c B : Nat) (l : List UInt8) (m : UInt8) (w : World) (hs : Rd w B 1 A n (bvs l)) (hn : n ≤ 140737488351232) :
    Calls Try.prog 20 #[.slice A n c, .int .u8 (m.toNat : Int)] w fun e w' => e = .returned (.slice (some ⟨w.heap.size, 0, none⟩) (n + 80) (n + 80)) ∧ Blk w' w.heap.size 5 (bvs (roomy l m)) ∧ Only [] w w' := by
  obtain ⟨h, hh⟩ : ∃ h, h = w.heap.size := ⟨_, rfl⟩
  rw [← hh]
  have hln : l.length = n := by have := hs.1; rw [bvs_length] at this; omega
  have hmk : ∀ W, (Instr.makeSlice 26 (.int .i64 ((n : Int) + 80)) (.int .i64 ((n : Int) + 80))).run Try.prog W = _ := fun W =>
    run_make_rep1 (P := Try.prog) 26 5 (.int .u8 0) 1 Try.underlying26 byteInfo'' rfl .i64 .i64 (n + 80) (n + 80) (Nat.le_refl _) (by omega) (by omega) W
  have Hln := Lib.hid hln
  clear hln
  go_enter Try.func20, Try.ntmps20
  go_upto_region 2 with (fail)
  rw [← hh]
  refine name_it (p := fun y => Code.wp _ _ _ _ y) ?_
  intro w1 Hw1
  have h1 : Blk w1 h 5 (bvs (List.replicate (n + 80) 0)) := by rw [Hw1.out]; exact Blk.new' _ _ _ hh.symm (by simp [bvs_replicate, bv])
  have hs1 : Rd w1 B 1 A n (bvs l) := by rw [Hw1.out]; exact hs.alloc _
  have hO1 : Only [] w w1 := by rw [Hw1.out]; exact (Only.refl _ _).alloc _
  have hle : w.heap.size ≤ h := by omega
  have hln := Hln.out
  have hcp := run_copy_lay (P := Try.prog) w1 26 26 3 5 Try.underlying26 (by kernel_rfl) (some ⟨h, 0, none⟩) A (n + 80) (n + 80) n c h 0 _ 5 h1 n (bvs l) (by omega) (fun _ => rfl) B hs1
    (by rw [bvs_length, List.length_replicate]; omega) (bvs_one _)
  obtain ⟨w2, hw2⟩ : ∃ w2, w2 = w1.setRow h (lay (bvs (List.replicate (n + 80) 0)) 0 (bvs l)).toArray := ⟨_, rfl⟩
  rw [← hw2] at hcp
  have hb2 : Blk w2 h 5 (bvs (l ++ List.replicate 0 m ++ List.replicate (80 - 0) 0)) := by
    rw [hw2]
    have e : lay (bvs (List.replicate (n + 80) 0)) 0 (bvs l) = bvs (l ++ List.replicate 0 m ++ List.replicate (80 - 0) 0) := by
      rw [bvs_lay]
      congr 1
      unfold lay
      simp [hln]
    rw [e]
    exact h1.setRow _
  have hO2 : Only [] w w2 := by rw [hw2]; exact hO1.setRow (.inr hle) _
  clear hw2 h1 hs1 hs hmk hln hh hO1 Hw1
  go_wp2_with (fail)
  clear hcp
  go_loopw [6] (fun i wr => ∃ k : Nat, k ≤ 80 ∧ i = .int .i64 ((n + k : Nat) : Int) ∧ Blk wr h 5 (bvs (l ++ List.replicate k m ++ List.replicate (80 - k) 0)) ∧ Only [] w wr) (fun i _ => n + 80 - (intOf i).toNat)
  case atStart => exact ⟨0, by omega, rfl, hb2, hO2⟩
  case round =>
    obtain ⟨k, hk, rfl, hb, hO⟩ := hrel
    by_cases hlt : k < 80
    · obtain ⟨j, hj⟩ : ∃ j, j = n + k := ⟨_, rfl⟩
      have hjn : j < n + 80 := by omega
      have hc : wr.cell? ⟨h, j, none⟩ = some (bv 0) := by
        have hln := Hln.out
        rw [hb.cell, bvs_get?, List.getElem?_append_right (by simp; omega), List.getElem?_replicate, if_pos (by simp; omega)]
        rfl
      have hf : wr.frozen? ⟨h, j, none⟩ = false := hb.frozen j
      rw [← hj]
      have Hj := Lib.hid hj
      clear hj hlt
      have hlt : (j : Int) < (n : Int) + 80 := by omega
      go_wp2
      have hj := Hj.out
      go_roundw
      case rel =>
        have hln := Hln.out
        refine ⟨k + 1, by omega, by go_num, ?_, hO.setCell (.inr hle) _⟩
        have e := roomy_set l m k (by omega)
        rw [← e]
        have h2 := hb.set j (.int .u8 (m.toNat : Int))
        rw [hj, ← hln] at h2 ⊢
        have e2 : (bvs (l ++ List.replicate k m ++ List.replicate (80 - k) 0)).set (l.length + k) (.int .u8 (m.toNat : Int)) = bvs ((l ++ List.replicate k m ++ List.replicate (80 - k) 0).set (l.length + k) m) := by
          unfold bvs
          rw [List.map_set]
          rfl
        rw [← e2]
        exact h2
      case measure => simp [intOf]; omega
    · obtain rfl : k = 80 := by omega
      go_wp2
      go_ret
      exact ⟨rfl, by simpa [roomy] using hb, hO⟩

set_option maxRecDepth 100000 in
set_option maxHeartbeats 1000000 in
theorem intact_any (A C : Option Addr) (n c d B B' : Nat) (l : List UInt8) (m : UInt8) (w : World) (hx : Rd w B 1 A (n + 80) (bvs (roomy l m))) (hy : Rd w B' 1 C n (bvs l)) (hn : n ≤ 140737488351232) (hc : n ≤ c) :
    Calls Try.prog 21 #[.slice A (n + 80) c, .slice C n d, .int .u8 (m.toNat : Int)] w fun e w' => e = .returned (.bool true) ∧ ∃ k, w' = w.drewN k := by
  have hln : l.length = n := by have := hy.1; rw [bvs_length] at this; omega
  have Hln := Lib.hid hln
  have hx' : Rd w B 1 A n (bvs l) := by
    have h := hx.take (k := n) (by omega)
    rw [Nat.mul_one, bvs_take] at h
    have e : (roomy l m).take n = l := by unfold roomy; rw [List.take_append_of_le_length (by omega), List.take_of_length_le (by omega)]
    rwa [e] at h
  clear hln
  go_enter Try.func21, Try.ntmps21
  go_wp2_with (fail)
  refine (same_any A C n c n d B B' l l _ hx' hy (by omega)).mono ?_
  rintro e w1 ⟨rfl, k1, rfl⟩
  rw [decide_eq_true (rfl : l = l)]
  go_wp2_with (fail)
  go_loop [7] (fun i => ∃ k : Nat, k ≤ 80 ∧ i = .int .i64 ((n + k : Nat) : Int)) (fun i => n + 80 - (intOf i).toNat)
  case atStart => exact ⟨0, by omega, rfl⟩
  case round =>
    obtain ⟨k, hk, rfl⟩ := hrel
    by_cases hlt : k < 80
    · obtain ⟨j, hj⟩ : ∃ j, j = n + k := ⟨_, rfl⟩
      have hjn : j < n + 80 := by omega
      obtain ⟨g, o, _, _, hix, hcell⟩ := hx.index1 Try.underlying26 (by kernel_rfl) hjn
      have hln := Hln.out
      have hm : (bvs (roomy l m))[j]? = some (.int .u8 (m.toNat : Int)) := by
        rw [bvs_get?]
        unfold roomy
        rw [List.getElem?_append_right (by omega), List.getElem?_replicate, if_pos (by omega)]
        rfl
      rw [hm] at hcell
      replace hcell : (w.drewN k1).cell? ⟨g, o, none⟩ = some (.int .u8 (m.toNat : Int)) := hcell
      rw [← hj]
      have Hj := Lib.hid hj
      clear hj hlt hln hm
      have hlt : (j : Int) < (n : Int) + 80 := by omega
      go_wp2
      have hj := Hj.out
      go_round
      case rel => exact ⟨k + 1, by omega, by go_num⟩
      case measure => simp [intOf]; omega
    · obtain rfl : k = 80 := by omega
      clear hx hy hx'
      go_wp2
      go_ret
      exact ⟨rfl, _, rfl⟩

def within (n lo hi : Int) : Int := lo + n % (hi - lo + 1)
theorem within_bd (n lo hi : Int) (h : lo ≤ hi) : lo ≤ within n lo hi ∧ within n lo hi ≤ hi := by
  have h1 := Int.emod_nonneg n (show hi - lo + 1 ≠ 0 by omega)
  have h2 := Int.emod_lt_of_pos n (show 0 < hi - lo + 1 by omega)
  unfold within
  omega
set_option maxRecDepth 100000 in
set_option maxHeartbeats 1000000 in
theorem within_any (n lo hi : Int) (w : World) (hn : -9223372036854775808 ≤ n ∧ n ≤ 9223372036854775807) (h : lo ≤ hi) (hlo : -1000000000000 ≤ lo) (hhi : hi ≤ 1000000000000) :
    Calls Try.prog 23 #[.int .i64 n, .int .i64 lo, .int .i64 hi] w fun e w' => e = .returned (.int .i64 (within n lo hi)) ∧ w = w' := by
  obtain ⟨d, hd⟩ : ∃ d, d = hi - lo + 1 := ⟨_, rfl⟩
  have hd0 : 0 < d := by omega
  have hd1 : d ≤ 2000000000001 := by omega
  have e1 := Int.tmod_lt_of_pos n hd0
  have e2 : -d < n.tmod d := Int.lt_tmod_of_pos n hd0
  have hspec : within n lo hi = lo + n % d := by rw [hd]; rfl
  have hmod : n % d = if n.tmod d < 0 then n.tmod d + d else n.tmod d := by
    split
    · rename_i h0
      have h1 : n < 0 := by
        by_cases h1 : n < 0
        · exact h1
        · have := Int.tmod_nonneg d (show 0 ≤ n by omega); omega
      have := Int.emod_eq_tmod (a := n) (b := d)
      rw [this, if_neg (by
        rintro (h2 | h2)
        · omega
        · rw [Int.dvd_iff_tmod_eq_zero] at h2; omega)]
      omega
    · rename_i h0
      have := Int.emod_eq_tmod (a := n) (b := d)
      rw [this]
      by_cases h1 : 0 ≤ n
      · rw [if_pos (.inl h1)]; omega
      · have : n.tmod d ≤ 0 := by
          have h2 := Int.tmod_nonneg d (show 0 ≤ -n by omega)
          rw [Int.neg_tmod] at h2; omega
        rw [if_pos (.inr (by rw [Int.dvd_iff_tmod_eq_zero]; omega))]; omega
  obtain ⟨m, hm⟩ : ∃ m, m = n.tmod d := ⟨_, rfl⟩
  rw [← hm] at hmod e1 e2
  have htm : n.tmod (hi - lo + 1) = m := by rw [← hd]; exact hm.symm
  rw [hspec, hmod]
  have Hd := Lib.hid hd
  clear hspec hmod hm
  by_cases h0 : m < 0
  · rw [if_pos h0]
    have hd2 : hi - lo + 1 ≤ 2000000000001 := by omega
    go_enter Try.func23, Try.ntmps23
    go_wp2
    go_ret
    exact ⟨ret_int (by have := Hd.out; omega), rfl⟩
  · rw [if_neg h0]
    have hd2 : hi - lo + 1 ≤ 2000000000001 := by omega
    go_enter Try.func23, Try.ntmps23
    go_wp2
    go_ret
    exact ⟨ret_int (by omega), rfl⟩
end Go.Proofs.Ytjjfnepmnjjemaa
