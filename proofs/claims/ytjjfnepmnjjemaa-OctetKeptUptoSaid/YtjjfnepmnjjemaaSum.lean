/- Contracts of octet.Sum and its reference. -/
import Derived.Test.YtjjfnepmnjjemaaProg
import Derived.Test.YtjjfnepmnjjemaaWd
import Derived.Laws.BitsAllLaws
namespace Go.Proofs.Ytjjfnepmnjjemaa
open Go.RowKit

def crcStep (x : UInt32) : UInt32 := x >>> 1 ^^^ (0xedb88320 &&& (0 - (x &&& 1)))
def crcSteps : Nat → UInt32 → UInt32
  | 0, x => x
  | n + 1, x => crcStep (crcSteps n x)

theorem u32_lt (x : UInt32) : x.toNat < 4294967296 := x.toNat_lt
theorem crcStep_bits (x : UInt32) : bits .xor .u32 ((x.toNat : Int) / 2) (bits .and .u32 3988292384 (-bits .and .u32 (x.toNat : Int) 1 % 4294967296)) = ((crcStep x).toNat : Int) := by
  have h1 : bits .and .u32 (x.toNat : Int) 1 = ((x.toNat &&& 1 : Nat) : Int) := u32_and_nat x.toNat 1 (u32_lt x) (by omega)
  have hx := u32_lt x
  have h2 : x.toNat &&& 1 ≤ 1 := Nat.and_le_right
  have h3 : -((x.toNat &&& 1 : Nat) : Int) % 4294967296 = (((4294967296 - (x.toNat &&& 1)) % 4294967296 : Nat) : Int) := by
    generalize x.toNat &&& 1 = b at *
    omega
  have h4 : ((x.toNat : Int) / 2) = ((x.toNat / 2 : Nat) : Int) := by omega
  have h5 : (4294967296 - (x.toNat &&& 1)) % 4294967296 < 4294967296 := Nat.mod_lt _ (by omega)
  rw [h1, h3, h4]
  rw [show (3988292384 : Int) = ((3988292384 : Nat) : Int) from rfl, u32_and_nat _ _ (by omega) h5, u32_xor_nat _ _ (by omega) (Nat.lt_of_le_of_lt Nat.and_le_left (by omega))]
  unfold crcStep
  rw [UInt32.toNat_xor, UInt32.toNat_and, UInt32.toNat_sub, UInt32.toNat_and, UInt32.toNat_shiftRight]
  simp [Nat.shiftRight_eq_div_pow]

def tabVal (i : Nat) : UInt32 := crcSteps 8 (UInt32.ofNat i)
/-- the table, its first k places filled -/
def tabRow (k : Nat) : List Value := (List.range 256).map fun i => Value.int .u32 (((if i < k then tabVal i else 0 : UInt32)).toNat : Int)
theorem tabRow_length (k : Nat) : (tabRow k).length = 256 := by simp [tabRow]
theorem tabRow_get (k i : Nat) (h : i < 256) : (tabRow k)[i]? = some (.int .u32 (((if i < k then tabVal i else 0 : UInt32)).toNat : Int)) := by simp [tabRow, h]
theorem tabRow_succ (k : Nat) (h : k < 256) : (tabRow k).set k (.int .u32 ((tabVal k).toNat : Int)) = tabRow (k + 1) := by
  apply List.ext_getElem?
  intro j
  rw [List.getElem?_set, tabRow_length]
  by_cases hj : j < 256
  · rw [tabRow_get _ _ hj, tabRow_get _ _ hj]
    by_cases e : k = j
    · subst e; simp [h]
    · rw [if_neg e]
      by_cases h1 : j < k
      · rw [if_pos h1, if_pos (by omega)]
      · rw [if_neg h1, if_neg (by omega)]
  · rw [if_neg (by omega), List.getElem?_eq_none (by rw [tabRow_length]; omega), List.getElem?_eq_none (by rw [tabRow_length]; omega)]
theorem tab_size (k : Nat) : ((Try.prog.info? 68).map (·.size)) = some (tabRow k).toArray.size := by rw [List.size_toArray, tabRow_length]; kernel_rfl
theorem tab_size2 (j k : Nat) : (tabRow j).toArray.size = (tabRow k).toArray.size := by rw [List.size_toArray, List.size_toArray, tabRow_length, tabRow_length]
theorem tab_one (k : Nat) : (tabRow k).toArray.all (·.oneCell') = true := by
  rw [Array.all_eq_true_iff_forall_mem]
  intro v hv
  obtain ⟨i, _, rfl⟩ := List.mem_map.1 (by simpa using hv : v ∈ tabRow k)
  rfl
theorem table_zero (W : World) : (zeroValue 68).run Try.prog W = .ok (.agg (tabRow 0).toArray) W := by kernel_rfl

set_option maxRecDepth 100000 in
set_option maxHeartbeats 1000000 in
theorem table_any (w : World) : Calls Try.prog 40 #[] w fun e w' => e = .returned (.agg (tabRow 256).toArray) ∧ Only [] w w' := by
  have hz := table_zero
  go_enter Try.func40, Try.ntmps40
  go_wp2_with (fail)
  obtain ⟨h, hh⟩ : ∃ h, h = w.heap.size := ⟨_, rfl⟩
  rw [← hh]
  refine name_it (p := fun y => Code.wp _ _ _ _ y) ?_
  intro wA HwA
  have hbA : Blk wA (h + 1) 68 (tabRow 0) := by rw [HwA.out]; exact Blk.new' _ _ _ (by simp [hh]) rfl
  have hcA : Blk wA h 68 (tabRow 0) := by rw [HwA.out]; exact (Blk.new' _ _ _ hh.symm rfl).alloc _
  have hOA : Only [] w wA := by rw [HwA.out]; exact ((Only.refl _ _).alloc _).alloc _
  have hle : w.heap.size ≤ h := by omega
  clear hh hz HwA
  go_loopw [4] (fun i wr => ∃ k : Nat, k ≤ 256 ∧ i = .int .i64 (k : Int) ∧ Blk wr (h + 1) 68 (tabRow k) ∧ Blk wr h 68 (tabRow 0) ∧ Only [] w wr) (fun i _ => 256 - (intOf i).toNat)
  case atStart => exact ⟨0, by omega, rfl, hbA, hcA, hOA⟩
  case round =>
    obtain ⟨k, hk, rfl, hb, hc, hO⟩ := hrel
    by_cases hlt : k < 256
    · go_wp2
      go_loopw [3, 9] (fun x j wr' => ∃ n : Nat, n ≤ 8 ∧ j = .int .i64 (n : Int) ∧ x = .int .u32 ((crcSteps n (UInt32.ofNat k)).toNat : Int) ∧ wr' = wr) (fun _ j _ => 8 - (intOf j).toNat)
      case atStart =>
        have e : (k : Int) % 4294967296 = ((UInt32.ofNat k).toNat : Int) := by simp
        exact ⟨0, by omega, rfl, by rw [show ((crcSteps 0 (UInt32.ofNat k)).toNat : Int) = (k : Int) % 4294967296 from e.symm, Int.emod_eq_of_lt (by omega) (by omega)], rfl⟩
      case round =>
        obtain ⟨n, hn, rfl, rfl, rfl⟩ := hrel
        by_cases hlt : n < 8
        · go_wp2
          go_roundw
          case rel => exact ⟨n + 1, by omega, by go_num, by rw [crcStep_bits]; rfl, trivial⟩
          case measure => simp [intOf]; omega
        · obtain rfl : n = 8 := by omega
          have h1 : wr.cell? ⟨h + 1, k, none⟩ = some (.int .u32 0) := by rw [hb.cell, tabRow_get _ _ (by omega), if_neg (by omega)]; rfl
          have h2 : wr.frozen? ⟨h + 1, k, none⟩ = false := hb.frozen k
          go_wp2
          go_roundw
          case rel => exact ⟨k + 1, by omega, by go_num, by rw [← tabRow_succ k (by omega)]; exact hb.set k _, hc.far (p := ⟨h + 1, k, none⟩) (by simp) _, hO.setCell (.inr (by show w.heap.size ≤ h + 1; omega)) _⟩
          case measure => simp [intOf]; omega
    · obtain rfl : k = 256 := by omega
      go_wp2_with (first
        | (refine wpList_load_row (o := ⟨some 23, _, _, _, _, _⟩) (by rfl) 68 (.tmp 1) (by rfl) (h + 1) (by rfl) 68 (tabRow 256).toArray (0, 0) _ hb Try.underlying68 (by rfl) (tab_size 256) ?_)
        | (refine wpList_store_row (o := ⟨none, _, _, _, _, _⟩) (by rfl) 68 (.tmp 0) (.tmp 23) (by rfl) h (tabRow 256).toArray (by rfl) (by rfl) 68 (tabRow 0).toArray hc (tab_size 256) (tab_size2 0 256) (tab_one 256) ?_))
      refine bodyPost_ret (v := .agg (tabRow 256).toArray) (results_cell_row (P := Try.prog) (p := 0) rfl _ _ h _ (tabRow 256).toArray (0, 0) _ (by rfl) (hc.setRow _) Try.underlying68 (by rfl) (tab_size 256)) (by rfl) ⟨rfl, ?_⟩
      exact hO.setRow (.inr hle) _

def sumStep (x : UInt32) (c : UInt8) : UInt32 := x >>> 8 ^^^ tabVal ((x.toUInt8 ^^^ c).toNat)
def sumOf (l : List UInt8) : UInt32 := l.foldl sumStep 0xffffffff
theorem sumOf_snoc (l : List UInt8) (c : UInt8) : sumOf (l ++ [c]) = sumStep (sumOf l) c := by simp [sumOf]
theorem sum_idx (x : UInt32) (c : UInt8) : bits .xor .u8 ((x.toNat : Int) % 256) (c.toNat : Int) = ((x.toUInt8 ^^^ c).toNat : Int) := by
  have h1 : ((x.toNat : Int) % 256) = ((x.toNat % 256 : Nat) : Int) := by omega
  have h2 := c.toNat_lt
  rw [h1, u8_xor_nat _ _ (Nat.mod_lt _ (by omega)) (by omega), UInt8.toNat_xor]
  simp
theorem sum_xor (x y : UInt32) : bits .xor .u32 ((x.toNat : Int) / 256) (y.toNat : Int) = ((x >>> 8 ^^^ y).toNat : Int) := by
  have h1 : ((x.toNat : Int) / 256) = ((x.toNat / 256 : Nat) : Int) := by omega
  have h2 := u32_lt x
  rw [h1, u32_xor_nat _ _ (by omega) (u32_lt y), UInt32.toNat_xor, UInt32.toNat_shiftRight]
  simp [Nat.shiftRight_eq_div_pow]
theorem sum_not (x : UInt32) : bits .xor .u32 4294967295 (x.toNat : Int) = ((~~~x).toNat : Int) := by
  have e := u32_xor_nat 4294967295 x.toNat (by omega) (u32_lt x)
  rw [show ((4294967295 : Nat) : Int) = 4294967295 from rfl] at e
  rw [e, show ~~~x = 4294967295 ^^^ x from (UInt32.neg_one_xor (a := x)).symm, UInt32.toNat_xor]
  rfl
theorem take_snoc' {l : List UInt8} {k : Nat} (h : k < l.length) : l.take (k + 1) = l.take k ++ [l[k]] := by rw [List.take_succ_eq_append_getElem h]

set_option maxRecDepth 100000 in
set_option maxHeartbeats 1000000 in
theorem sum_any (A : Option Addr) (n c B : Nat) (l : List UInt8) (w : World) (hs : Rd w w.heap.size 1 A n (bvs l)) (hn : n ≤ 9223372036854775807) :
    Calls Try.prog 27 #[.slice A n c] w fun e w' => e = .returned (.int .u32 ((~~~(sumOf l)).toNat : Int)) ∧ Only [] w w' := by
  have hz := table_zero
  have hln : l.length = n := by have := hs.1; rw [bvs_length] at this; omega
  have Hln := Lib.hid hln; clear hln
  go_enter Try.func27, Try.ntmps27
  go_wp2_with (fail)
  refine (table_any _).mono ?_
  rintro e w1 ⟨rfl, hO1⟩
  go_wp2_with ((refine wpList_store_row (o := ⟨none, _, _, _, _, _⟩) (by rfl) 68 (.tmp 3) (.tmp 7) (by rfl) w1.heap.size (tabRow 256).toArray (by rfl) (by rfl) 68 (tabRow 0).toArray (heap_alloc_new w1 _) (tab_size 256) (tab_size2 0 256) (tab_one 256) ?_))
  clear hz
  obtain ⟨h, hh⟩ : ∃ h, h = w1.heap.size := ⟨_, rfl⟩
  rw [← hh]
  refine name_it (p := fun y => Code.wp _ _ _ _ y) ?_
  intro wA HwA
  have hb : Blk wA h 68 (tabRow 256) := by rw [HwA.out]; exact (show Blk (w1.alloc (.cells (tabRow 0).toArray 68)) h 68 (tabRow 0) from Blk.new' _ _ _ hh.symm rfl).setRow _
  have hO : Only [] w wA := by rw [HwA.out]; exact (hO1.alloc _).setRow (.inr (by have := hO1.size; omega)) _
  have hsA : Rd wA w.heap.size 1 A n (bvs l) := hs.only hO (by simp)
  clear hh hO1 HwA hs
  go_loop [4, 10] (fun x i => ∃ k : Nat, k ≤ n ∧ i = .int .i64 (k : Int) ∧ x = .int .u32 ((sumOf (l.take k)).toNat : Int)) (fun _ i => n - (intOf i).toNat)
  case atStart => exact ⟨0, by omega, rfl, rfl⟩
  case round =>
    obtain ⟨k, hk, rfl, rfl⟩ := hrel
    have hln := Hln.out
    by_cases hlt : k < n
    · obtain ⟨g, o, _, _, hix, hcell⟩ := hsA.index1 Try.underlying26 (by kernel_rfl) hlt
      rw [bvs_get (by omega)] at hcell
      obtain ⟨b, hbk⟩ : ∃ b : UInt8, b = l[k] := ⟨_, rfl⟩
      rw [← hbk] at hcell
      have hsn : sumOf (l.take (k + 1)) = sumStep (sumOf (l.take k)) b := by rw [take_snoc' (by omega), sumOf_snoc, hbk]
      have Hsn := Lib.hid hsn
      clear hsn hbk hln
      obtain ⟨x, hx⟩ : ∃ x, x = sumOf (l.take k) := ⟨_, rfl⟩
      rw [← hx]
      have Hx := Lib.hid hx
      clear hx
      have hidx := sum_idx x b
      have hi8 : (x.toUInt8 ^^^ b).toNat < 256 := (x.toUInt8 ^^^ b).toNat_lt
      obtain ⟨j, hj⟩ : ∃ j, j = (x.toUInt8 ^^^ b).toNat := ⟨_, rfl⟩
      rw [← hj] at hidx hi8
      have ht : wA.cell? ⟨h, j, none⟩ = some (.int .u32 ((tabVal j).toNat : Int)) := by rw [hb.cell, tabRow_get _ _ hi8, if_pos hi8]
      have hxor := sum_xor x (tabVal j)
      have Hj := Lib.hid hj
      clear hj
      go_wp2
      go_round
      case rel => exact ⟨k + 1, by omega, by go_num, by rw [Hsn.out]; unfold sumStep; rw [← Hx.out, ← Hj.out]; simp⟩
      case measure => simp [intOf]; omega
    · obtain rfl : k = n := by omega
      have hnot := sum_not (sumOf l)
      clear hsA
      go_wp2
      go_ret
      refine ⟨?_, hO⟩
      have e : l.take k = l := List.take_of_length_le (by omega)
      refine ret_int ?_
      rw [e, show IntKind.u32.max = 4294967295 by decide, sum_not]
      simp
/-- one bit of a byte, as the reference takes it -/
def refBit (c : UInt8) (k : Nat) (r : UInt32) : UInt32 := if (r &&& 1).toNat ≠ c.toNat / 2 ^ k % 2 then r >>> 1 ^^^ 0xedb88320 else r >>> 1
def refBits (c : UInt8) : Nat → UInt32 → UInt32
  | 0, r => r
  | n + 1, r => refBit c n (refBits c n r)
def refOf (l : List UInt8) : UInt32 := l.foldl (fun r c => refBits c 8 r) 0xffffffff
theorem refOf_snoc (l : List UInt8) (c : UInt8) : refOf (l ++ [c]) = refBits c 8 (refOf l) := by simp [refOf]

theorem ref_half (r : UInt32) : ((r.toNat : Int) / (2 : Int)) = ((r >>> 1).toNat : Int) := by
  rw [UInt32.toNat_shiftRight]
  simp [Nat.shiftRight_eq_div_pow]
theorem ref_poly (r : UInt32) : bits .xor .u32 ((r.toNat : Int) / (2 : Int)) 3988292384 = ((r >>> 1 ^^^ 0xedb88320).toNat : Int) := by
  rw [ref_half, show (3988292384 : Int) = ((3988292384 : Nat) : Int) from rfl, u32_xor_nat _ _ (u32_lt _) (by omega), UInt32.toNat_xor]
  rfl
theorem ref_test (r : UInt32) (b : UInt8) (m : Nat) : (bits .and .u32 (r.toNat : Int) 1 != bits .and .u32 ((b.toNat : Int) / 2 ^ m) 1) = decide ((r &&& 1).toNat ≠ b.toNat / 2 ^ m % 2) := by
  have h0 := b.toNat_lt
  have hd : b.toNat / 2 ^ m ≤ b.toNat := Nat.div_le_self _ _
  have h1 : bits .and .u32 (r.toNat : Int) 1 = ((r.toNat &&& 1 : Nat) : Int) := u32_and_nat r.toNat 1 (u32_lt r) (by omega)
  have h2 : ((b.toNat : Int) / 2 ^ m) = ((b.toNat / 2 ^ m : Nat) : Int) := by simp
  have h3 : bits .and .u32 ((b.toNat / 2 ^ m : Nat) : Int) 1 = ((b.toNat / 2 ^ m &&& 1 : Nat) : Int) := u32_and_nat _ 1 (by omega) (by omega)
  rw [h1, h2, h3, nat_mask1, nat_mask1, UInt32.toNat_and, show (1 : UInt32).toNat = 1 from rfl, nat_mask1]
  generalize r.toNat % 2 = x
  generalize b.toNat / 2 ^ m % 2 = y
  rw [Bool.eq_iff_iff]
  simp
  omega

set_option maxRecDepth 100000 in
set_option maxHeartbeats 1000000 in
theorem refSum_any (A : Option Addr) (n c B : Nat) (l : List UInt8) (w : World) (hs : Rd w w.heap.size 1 A n (bvs l)) (hn : n ≤ 9223372036854775807) :
    Calls Try.prog 28 #[.slice A n c] w fun e w' => e = .returned (.int .u32 ((~~~(refOf l)).toNat : Int)) ∧ w = w' := by
  have hln : l.length = n := by have := hs.1; rw [bvs_length] at this; omega
  have Hln := Lib.hid hln; clear hln
  go_enter Try.func28, Try.ntmps28
  go_wp2_with (fail)
  go_loop [3, 4] (fun x i => ∃ k : Nat, k ≤ n ∧ i = .int .i64 (k : Int) ∧ x = .int .u32 ((refOf (l.take k)).toNat : Int)) (fun _ i => n - (intOf i).toNat)
  case atStart => exact ⟨0, by omega, rfl, rfl⟩
  case round =>
    obtain ⟨k, hk, rfl, rfl⟩ := hrel
    have hln := Hln.out
    by_cases hlt : k < n
    · obtain ⟨g, o, _, _, hix, hcell⟩ := hs.index1 Try.underlying26 (by kernel_rfl) hlt
      rw [bvs_get (by omega)] at hcell
      obtain ⟨b, hbk⟩ : ∃ b : UInt8, b = l[k] := ⟨_, rfl⟩
      rw [← hbk] at hcell
      have hsn : refOf (l.take (k + 1)) = refBits b 8 (refOf (l.take k)) := by rw [take_snoc' (by omega), refOf_snoc, hbk]
      have Hsn := Lib.hid hsn
      clear hsn hbk hln
      have hb8 := b.toNat_lt
      go_wp2_with (fail)
      go_loop [3, 5] (fun x j => ∃ m : Nat, m ≤ 8 ∧ j = .int .i64 (m : Int) ∧ x = .int .u32 ((refBits b m (refOf (l.take k))).toNat : Int)) (fun _ j => 8 - (intOf j).toNat)
      case atStart => exact ⟨0, by omega, rfl, rfl⟩
      case round =>
        obtain ⟨m, hm, rfl, rfl⟩ := hrel
        by_cases hlt : m < 8
        · go_wp2
          all_goals
            go_round
            case rel =>
              refine ⟨m + 1, by omega, by go_num, ?_⟩
              simp only [refBits, refBit]
              first
                | (have ht : (bits .and .u32 ((refBits b m (refOf (l.take k))).toNat : Int) 1 != bits .and .u32 ((b.toNat : Int) / 2 ^ m) 1) = true := by assumption
                   rw [ref_test] at ht
                   rw [if_pos (of_decide_eq_true ht), ref_poly])
                | (have ht : (bits .and .u32 ((refBits b m (refOf (l.take k))).toNat : Int) 1 != bits .and .u32 ((b.toNat : Int) / 2 ^ m) 1) = false := by assumption
                   rw [ref_test] at ht
                   rw [if_neg (of_decide_eq_false ht), ref_half])
            case measure => simp [intOf]; omega
        · obtain rfl : m = 8 := by omega
          go_wp2
          go_round
          case rel => exact ⟨k + 1, by omega, by go_num, by rw [Hsn.out]⟩
          case measure => simp [intOf]; omega
    · obtain rfl : k = n := by omega
      clear hs
      go_wp2
      go_ret
      refine ⟨?_, rfl⟩
      have e : l.take k = l := List.take_of_length_le (by omega)
      refine ret_int ?_
      rw [e, show IntKind.u32.max = 4294967295 by decide, sum_not]
      simp
end Go.Proofs.Ytjjfnepmnjjemaa
