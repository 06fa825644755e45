/- Several texts in one: Chapter 1's runs: the law's helper 'known' answers true; OctetSums, OctetNumbers, OctetGets: the walks.; OctetPuts, OctetBack: the walks. -/
import Derived.Test.YtgohinklnglgeaaDoorPk2
import Derived.Lib.SlBytesConst
set_option linter.unusedVariables false
set_option linter.unusedSimpArgs false
namespace Go.Proofs.YtgohinklnglgeaaDoor
open Go.RowKit

/-- a slice literal of bytes -/
theorem rd_lit (w : World) (t : TypeId) (l : List UInt8) (m : Nat × Nat) (g : Nat) (hg : w.heap.size = g) (A : Array Value) (hA : A.toList = bvs l) (B : Nat) (hB : g < B) : Rd (w.alloc (.cells A t m)) B 1 (some ⟨g, 0, none⟩) l.length (bvs l) := by
  subst hg
  refine ⟨by rw [bvs_length, Nat.mul_one], fun _ => ⟨_, rfl, hB, by simp, rfl, fun j u hu => ?_⟩⟩
  rw [add_lit, cell_of_row _ _ _ _ _ _ (heap_alloc_new w _)]
  rw [← hA] at hu
  simpa using hu
theorem sum_digits : ((~~~(sumOf [49, 50, 51, 52, 53, 54, 55, 56, 57])).toNat : Int) = 3421780262 := by decide +kernel
theorem sum_a : ((~~~(sumOf [97])).toNat : Int) = 3904355907 := by decide +kernel
theorem sum_none : ((~~~(sumOf [])).toNat : Int) = 0 := by decide +kernel

theorem getText_neg (l : List UInt8) (at_ most : Int) (h : most < 0) : ∃ er, getTextVal l at_ most = ([], 0, er) ∧ getTextVal l at_ (-1) = ([], 0, er) := by
  rw [getTextVal_def, getTextVal_def]
  by_cases h0 : (getVal l at_).2.2 ≠ 0
  · rw [if_pos h0, if_pos h0]; exact ⟨_, rfl, rfl⟩
  · rw [if_neg h0, if_neg h0, if_pos (by omega), if_pos (by omega)]; exact ⟨_, rfl, rfl⟩

end Go.Proofs.YtgohinklnglgeaaDoor

set_option linter.unusedVariables false
set_option linter.unusedSimpArgs false
namespace Go.Proofs.YtgohinklnglgeaaDoor
open Go.RowKit

theorem roomy_rd {w w1 : World} {h n : Nat} {l : List UInt8} {m : UInt8} {t : TypeId} (hb1 : Blk w1 h t (bvs (roomy l m))) (hl : l.length = n) :
    Rd w1 w1.heap.size 1 (some ⟨h, 0, none⟩) (n + 80) (bvs (roomy l m)) ∧ Rd w1 w1.heap.size 1 (some ⟨h, 0, none⟩) n (bvs l) := by
  have hf : Rd w1 w1.heap.size 1 (some ⟨h, 0, none⟩) (n + 80) (bvs (roomy l m)) := (Rd.whole hb1 (by rw [bvs_length, roomy, List.length_append, List.length_replicate, hl, Nat.mul_one])).more hb1.lt
  refine ⟨hf, ?_⟩
  have h1 := hf.take (k := n) (by omega)
  rw [Nat.mul_one, bvs_take] at h1
  have e : (roomy l m).take n = l := by unfold roomy; rw [List.take_append_of_le_length (by omega), List.take_of_length_le (by omega)]
  rwa [e] at h1
theorem Rd.go {w w' : World} {B size n : Nat} {A : Option Addr} {xs : List Value} (h : Rd w B size A n xs) (hB : B ≤ w.heap.size) (hO : Only [] w w') : Rd w' w'.heap.size size A n xs := (h.only hO (by simp)).more (Nat.le_trans hB hO.size)

theorem be4_length (x : Nat) : (be4 x).length = 4 := rfl
theorem beN_be4 (x : Nat) (h : x < 4294967296) : beN (be4 x) = x := by
  simp [beN, be4]
  omega
theorem numAt_behind (l r : List UInt8) (x k : Nat) (h : x < 4294967296) (hk : l.length = k) : numAt (l ++ be4 x ++ r) k = x := by
  subst hk
  unfold numAt
  rw [List.append_assoc, List.drop_left, List.take_left' (be4_length x), beN_be4 x h]
theorem getVal_behind (l r : List UInt8) (x k : Nat) (h : x < 4294967296) (hk : l.length = k) : getVal (l ++ be4 x ++ r) (k : Int) = (x, k + 4, 0) := by
  unfold getVal
  have hlen : (l ++ be4 x ++ r).length = k + 4 + r.length := by rw [List.length_append, List.length_append, be4_length, hk]
  rw [if_neg (by omega), if_neg (by omega), Int.toNat_natCast, numAt_behind l r x k h hk]
theorem getText_behind (l r : List UInt8) (s : ByteArray) (k : Nat) (most : Int) (h : s.size < 4294967296) (hk : l.length = k) (hm : (s.size : Int) ≤ most) : getTextVal (l ++ be4 s.size ++ (s.data.toList ++ r)) (k : Int) most = (s.data.toList, k + 4 + s.size, 0) := by
  have hlen : (l ++ be4 s.size ++ (s.data.toList ++ r)).length = k + 4 + s.size + r.length := by
    rw [List.length_append, List.length_append, be4_length, hk, List.length_append, Array.length_toList]
    show _ = k + 4 + s.data.size + r.length
    omega
  rw [getTextVal_def, getVal_behind l _ s.size k h hk]
  simp only
  rw [if_neg (by omega), if_neg (by omega), if_neg (by omega)]
  have e : (l ++ be4 s.size ++ (s.data.toList ++ r)).drop (k + 4) = s.data.toList ++ r := by
    rw [List.drop_left' (by rw [List.length_append, be4_length, hk])]
  rw [e, List.take_left' (by rw [Array.length_toList]; rfl)]

end Go.Proofs.YtgohinklnglgeaaDoor
