/- A queue in a row that is gone over round: plain lists, no program. -/
import Derived.Test.YtjjfnepmnjjemaaWd
namespace Go.Proofs.Ytjjfnepmnjjemaa

/-- the ring's queue: 'arr' round from 'at_' on, 'n' bytes -/
def queue (arr : List UInt8) (at_ n : Nat) : List UInt8 := (arr.drop at_ ++ arr.take at_).take n

def rnd (r k : Nat) : Nat := if k < r then k else k - r
theorem rnd_mod {r k : Nat} (h : k < 2 * r) : k % r = rnd r k := by
  unfold rnd
  split
  · rename_i h1; exact Nat.mod_eq_of_lt h1
  · rename_i h1
    rw [Nat.mod_eq_sub_mod (by omega), Nat.mod_eq_of_lt (by omega)]
theorem queue_get (arr : List UInt8) (at_ n j : Nat) (hat : at_ < arr.length) (hn : n ≤ arr.length) (hj : j < n) : (queue arr at_ n)[j]? = arr[rnd arr.length (at_ + j)]? := by
  unfold queue rnd
  rw [List.getElem?_take, if_pos hj, List.getElem?_append]
  simp only [List.length_drop, List.getElem?_drop, List.getElem?_take]
  by_cases h : j < arr.length - at_
  · rw [if_pos h, if_pos (by omega)]
  · rw [if_neg h, if_neg (by omega : ¬ at_ + j < arr.length), if_pos (by omega)]
    congr 1; omega
theorem queue_length (arr : List UInt8) (at_ n : Nat) (hat : at_ < arr.length) (hn : n ≤ arr.length) : (queue arr at_ n).length = n := by
  unfold queue; simp; omega
theorem queue_put (arr bs : List UInt8) (at_ l m v c1 : Nat) (hat : at_ < arr.length) (hl : m + l ≤ arr.length) (hb : m ≤ bs.length) (hv : v = (at_ + l) % arr.length) (hc : c1 = min m (arr.length - v)) :
    queue (lay (lay arr v (bs.take c1)) 0 ((bs.drop c1).take (m - c1))) at_ (l + m) = queue arr at_ l ++ bs.take m := by
  rw [rnd_mod (by omega)] at hv
  have hvr : v < arr.length := by rw [hv]; unfold rnd; split <;> omega
  have hl1 : (lay arr v (bs.take c1)).length = arr.length := length_lay _ _ _ (by rw [List.length_take]; omega)
  have hl2 : (lay (lay arr v (bs.take c1)) 0 ((bs.drop c1).take (m - c1))).length = arr.length := by
    rw [length_lay _ _ _ (by rw [List.length_take, List.length_drop]; omega), hl1]
  apply List.ext_getElem?
  intro j
  by_cases hj : j < l + m
  · rw [queue_get _ _ _ _ (by omega) (by omega) hj, hl2, getElem?_lay _ _ _ (by rw [hl1, List.length_take, List.length_drop]; omega), getElem?_lay _ _ _ (by rw [List.length_take]; omega)]
    simp only [List.length_take, List.length_drop, List.getElem?_append, queue_length _ _ _ hat (show l ≤ arr.length by omega), List.getElem?_take, List.getElem?_drop]
    by_cases hjl : j < l
    · rw [if_pos hjl, queue_get _ _ _ _ hat (by omega) hjl]
      unfold rnd at hv ⊢
      rw [if_neg, if_neg]
      · split at hv <;> split <;> omega
      · split at hv <;> split <;> omega
    · rw [if_neg hjl, if_pos (by omega : j - l < m)]
      unfold rnd at hv ⊢
      by_cases h1 : j - l < c1
      · rw [if_neg, if_pos]
        · split at hv <;> split <;> (first | rw [if_pos (by omega)] | skip) <;> (congr 1; omega)
        · split at hv <;> split <;> omega
        · split at hv <;> split <;> omega
      · rw [if_pos]
        · split at hv <;> split <;> (first | rw [if_pos (by omega)] | skip) <;> (congr 1; omega)
        · split at hv <;> split <;> omega
  · rw [List.getElem?_eq_none (by rw [queue_length _ _ _ (by omega) (by omega)]; omega), List.getElem?_eq_none (by rw [List.length_append, queue_length _ _ _ hat (by omega), List.length_take]; omega)]
theorem queue_take (arr : List UInt8) (at_ n k : Nat) (hk : k ≤ n) : (queue arr at_ n).take k = queue arr at_ k := by
  unfold queue
  rw [List.take_take]
  congr 1; omega
theorem queue_drop (arr : List UInt8) (at_ n k : Nat) (hat : at_ < arr.length) (hn : n ≤ arr.length) (hk : k ≤ n) : (queue arr at_ n).drop k = queue arr ((at_ + k) % arr.length) (n - k) := by
  rw [rnd_mod (by omega)]
  have hr : rnd arr.length (at_ + k) < arr.length ∨ (k = arr.length ∧ at_ + k = arr.length + at_) := by unfold rnd; split <;> omega
  have hrl : rnd arr.length (at_ + k) < arr.length := by unfold rnd; split <;> omega
  apply List.ext_getElem?
  intro j
  rw [List.getElem?_drop]
  by_cases hj : j < n - k
  · rw [queue_get _ _ _ _ hat hn (by omega), queue_get _ _ _ _ hrl (by omega) hj]
    unfold rnd
    congr 1
    split <;> split <;> (try split) <;> omega
  · rw [List.getElem?_eq_none (by rw [queue_length _ _ _ hat hn]; omega), List.getElem?_eq_none (by rw [queue_length _ _ _ hrl (by omega)]; omega)]
/-- what Peek copies: the part up to the row's end, then the row's beginning -/
theorem queue_peek (arr : List UInt8) (at_ k : Nat) (hat : at_ < arr.length) (hk : k ≤ arr.length) :
    (arr.drop at_).take (min k (arr.length - at_)) ++ arr.take (k - min k (arr.length - at_)) = queue arr at_ k := by
  unfold queue
  rw [List.take_append, List.take_take, List.length_drop]
  have e1 : (arr.drop at_).take (min k (arr.length - at_)) = (arr.drop at_).take k := by rw [List.take_eq_take_iff]; simp
  have e2 : k - min k (arr.length - at_) = min (k - (arr.length - at_)) at_ := by omega
  rw [e1, e2]
theorem lay_two {α : Type} (Z X Y : List α) (hZ : Z.length = X.length + Y.length) : lay (lay Z 0 X) X.length Y = X ++ Y := by
  have e : lay Z 0 X = X ++ Z.drop X.length := by simp [lay]
  rw [e]
  unfold lay
  rw [List.take_left' rfl, List.drop_eq_nil_of_le (by simp; omega), List.append_nil]
theorem peek_row (arr : List UInt8) (at_ m c1 : Nat) (Z : List UInt8) (hZ : Z.length = m) (hat : at_ < arr.length) (hm : m ≤ arr.length) (hc : c1 = min (arr.length - at_) m) :
    lay (lay Z 0 ((arr.drop at_).take c1)) c1 (arr.take (m - c1)) = queue arr at_ m := by
  have hc' : c1 = min m (arr.length - at_) := by omega
  have h1 : ((arr.drop at_).take c1).length = c1 := by rw [List.length_take, List.length_drop]; omega
  have h2 := lay_two Z ((arr.drop at_).take c1) (arr.take (m - c1)) (by rw [h1, List.length_take]; omega)
  rw [h1] at h2
  rw [h2, hc', queue_peek arr at_ m hat hm]
theorem queue_take' (arr q : List UInt8) (at_ k m : Nat) (hq : q = queue arr at_ q.length) (hm : m = min k q.length) : q.take k = queue arr at_ m := by
  have h1 : q.take k = q.take m := by rw [List.take_eq_take_iff]; omega
  rw [h1, ← queue_take arr at_ q.length m (by omega), ← hq]
theorem queue_drop' (arr q : List UInt8) (at_ k m : Nat) (hq : q = queue arr at_ q.length) (hm : m = min k q.length) (hat : at_ < arr.length) (hn : q.length ≤ arr.length) :
    q.drop k = queue arr ((at_ + m) % arr.length) (q.length - m) := by
  have h1 : q.drop k = q.drop m := by
    by_cases h : k ≤ q.length
    · congr 1; omega
    · rw [List.drop_eq_nil_of_le (by omega), List.drop_eq_nil_of_le (by omega)]
  rw [h1]
  have h2 := queue_drop arr at_ q.length m hat hn (by omega)
  rw [← hq] at h2
  exact h2
end Go.Proofs.Ytjjfnepmnjjemaa
