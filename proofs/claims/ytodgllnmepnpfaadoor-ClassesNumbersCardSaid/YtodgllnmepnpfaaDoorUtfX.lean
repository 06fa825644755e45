/- utf.Replace, the reference's Replace. -/
import Derived.Test.YtodgllnmepnpfaaDoorUtfB
set_option linter.unusedVariables false
set_option linter.unusedSimpArgs false
namespace Go.Proofs.YtodgllnmepnpfaaDoor
open Go.RowKit

def skipS (s : ByteArray) (p : Nat) : Nat := if widthS s p ≠ 0 then widthS s p else if beginsS s p = 0 then 1 else beginsS s p
def outS (s : ByteArray) (p : Nat) : List UInt8 := if widthS s p ≠ 0 then (s.data.toList.drop p).take (widthS s p) else [239, 191, 189]
def replF (s : ByteArray) : Nat → Nat → List UInt8
  | 0, _ => []
  | f + 1, p => if p < s.size then outS s p ++ replF s f (p + skipS s p) else []
def replS (s : ByteArray) : List UInt8 := replF s s.size 0
theorem skip_pos (s : ByteArray) (p : Nat) : 1 ≤ skipS s p := by unfold skipS; (repeat' split) <;> omega
theorem begins_le (s : ByteArray) (p : Nat) (hp : p < s.size) : beginsS s p ≤ s.size - p ∧ beginsS s p ≤ 4 := by
  unfold beginsS
  by_cases h : needN (byteAt s p) = 0
  · rw [if_pos h]; omega
  · rw [if_neg h]
    have hb := fits_bytes (needN (byteAt s p) - 1) (s.size - p) (byteAt s p) (byteAt s (p + 1)) (byteAt s (p + 2)) (byteAt s (p + 3))
    show fitsP (needN (byteAt s p) - 1) (s.size - p) (byteAt s p) (byteAt s (p + 1)) (byteAt s (p + 2)) (byteAt s (p + 3)) ≤ s.size - p ∧ fitsP (needN (byteAt s p) - 1) (s.size - p) (byteAt s p) (byteAt s (p + 1)) (byteAt s (p + 2)) (byteAt s (p + 3)) ≤ 4
    generalize fitsP (needN (byteAt s p) - 1) (s.size - p) (byteAt s p) (byteAt s (p + 1)) (byteAt s (p + 2)) (byteAt s (p + 3)) = k at hb ⊢
    omega
theorem skip_le (s : ByteArray) (p : Nat) (hp : p < s.size) : p + skipS s p ≤ s.size := by
  have h1 := widthS_fits s p hp
  have h2 := begins_le s p hp
  unfold skipS
  by_cases h : widthS s p ≠ 0
  · rw [if_pos h]; exact (h1 h).1
  · rw [if_neg h]; split <;> omega
theorem out_le (s : ByteArray) (p : Nat) : (outS s p).length ≤ 4 := by
  unfold outS
  by_cases h : widthS s p ≠ 0
  · rw [if_pos h, List.length_take]
    have : widthS s p ≤ 4 := by unfold widthS; have := needN_le (byteAt s p); (repeat' split) <;> omega
    omega
  · rw [if_neg h]; simp
theorem replF_more (s : ByteArray) : ∀ (f g p : Nat), s.size ≤ p + f → s.size ≤ p + g → replF s f p = replF s g p
  | 0, 0, p, _, _ => rfl
  | 0, g + 1, p, h, _ => by rw [replF, replF, if_neg (by omega)]
  | f + 1, 0, p, _, h => by rw [replF, replF, if_neg (by omega)]
  | f + 1, g + 1, p, h1, h2 => by
    rw [replF, replF]
    by_cases hp : p < s.size
    · have := skip_pos s p
      rw [if_pos hp, if_pos hp, replF_more s f g _ (by omega) (by omega)]
    · rw [if_neg hp, if_neg hp]
theorem replF_step {s : ByteArray} {p : Nat} (hp : p < s.size) : replF s (s.size - p) p = outS s p ++ replF s (s.size - (p + skipS s p)) (p + skipS s p) := by
  have e : replF s (s.size - p) p = replF s (s.size - (p + 1) + 1) p := by congr 1; omega
  have := skip_pos s p
  rw [e, replF, if_pos hp, replF_more s (s.size - (p + 1)) (s.size - (p + skipS s p)) _ (by omega) (by omega)]

theorem fitsP_min (most n m b0 b1 b2 b3 : Nat) (hn : 1 ≤ n) (hnm : n ≤ m) : n ≤ fitsP most n b0 b1 b2 b3 ↔ n ≤ fitsP most m b0 b1 b2 b3 := by
  unfold fitsP
  cases hs : secondN b0 b1 <;> cases h2 : contN b2 <;> cases h3 : contN b3 <;> simp only [and_true, and_false, Bool.false_eq_true, if_false] <;> (repeat' split) <;> omega
theorem ext_size (s : ByteArray) (p n : Nat) (h : p + n ≤ s.size) : ((s.extract p s.size).extract 0 n).size = n := by simp [ByteArray.size_extract]; omega
theorem ext_get (s : ByteArray) (p n i : Nat) (h : p + n ≤ s.size) (hi : i < n) : (((s.extract p s.size).extract 0 n).get! i).toNat = byteAt s (p + i) := by
  rw [← get_extract s p i, ← Lib.getD_get!', ← Lib.getD_get!']
  have e : ((s.extract p s.size).extract 0 n).data.toList = (s.extract p s.size).data.toList.take n := by
    rw [ByteArray.data_extract, Array.toList_extract]
    show (((s.extract p s.size).data.toList).drop 0).take (n - 0) = _
    simp
  rw [e]
  simp [List.getD, List.getElem?_take, hi]
/-- is a beginning of what stands at a place the beginning of a sequence? -/
theorem begins_pre (s : ByteArray) (p n : Nat) (hn : 1 ≤ n) (h : p + n ≤ s.size) : beginsGo ((s.extract p s.size).extract 0 n) = decide (n ≤ beginsS s p) := by
  have e : beginsGo ((s.extract p s.size).extract 0 n) = !fullN n (byteAt s p) (if 1 < n then byteAt s (p + 1) else (((s.extract p s.size).extract 0 n).get! 1).toNat) (if 2 < n then byteAt s (p + 2) else (((s.extract p s.size).extract 0 n).get! 2).toNat) := by
    unfold beginsGo fullGo
    rw [ext_size s p n h, decide_eq_true (by omega), Bool.true_and, ext_get s p n 0 h (by omega), Nat.add_zero]
    congr 2
    · split
      · rw [ext_get s p n 1 h (by omega)]
      · rfl
    · split
      · rw [ext_get s p n 2 h (by omega)]
      · rfl
  obtain ⟨c1, hc1⟩ : ∃ c, c = (if 1 < n then byteAt s (p + 1) else (((s.extract p s.size).extract 0 n).get! 1).toNat) := ⟨_, rfl⟩
  obtain ⟨c2, hc2⟩ : ∃ c, c = (if 2 < n then byteAt s (p + 2) else (((s.extract p s.size).extract 0 n).get! 2).toNat) := ⟨_, rfl⟩
  rw [← hc1, ← hc2] at e
  have l1 : c1 < 256 := by rw [hc1]; split; exact byte_lt' _ _; exact UInt8.toNat_lt _
  have l2 : c2 < 256 := by rw [hc2]; split; exact byte_lt' _ _; exact UInt8.toNat_lt _
  have hf := fullN_iff n (byteAt s p) c1 c2 (byteAt s (p + 3)) hn (byte_lt' _ _) l1 l2 (byte_lt' _ _)
  have hsame : fitsP (needN (byteAt s p) - 1) n (byteAt s p) c1 c2 (byteAt s (p + 3)) = fitsP (needN (byteAt s p) - 1) n (byteAt s p) (byteAt s (p + 1)) (byteAt s (p + 2)) (byteAt s (p + 3)) := by
    unfold fitsP
    by_cases g1 : 1 < n
    · rw [if_pos g1] at hc1
      rw [hc1]
      by_cases g2 : 2 < n
      · rw [if_pos g2] at hc2; rw [hc2]
      · simp [g2]
    · simp [g1]
  have hmin := fitsP_min (needN (byteAt s p) - 1) n (s.size - p) (byteAt s p) (byteAt s (p + 1)) (byteAt s (p + 2)) (byteAt s (p + 3)) hn (by omega)
  have hb := fits_bytes (needN (byteAt s p) - 1) n (byteAt s p) (byteAt s (p + 1)) (byteAt s (p + 2)) (byteAt s (p + 3))
  rw [e, Bool.eq_iff_iff, Bool.not_eq_true', hf, hsame, decide_eq_true_eq]
  unfold beginsS
  by_cases h0 : needN (byteAt s p) = 0
  · rw [if_pos h0]; simp [h0]; omega
  · rw [if_neg h0]
    show _ ↔ n ≤ fitsP (needN (byteAt s p) - 1) (s.size - p) (byteAt s p) (byteAt s (p + 1)) (byteAt s (p + 2)) (byteAt s (p + 3))
    rw [← hmin]
    generalize fitsP (needN (byteAt s p) - 1) n (byteAt s p) (byteAt s (p + 1)) (byteAt s (p + 2)) (byteAt s (p + 3)) = k at hb ⊢
    simp [h0]
    omega
theorem ext_ext (s : ByteArray) (p n : Nat) (h : p + n ≤ s.size) : (s.extract p s.size).extract n (s.extract p s.size).size = s.extract (p + n) s.size := by
  apply ByteArray.ext
  rw [ByteArray.data_extract, ByteArray.data_extract, ByteArray.data_extract, Array.extract_extract]
  congr 1
  simp [ByteArray.size_extract]
  omega
theorem bad_width (s : ByteArray) (p : Nat) (hp : p < s.size) : isBad (Utf8.decode s p) = decide (widthS s p = 0) := by
  by_cases h : widthS s p = 0
  · rw [(dec_eq s p hp).2 h.symm, h]; rfl
  · rw [(dec_eq s p hp).1 h, decide_eq_false h]
    unfold isBad
    apply decide_eq_false
    rintro ⟨g1, g2⟩
    simp only at g1 g2
    have hb : byteAt s p < 256 := byte_lt' _ _
    rw [g2] at g1
    unfold readS readP at g1
    rw [if_pos rfl] at g1
    omega
theorem dec_width (s : ByteArray) (p : Nat) (hp : p < s.size) : (Utf8.decode s p).2 = if widthS s p = 0 then 1 else widthS s p := by
  by_cases h : widthS s p = 0
  · rw [(dec_eq s p hp).2 h.symm, h]; rfl
  · rw [(dec_eq s p hp).1 h, if_neg h]
/-- a good item's rune is written as its bytes; a bad one as U+FFFD -/
theorem enc_out (s : ByteArray) (p : Nat) (hp : p < s.size) : Lib.encodeRune ((Utf8.decode s p).1 : Int) = outS s p := by
  unfold outS
  by_cases h : widthS s p = 0
  · rw [if_neg (by simp [h]), (dec_eq s p hp).2 h.symm]; rfl
  · rw [if_pos h]
    have e := (dec_eq s p hp).1 h
    have hne : s.data.toList.drop p ≠ [] := by
      intro h0
      have := congrArg List.length h0
      rw [List.length_drop, ← Lib.size_eq] at this
      simp at this; omega
    have hnb : ¬ ((Lib.decodeL (s.data.toList.drop p)).1 = 65533 ∧ (Lib.decodeL (s.data.toList.drop p)).2 = 1) := by
      rw [Lib.decodeL_drop, e]
      rintro ⟨g1, g2⟩
      simp only at g1 g2
      have hb : byteAt s p < 256 := byte_lt' _ _
      rw [g2] at g1
      unfold readS readP at g1
      rw [if_pos rfl] at g1
      omega
    have := Lib.encode_decode _ hne hnb
    rw [Lib.decodeL_drop, e] at this
    rw [e]
    exact this
end Go.Proofs.YtodgllnmepnpfaaDoor
