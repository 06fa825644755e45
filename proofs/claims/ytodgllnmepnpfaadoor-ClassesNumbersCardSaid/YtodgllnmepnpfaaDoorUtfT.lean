/- utf.Tail. -/
import Derived.Test.YtodgllnmepnpfaaDoorUtfC
set_option linter.unusedVariables false
set_option linter.unusedSimpArgs false
namespace Go.Proofs.YtodgllnmepnpfaaDoor
open Go.RowKit

def tailFrom (s : ByteArray) : Nat → Nat
  | 0 => 0
  | n + 1 => if beginsGo (s.extract (s.size - (n + 1)) s.size) = true then n + 1 else tailFrom s n
def tailU (s : ByteArray) : Nat := tailFrom s (min 3 s.size)

/-! ### the plain law: what is held -/
def Held (s : ByteArray) (q : Nat) : Prop := q < s.size ∧ beginsS s q = s.size - q
theorem get_extract (s : ByteArray) (q i : Nat) : ((s.extract q s.size).get! i).toNat = byteAt s (q + i) := by
  unfold byteAt
  rw [← Lib.getD_get!', ← Lib.getD_get!']
  have e : (s.extract q s.size).data.toList = s.data.toList.drop q := by
    rw [ByteArray.data_extract, Array.toList_extract]
    show ((s.data.toList).drop q).take (s.size - q) = _
    exact List.take_of_length_le (by rw [List.length_drop, ← Lib.size_eq]; omega)
  rw [e, Lib.getD_dropU]
theorem begins_held (s : ByteArray) (q : Nat) (hq : q < s.size) : beginsGo (s.extract q s.size) = true ↔ Held s q := by
  have hsz : (s.extract q s.size).size = s.size - q := by simp [ByteArray.size_extract]
  have hf := fullN_iff (s.size - q) (byteAt s q) (byteAt s (q + 1)) (byteAt s (q + 2)) (byteAt s (q + 3)) (by omega) (byte_lt' _ _) (byte_lt' _ _) (byte_lt' _ _) (byte_lt' _ _)
  have e : beginsGo (s.extract q s.size) = !fullN (s.size - q) (byteAt s q) (byteAt s (q + 1)) (byteAt s (q + 2)) := by
    unfold beginsGo fullGo
    rw [hsz, decide_eq_true (by omega), Bool.true_and, get_extract, get_extract, get_extract, Nat.add_zero]
  rw [e, Bool.not_eq_true', hf]
  unfold Held beginsS
  constructor
  · rintro ⟨h1, h2⟩
    exact ⟨hq, by rw [if_neg h1]; exact h2⟩
  · rintro ⟨_, h2⟩
    by_cases h1 : needN (byteAt s q) = 0
    · rw [if_pos h1] at h2; omega
    · rw [if_neg h1] at h2; exact ⟨h1, h2⟩
theorem Held.parts {s : ByteArray} {q : Nat} (h : Held s q) : needN (byteAt s q) ≠ 0 ∧ fitsS s q (needN (byteAt s q) - 1) = s.size - q := by
  obtain ⟨h1, h2⟩ := h
  unfold beginsS at h2
  by_cases h3 : needN (byteAt s q) = 0
  · rw [if_pos h3] at h2; omega
  · rw [if_neg h3] at h2; exact ⟨h3, h2⟩
theorem need_lead {c : Nat} (h : needN c ≠ 0) : 194 ≤ c := by
  unfold needN at h; (repeat' split at h) <;> omega
theorem need_two {c : Nat} (h : needN c ≠ 0) : 2 ≤ needN c := by
  unfold needN at h ⊢; (repeat' split) <;> simp_all
theorem sec_cont {c d : Nat} (h : secondN c d = true) : 128 ≤ d ∧ d ≤ 191 := by
  have := (secondN_iff c d).1 h
  unfold secLo secHi at this
  (repeat' split at this) <;> omega
/-- what fits says of the bytes behind the first -/
theorem fits_bytes (most m b0 b1 b2 b3 : Nat) :
    (2 ≤ fitsP most m b0 b1 b2 b3 → 1 < most ∧ 1 < m ∧ 128 ≤ b1 ∧ b1 ≤ 191) ∧ (3 ≤ fitsP most m b0 b1 b2 b3 → 2 < most ∧ 2 < m ∧ 128 ≤ b2 ∧ b2 ≤ 191) ∧ (4 ≤ fitsP most m b0 b1 b2 b3 → 3 < most ∧ 3 < m ∧ 128 ≤ b3 ∧ b3 ≤ 191) ∧ fitsP most m b0 b1 b2 b3 ≤ 4 ∧ 1 ≤ fitsP most m b0 b1 b2 b3 := by
  unfold fitsP
  by_cases h1 : 1 < most ∧ 1 < m ∧ secondN b0 b1 = true
  · have k1 := sec_cont h1.2.2
    rw [if_pos h1]
    by_cases h2 : 2 < most ∧ 2 < m ∧ contN b2 = true
    · have k2 := (contN_iff _).1 h2.2.2
      rw [if_pos h2]
      by_cases h3 : 3 < most ∧ 3 < m ∧ contN b3 = true
      · have k3 := (contN_iff _).1 h3.2.2
        rw [if_pos h3]; omega
      · rw [if_neg h3]; omega
    · rw [if_neg h2]; omega
  · rw [if_neg h1]; omega
theorem Held.cont {s : ByteArray} {q : Nat} (h : Held s q) : s.size - q ≤ 3 ∧ ∀ i, q < i → i < s.size → 128 ≤ byteAt s i ∧ byteAt s i ≤ 191 := by
  obtain ⟨h1, h2⟩ := h.parts
  have hq := h.1
  have hb := fits_bytes (needN (byteAt s q) - 1) (s.size - q) (byteAt s q) (byteAt s (q + 1)) (byteAt s (q + 2)) (byteAt s (q + 3))
  have hn := needN_le (byteAt s q)
  have h2' : fitsP (needN (byteAt s q) - 1) (s.size - q) (byteAt s q) (byteAt s (q + 1)) (byteAt s (q + 2)) (byteAt s (q + 3)) = s.size - q := h2
  rw [h2'] at hb
  refine ⟨by omega, fun i h3 h4 => ?_⟩
  rcases (show i = q + 1 ∨ i = q + 2 ∨ i = q + 3 by omega) with rfl | rfl | rfl
  · have := hb.1 (by omega); omega
  · have := hb.2.1 (by omega); omega
  · have := hb.2.2.1 (by omega); omega
theorem Held.width {s : ByteArray} {q : Nat} (h : Held s q) : 0 = widthS s q := by
  obtain ⟨h1, h2⟩ := h.parts
  have h3 := need_lead h1
  have h4 := need_two h1
  have hc := h.cont
  have hq := h.1
  unfold widthS
  rw [if_neg (by omega), if_pos]
  refine .inr ?_
  have hb := fits_bytes (needN (byteAt s q)) (s.size - q) (byteAt s q) (byteAt s (q + 1)) (byteAt s (q + 2)) (byteAt s (q + 3))
  have hb2 := fits_bytes (needN (byteAt s q) - 1) (s.size - q) (byteAt s q) (byteAt s (q + 1)) (byteAt s (q + 2)) (byteAt s (q + 3))
  have h2' : fitsP (needN (byteAt s q) - 1) (s.size - q) (byteAt s q) (byteAt s (q + 1)) (byteAt s (q + 2)) (byteAt s (q + 3)) = s.size - q := h2
  rw [h2'] at hb2
  show fitsP (needN (byteAt s q)) (s.size - q) (byteAt s q) (byteAt s (q + 1)) (byteAt s (q + 2)) (byteAt s (q + 3)) < needN (byteAt s q)
  generalize fitsP (needN (byteAt s q)) (s.size - q) (byteAt s q) (byteAt s (q + 1)) (byteAt s (q + 2)) (byteAt s (q + 3)) = k at hb ⊢
  generalize needN (byteAt s q) = n at h1 h4 hb hb2 ⊢
  generalize s.size - q = m at hb hb2 ⊢
  omega
theorem width_cont {s : ByteArray} {p : Nat} (hk : widthS s p ≠ 0) : ∀ i, p < i → i < p + widthS s p → 128 ≤ byteAt s i ∧ byteAt s i ≤ 191 := by
  intro i h1 h2
  unfold widthS at hk h2
  by_cases c : byteAt s p < 128
  · rw [if_pos c] at h2; omega
  · rw [if_neg c] at hk h2
    by_cases c2 : needN (byteAt s p) = 0 ∨ fitsS s p (needN (byteAt s p)) < needN (byteAt s p)
    · rw [if_pos c2] at hk; omega
    · rw [if_neg c2] at h2
      have hb := fits_bytes (needN (byteAt s p)) (s.size - p) (byteAt s p) (byteAt s (p + 1)) (byteAt s (p + 2)) (byteAt s (p + 3))
      have hn := needN_le (byteAt s p)
      have c3 : ¬ fitsP (needN (byteAt s p)) (s.size - p) (byteAt s p) (byteAt s (p + 1)) (byteAt s (p + 2)) (byteAt s (p + 3)) < needN (byteAt s p) := fun h => c2 (.inr h)
      rcases (show i = p + 1 ∨ i = p + 2 ∨ i = p + 3 by omega) with rfl | rfl | rfl
      · have := hb.1 (by omega); omega
      · have := hb.2.1 (by omega); omega
      · have := hb.2.2.1 (by omega); omega
theorem Held.end_ {s : ByteArray} {q : Nat} (h : Held s q) : ∀ (d p : Nat), p + d = q → (complF s (s.size - p) p).2 = q := by
  intro d
  induction d using Nat.strongRecOn with
  | ind d ih =>
    intro p hp
    have hq := h.1
    have hlead := need_lead h.parts.1
    by_cases h0 : d = 0
    · subst h0
      obtain rfl : p = q := by omega
      rw [complF_held hq h.width h.2]
    · by_cases hk : widthS s p = 0
      · by_cases hb : beginsS s p = s.size - p
        · exfalso
          have := (show Held s p from ⟨by omega, hb⟩).cont.2 q (by omega) hq
          omega
        · rw [complF_bad (by omega) hk.symm hb]
          exact ih (d - 1) (by omega) (p + 1) (by omega)
      · have hw := widthS_fits s p (by omega) hk
        rw [complF_good (by omega) rfl hk]
        by_cases hle : p + widthS s p ≤ q
        · exact ih (d - widthS s p) (by omega) _ (by omega)
        · exfalso
          have := width_cont hk q (by omega) (by omega)
          omega
theorem no_held {s : ByteArray} (hn : ∀ q, ¬ Held s q) : ∀ (d p : Nat), p + d = s.size → (complF s (s.size - p) p).2 = s.size := by
  intro d
  induction d using Nat.strongRecOn with
  | ind d ih =>
    intro p hp
    by_cases h0 : d = 0
    · subst h0
      obtain rfl : p = s.size := by omega
      rw [Nat.sub_self]; rfl
    · by_cases hk : widthS s p = 0
      · by_cases hb : beginsS s p = s.size - p
        · exact absurd ⟨by omega, hb⟩ (hn p)
        · rw [complF_bad (by omega) hk.symm hb]
          exact ih (d - 1) (by omega) (p + 1) (by omega)
      · have hw := widthS_fits s p (by omega) hk
        rw [complF_good (by omega) rfl hk]
        exact ih (d - widthS s p) (by omega) _ (by omega)
theorem tailFrom_none {s : ByteArray} (hn : ∀ q, ¬ Held s q) : ∀ n, n ≤ s.size → tailFrom s n = 0
  | 0, _ => rfl
  | n + 1, h => by rw [tailFrom, if_neg (by rw [begins_held s _ (by omega)]; exact hn _)]; exact tailFrom_none hn n (by omega)
theorem tailFrom_held {s : ByteArray} {q : Nat} (h : Held s q) : ∀ n, n ≤ s.size → s.size - q ≤ n → tailFrom s n = s.size - q
  | 0, _, h2 => by have := h.1; omega
  | n + 1, h1, h2 => by
    have hq := h.1
    rw [tailFrom]
    by_cases hk : s.size - (n + 1) = q
    · rw [if_pos (by rw [begins_held s _ (by omega), hk]; exact h)]; omega
    · rw [if_neg]
      · exact tailFrom_held h n (by omega) (by omega)
      · rw [begins_held s _ (by omega)]
        intro h'
        have e1 := h.end_ q 0 (by omega)
        have e2 := h'.end_ (s.size - (n + 1)) 0 (by omega)
        omega
/-- utf.Tail tells what the reference's Complete holds -/
theorem tailU_eq (s : ByteArray) : tailU s = s.size - (complS s).2 := by
  unfold tailU complS
  by_cases hx : ∃ q, Held s q
  · obtain ⟨q, h⟩ := hx
    have h1 := h.end_ q 0 (by omega)
    rw [Nat.sub_zero] at h1
    rw [h1, tailFrom_held h _ (by omega) (by have := h.cont.1; have := h.1; omega)]
  · have hn : ∀ q, ¬ Held s q := fun q h => hx ⟨q, h⟩
    have h1 := no_held hn s.size 0 (by omega)
    rw [Nat.sub_zero] at h1
    rw [h1, tailFrom_none hn _ (by omega), Nat.sub_self]
end Go.Proofs.YtodgllnmepnpfaaDoor
