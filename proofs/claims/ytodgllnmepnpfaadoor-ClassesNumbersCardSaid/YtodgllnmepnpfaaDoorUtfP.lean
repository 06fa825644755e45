/- Chapter 2 in plain numbers: the reference's Width, read, Begins against the model's own decoding and FullRune. -/
import Derived.Test.YtodgllnmepnpfaaDoorUtfW
import Derived.Lib.TrimUEq
set_option linter.unusedVariables false
set_option linter.unusedSimpArgs false
namespace Go.Proofs.YtodgllnmepnpfaaDoor
open Go.RowKit

def widthP (m b0 b1 b2 b3 : Nat) : Nat := if b0 < 128 then 1 else if needN b0 = 0 ∨ fitsP (needN b0) m b0 b1 b2 b3 < needN b0 then 0 else needN b0
theorem secondN_iff (c d : Nat) : secondN c d = true ↔ secLo c ≤ d ∧ d ≤ secHi c := by unfold secondN; simp
theorem contN_iff (d : Nat) : contN d = true ↔ 128 ≤ d ∧ d ≤ 191 := by unfold contN; simp

theorem fitsP_1 {most m b0 b1 b2 b3 : Nat} (h : ¬ (1 < most ∧ 1 < m ∧ secondN b0 b1 = true)) : fitsP most m b0 b1 b2 b3 = 1 := by unfold fitsP; rw [if_neg h]
theorem fitsP_2 {most m b0 b1 b2 b3 : Nat} (h : 1 < most ∧ 1 < m ∧ secondN b0 b1 = true) (h2 : ¬ (2 < most ∧ 2 < m ∧ contN b2 = true)) : fitsP most m b0 b1 b2 b3 = 2 := by unfold fitsP; rw [if_pos h, if_neg h2]
theorem fitsP_3 {most m b0 b1 b2 b3 : Nat} (h : 1 < most ∧ 1 < m ∧ secondN b0 b1 = true) (h2 : 2 < most ∧ 2 < m ∧ contN b2 = true) (h3 : ¬ (3 < most ∧ 3 < m ∧ contN b3 = true)) : fitsP most m b0 b1 b2 b3 = 3 := by unfold fitsP; rw [if_pos h, if_pos h2, if_neg h3]
theorem fitsP_4 {most m b0 b1 b2 b3 : Nat} (h : 1 < most ∧ 1 < m ∧ secondN b0 b1 = true) (h2 : 2 < most ∧ 2 < m ∧ contN b2 = true) (h3 : 3 < most ∧ 3 < m ∧ contN b3 = true) : fitsP most m b0 b1 b2 b3 = 4 := by unfold fitsP; rw [if_pos h, if_pos h2, if_pos h3]
theorem widthP_yes {m b0 b1 b2 b3 n : Nat} (c1 : ¬ b0 < 128) (en : needN b0 = n) (hn : n ≠ 0) (hf : fitsP n m b0 b1 b2 b3 = n) : widthP m b0 b1 b2 b3 = n := by unfold widthP; rw [if_neg c1, en, hf, if_neg (by omega)]
theorem widthP_no {m b0 b1 b2 b3 n k : Nat} (c1 : ¬ b0 < 128) (en : needN b0 = n) (hf : fitsP n m b0 b1 b2 b3 = k) (hk : k < n) : widthP m b0 b1 b2 b3 = 0 := by unfold widthP; rw [if_neg c1, en, hf, if_pos (by omega)]
theorem no_of {a b : Prop} {c : Bool} {q : Prop} (h : c = true ↔ q) (hn : ¬ (a ∧ q)) : ¬ (b ∧ a ∧ c = true) := fun x => hn ⟨x.2.1, h.1 x.2.2⟩

set_option maxHeartbeats 4000000 in
theorem widthP_dec (m b0 b1 b2 b3 : Nat) (hm : 1 ≤ m) (h0 : b0 < 256) (h1 : b1 < 256) (h2 : b2 < 256) (h3 : b3 < 256) :
    (widthP m b0 b1 b2 b3 ≠ 0 → Lib.decodeN m b0 b1 b2 b3 = (readP (widthP m b0 b1 b2 b3) b0 b1 b2 b3, widthP m b0 b1 b2 b3) ∧ widthP m b0 b1 b2 b3 ≤ m) ∧
    (widthP m b0 b1 b2 b3 = 0 → Lib.decodeN m b0 b1 b2 b3 = (65533, 1)) := by
  by_cases c1 : b0 < 128
  · have e : widthP m b0 b1 b2 b3 = 1 := by unfold widthP; rw [if_pos c1]
    rw [e]
    exact ⟨fun _ => ⟨by unfold Lib.decodeN; rw [if_pos c1]; rfl, hm⟩, fun h => by cases h⟩
  by_cases c2 : 194 ≤ b0 ∧ b0 ≤ 223
  · have en : needN b0 = 2 := by unfold needN; rw [if_pos c2]
    have es : secondN b0 b1 = true ↔ 128 ≤ b1 ∧ b1 ≤ 191 := by rw [secondN_iff]; unfold secLo secHi; (repeat' split) <;> omega
    by_cases hf : 1 < m ∧ 128 ≤ b1 ∧ b1 ≤ 191
    · have e : widthP m b0 b1 b2 b3 = 2 := by
        exact widthP_yes c1 en (by omega) (fitsP_2 ⟨by omega, hf.1, es.2 hf.2⟩ (by omega))
      rw [e]
      refine ⟨fun _ => ⟨?_, by omega⟩, fun h => by cases h⟩
      unfold Lib.decodeN readP
      rw [if_neg c1, if_pos (by omega), if_pos (by omega), if_neg (by omega), if_pos rfl]
    · have e : widthP m b0 b1 b2 b3 = 0 := by
        exact widthP_no c1 en (fitsP_1 (no_of es hf)) (by omega)
      rw [e]
      refine ⟨fun h => absurd rfl h, fun _ => ?_⟩
      unfold Lib.decodeN
      rw [if_neg c1, if_neg (by omega), if_neg (by omega), if_neg (by omega)]
  by_cases c3 : 224 ≤ b0 ∧ b0 ≤ 239
  · have en : needN b0 = 3 := by unfold needN; rw [if_neg c2, if_pos c3]
    by_cases hf : 1 < m ∧ (secLo b0 ≤ b1 ∧ b1 ≤ secHi b0) ∧ 2 < m ∧ 128 ≤ b2 ∧ b2 ≤ 191
    · have e : widthP m b0 b1 b2 b3 = 3 := by
        exact widthP_yes c1 en (by omega) (fitsP_3 ⟨by omega, hf.1, (secondN_iff _ _).2 hf.2.1⟩ ⟨by omega, hf.2.2.1, (contN_iff _).2 hf.2.2.2⟩ (by omega))
      rw [e]
      refine ⟨fun _ => ⟨?_, by omega⟩, fun h => by cases h⟩
      obtain ⟨g1, g2, g3, g4⟩ := hf
      unfold secLo secHi at g2
      unfold Lib.decodeN readP
      rw [if_neg c1, if_neg (by omega), if_pos (by (repeat' split at g2) <;> omega), if_pos (by (repeat' split at g2) <;> omega), if_neg (by omega), if_neg (by omega), if_pos rfl]
    · have e : widthP m b0 b1 b2 b3 = 0 := by
        by_cases k1 : 1 < m ∧ secondN b0 b1 = true
        · exact widthP_no c1 en (fitsP_2 ⟨by omega, k1⟩ (fun x => hf ⟨k1.1, (secondN_iff _ _).1 k1.2, x.2.1, (contN_iff _).1 x.2.2⟩)) (by omega)
        · exact widthP_no c1 en (fitsP_1 (fun x => k1 x.2)) (by omega)
      rw [e]
      refine ⟨fun h => absurd rfl h, fun _ => ?_⟩
      unfold secLo secHi at hf
      unfold Lib.decodeN
      rw [if_neg c1, if_neg (by omega)]
      by_cases k : (1 < m ∧ b1 / 64 = 2) ∧ (2 < m ∧ b2 / 64 = 2)
      · rw [if_pos (by omega), if_neg]
        (repeat' split at hf) <;> omega
      · rw [if_neg (by omega), if_neg (by omega)]
  by_cases c4 : 240 ≤ b0 ∧ b0 ≤ 244
  · have en : needN b0 = 4 := by unfold needN; rw [if_neg c2, if_neg c3, if_pos c4]
    by_cases hf : 1 < m ∧ (secLo b0 ≤ b1 ∧ b1 ≤ secHi b0) ∧ 2 < m ∧ (128 ≤ b2 ∧ b2 ≤ 191) ∧ 3 < m ∧ 128 ≤ b3 ∧ b3 ≤ 191
    · have e : widthP m b0 b1 b2 b3 = 4 := by
        exact widthP_yes c1 en (by omega) (fitsP_4 ⟨by omega, hf.1, (secondN_iff _ _).2 hf.2.1⟩ ⟨by omega, hf.2.2.1, (contN_iff _).2 hf.2.2.2.1⟩ ⟨by omega, hf.2.2.2.2.1, (contN_iff _).2 hf.2.2.2.2.2⟩)
      rw [e]
      refine ⟨fun _ => ⟨?_, by omega⟩, fun h => by cases h⟩
      obtain ⟨g1, g2, g3, g4, g5, g6⟩ := hf
      unfold secLo secHi at g2
      unfold Lib.decodeN readP
      rw [if_neg c1, if_neg (by omega), if_neg (by omega), if_pos (by (repeat' split at g2) <;> omega), if_pos (by (repeat' split at g2) <;> omega), if_neg (by omega), if_neg (by omega), if_neg (by omega)]
    · have e : widthP m b0 b1 b2 b3 = 0 := by
        by_cases k1 : 1 < m ∧ secondN b0 b1 = true
        · by_cases k2 : 2 < m ∧ contN b2 = true
          · exact widthP_no c1 en (fitsP_3 ⟨by omega, k1⟩ ⟨by omega, k2⟩ (fun x => hf ⟨k1.1, (secondN_iff _ _).1 k1.2, k2.1, (contN_iff _).1 k2.2, x.2.1, (contN_iff _).1 x.2.2⟩)) (by omega)
          · exact widthP_no c1 en (fitsP_2 ⟨by omega, k1⟩ (fun x => k2 x.2)) (by omega)
        · exact widthP_no c1 en (fitsP_1 (fun x => k1 x.2)) (by omega)
      rw [e]
      refine ⟨fun h => absurd rfl h, fun _ => ?_⟩
      unfold secLo secHi at hf
      unfold Lib.decodeN
      rw [if_neg c1, if_neg (by omega), if_neg (by omega)]
      by_cases k : (1 < m ∧ b1 / 64 = 2) ∧ (2 < m ∧ b2 / 64 = 2) ∧ (3 < m ∧ b3 / 64 = 2)
      · rw [if_pos (by omega), if_neg]
        (repeat' split at hf) <;> omega
      · rw [if_neg (by omega)]
  have en : needN b0 = 0 := by unfold needN; rw [if_neg c2, if_neg c3, if_neg c4]
  have e : widthP m b0 b1 b2 b3 = 0 := by unfold widthP; rw [if_neg c1, en, if_pos (.inl rfl)]
  rw [e]
  refine ⟨fun h => absurd rfl h, fun _ => ?_⟩
  unfold Lib.decodeN
  rw [if_neg c1]
  by_cases k : b0 / 32 = 6 ∧ (1 < m ∧ b1 / 64 = 2)
  · rw [if_pos k, if_neg (by omega)]
  · rw [if_neg k, if_neg (by omega)]
    by_cases k2 : b0 / 8 = 30 ∧ (1 < m ∧ b1 / 64 = 2) ∧ (2 < m ∧ b2 / 64 = 2) ∧ (3 < m ∧ b3 / 64 = 2)
    · rw [if_pos k2, if_neg (by omega)]
    · rw [if_neg k2]

theorem lead_lo : ∀ x : Fin 256, 194 ≤ x.val → x.val ≤ 244 → Lib.accLo (Lib.firstT x.val / 16) = secLo x.val := by decide +kernel
theorem lead_hi : ∀ x : Fin 256, 194 ≤ x.val → x.val ≤ 244 → Lib.accHi (Lib.firstT x.val / 16) = secHi x.val := by decide +kernel
theorem lead_sz : ∀ x : Fin 256, 194 ≤ x.val → x.val ≤ 244 → Lib.firstT x.val % 8 = needN x.val := by decide +kernel
set_option maxHeartbeats 4000000 in
/-- FullRune says no just where what is left is the beginning of a sequence -/
theorem fullN_iff (m b0 b1 b2 b3 : Nat) (hm : 1 ≤ m) (h0 : b0 < 256) (h1 : b1 < 256) (h2 : b2 < 256) (h3 : b3 < 256) :
    fullN m b0 b1 b2 = false ↔ needN b0 ≠ 0 ∧ fitsP (needN b0 - 1) m b0 b1 b2 b3 = m := by
  by_cases c1 : b0 < 128
  · have en : needN b0 = 0 := by unfold needN; (repeat' split) <;> omega
    have e : fullN m b0 b1 b2 = true := by unfold fullN Lib.firstT; rw [if_neg (by omega), if_pos c1, if_pos (by omega)]
    simp [en, e]
  by_cases c5 : b0 < 194 ∨ 244 < b0
  · have en : needN b0 = 0 := by unfold needN; (repeat' split) <;> omega
    have ef : Lib.firstT b0 = 241 := by unfold Lib.firstT; (repeat' split) <;> omega
    have e : fullN m b0 b1 b2 = true := by unfold fullN; rw [if_neg (by omega), ef, if_pos (by omega)]
    simp [en, e]
  have hlo : Lib.accLo (Lib.firstT b0 / 16) = secLo b0 := lead_lo ⟨b0, h0⟩ (show 194 ≤ b0 by omega) (show b0 ≤ 244 by omega)
  have hhi : Lib.accHi (Lib.firstT b0 / 16) = secHi b0 := lead_hi ⟨b0, h0⟩ (show 194 ≤ b0 by omega) (show b0 ≤ 244 by omega)
  have hsz : Lib.firstT b0 % 8 = needN b0 := lead_sz ⟨b0, h0⟩ (show 194 ≤ b0 by omega) (show b0 ≤ 244 by omega)
  have hn2 : 2 ≤ needN b0 ∧ needN b0 ≤ 4 := by unfold needN; (repeat' split) <;> omega
  unfold fullN
  rw [if_neg (by omega), hlo, hhi, hsz]
  generalize needN b0 = n at hn2 ⊢
  by_cases k : n ≤ m
  · rw [if_pos k]
    constructor
    · intro h; cases h
    · rintro ⟨_, h⟩
      exfalso
      unfold fitsP at h
      (repeat' split at h) <;> omega
  · rw [if_neg k]
    have hs : secondN b0 b1 = true ↔ ¬ (b1 < secLo b0 ∨ secHi b0 < b1) := by rw [secondN_iff]; omega
    have hc : contN b2 = true ↔ ¬ (b2 < 128 ∨ 191 < b2) := by rw [contN_iff]; omega
    by_cases m1 : m = 1
    · subst m1
      rw [if_neg (by omega), if_neg (by omega), fitsP_1 (by omega)]
      simp; omega
    · by_cases k1 : b1 < secLo b0 ∨ secHi b0 < b1
      · rw [if_pos ⟨by omega, k1⟩]
        rw [fitsP_1 (fun x => (hs.1 x.2.2) k1)]
        simp; omega
      · rw [if_neg (by omega)]
        by_cases m2 : m = 2
        · subst m2
          rw [if_neg (by omega), fitsP_2 ⟨by omega, by omega, hs.2 k1⟩ (by omega)]
          simp; omega
        · obtain rfl : m = 3 := by omega
          by_cases k2 : b2 < 128 ∨ 191 < b2
          · rw [if_pos ⟨by omega, k2⟩, fitsP_2 ⟨by omega, by omega, hs.2 k1⟩ (fun x => (hc.1 x.2.2) k2)]
            simp
          · rw [if_neg (by omega), fitsP_3 ⟨by omega, by omega, hs.2 k1⟩ ⟨by omega, by omega, hc.2 k2⟩ (by omega)]
            simp; omega
end Go.Proofs.YtodgllnmepnpfaaDoor
