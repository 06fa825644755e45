/- utf.Scanner: plain: what a take takes; a text that goes on. -/
import Derived.Test.YteadcibbpbbehaaDoorUtfQ
set_option linter.unusedVariables false
set_option linter.unusedSimpArgs false
namespace Go.Proofs.YteadcibbpbbehaaDoor
open Go.RowKit

def scanS (all : Bool) (s : ByteArray) (p : Nat) : List It × Nat := if all then (itemsF s (s.size - p) p, s.size) else complF s (s.size - p) p
theorem scanS_end (all : Bool) (s : ByteArray) : scanS all s s.size = ([], s.size) := by
  unfold scanS; cases all <;> simp [itemsF, complF]
theorem scanS_held {s : ByteArray} {p : Nat} (hp : p < s.size) (h : beginsGo (s.extract p s.size) = true) : scanS false s p = ([], p) := by
  have h := (begins_held s p hp).1 h
  unfold scanS
  rw [if_neg (by simp)]
  exact complF_held hp h.width h.2
theorem scanS_step {all : Bool} {s : ByteArray} {p : Nat} (hp : p < s.size) (h : all = true ∨ beginsGo (s.extract p s.size) = false) :
    scanS all s p = (itAt s p :: (scanS all s (p + (itAt s p).n)).1, (scanS all s (p + (itAt s p).n)).2) := by
  cases all with
  | true =>
    unfold scanS
    simp only [if_true]
    rw [itemsF_step hp]; rfl
  | false =>
    have h : ¬ Held s p := fun e => by
      have := (begins_held s p hp).2 e
      simp [this] at h
    unfold scanS
    simp only [Bool.false_eq_true, if_false]
    by_cases hw : widthS s p = 0
    · have hb : beginsS s p ≠ s.size - p := fun e => h ⟨hp, e⟩
      rw [complF_bad hp hw.symm hb, itAt_bad hp hw]
    · rw [complF_good hp rfl hw, itAt_good hp hw]
theorem scanS_le (all : Bool) (s : ByteArray) (p : Nat) (hp : p ≤ s.size) : (scanS all s p).2 ≤ s.size ∧ (scanS all s p).1.length ≤ s.size - p := by
  unfold scanS
  cases all with
  | true => exact ⟨Nat.le_refl _, itemsF_len _ _ _⟩
  | false =>
    have := complF_len s (s.size - p) p hp
    simp only [Bool.false_eq_true, if_false]
    omega

/-! ### a text that goes on -/
theorem fits_mono (most m m' b0 b1 b2 b3 b1' b2' b3' : Nat) (hm : 1 ≤ m) (hmm : m ≤ m') (h1 : 1 < m → b1' = b1) (h2 : 2 < m → b2' = b2) (h3 : 3 < m → b3' = b3) :
    fitsP most m' b0 b1' b2' b3' = fitsP most m b0 b1 b2 b3 ∨ (fitsP most m b0 b1 b2 b3 = m ∧ m < most) := by
  rcases (show m = 1 ∨ m = 2 ∨ m = 3 ∨ 3 < m by omega) with rfl | rfl | rfl | h
  · unfold fitsP
    by_cases c : 1 < most
    · right; simp; omega
    · left; simp [c]
  · obtain rfl := h1 (by omega)
    unfold fitsP
    by_cases c1 : 1 < most <;> by_cases c2 : 2 < most <;> by_cases d1 : secondN b0 b1' = true <;> simp [c1, c2, d1] <;> (try split) <;> (try split) <;> omega
  · obtain rfl := h1 (by omega)
    obtain rfl := h2 (by omega)
    unfold fitsP
    by_cases c1 : 1 < most <;> by_cases c2 : 2 < most <;> by_cases c3 : 3 < most <;> by_cases d1 : secondN b0 b1' = true <;> by_cases d2 : contN b2' = true <;> simp [c1, c2, c3, d1, d2] <;> (try split) <;> (try split) <;> (try split) <;> omega
  · obtain rfl := h1 (by omega)
    obtain rfl := h2 (by omega)
    obtain rfl := h3 (by omega)
    left
    unfold fitsP
    simp only [show 1 < m by omega, show 2 < m by omega, show 3 < m by omega, show 1 < m' by omega, show 2 < m' by omega, show 3 < m' by omega]
theorem fits_pred (n m b0 b1 b2 b3 : Nat) (hn : 2 ≤ n) (hn4 : n ≤ 4) : fitsP (n - 1) m b0 b1 b2 b3 = min (fitsP n m b0 b1 b2 b3) (n - 1) := by
  rcases (show n = 2 ∨ n = 3 ∨ n = 4 by omega) with rfl | rfl | rfl <;>
  · unfold fitsP
    by_cases c1 : 1 < m <;> by_cases c2 : 2 < m <;> by_cases c3 : 3 < m <;> by_cases d1 : secondN b0 b1 = true <;> by_cases d2 : contN b2 = true <;> by_cases d3 : contN b3 = true <;> simp [c1, c2, c3, d1, d2, d3]
theorem fits_le (most m b0 b1 b2 b3 : Nat) (hm : 1 ≤ m) : fitsP most m b0 b1 b2 b3 ≤ m := by
  have hb := fits_bytes most m b0 b1 b2 b3
  generalize fitsP most m b0 b1 b2 b3 = k at hb ⊢
  omega

/-- t goes on behind s -/
def Goes (s t : ByteArray) : Prop := s.size ≤ t.size ∧ ∀ i, i < s.size → byteAt t i = byteAt s i
section
variable {s t : ByteArray} {p : Nat}
theorem goes_fits (h : Goes s t) (hp : p < s.size) (most : Nat) : fitsS t p most = fitsS s p most ∨ (fitsS s p most = s.size - p ∧ s.size - p < most) := by
  unfold fitsS
  rw [h.2 p hp]
  refine fits_mono most _ _ _ _ _ _ _ _ _ (by omega) (by have := h.1; omega) (fun k => h.2 _ (by omega)) (fun k => h.2 _ (by omega)) (fun k => h.2 _ (by omega))
theorem goes_width (h : Goes s t) (hp : p < s.size) (hw : widthS s p ≠ 0) : widthS t p = widthS s p := by
  unfold widthS at hw ⊢
  rw [h.2 p hp]
  by_cases c : byteAt s p < 128
  · rw [if_pos c, if_pos c]
  · rw [if_neg c] at hw
    rw [if_neg c, if_neg c]
    by_cases c2 : needN (byteAt s p) = 0 ∨ fitsS s p (needN (byteAt s p)) < needN (byteAt s p)
    · rw [if_pos c2] at hw; omega
    · rw [if_neg c2]
      rcases goes_fits h hp (needN (byteAt s p)) with e | ⟨e, e2⟩
      · rw [e, if_neg c2]
      · exact absurd (.inr (by rw [e]; exact e2)) c2
theorem readP_same {n b0 b1 b2 b3 b1' b2' b3' : Nat} (h0 : 1 ≤ n) (h1 : 1 < n → b1' = b1) (h2 : 2 < n → b2' = b2) (h3 : 3 < n → b3' = b3) : readP n b0 b1' b2' b3' = readP n b0 b1 b2 b3 := by
  unfold readP
  by_cases c1 : n = 1
  · rw [if_pos c1, if_pos c1]
  · rw [if_neg c1, if_neg c1]
    by_cases c2 : n = 2
    · rw [if_pos c2, if_pos c2, h1 (by omega)]
    · rw [if_neg c2, if_neg c2]
      by_cases c3 : n = 3
      · rw [if_pos c3, if_pos c3, h1 (by omega), h2 (by omega)]
      · rw [if_neg c3, if_neg c3, h1 (by omega), h2 (by omega), h3 (by omega)]
theorem goes_read (h : Goes s t) (n : Nat) (hp : p + n ≤ s.size) (hn : 1 ≤ n) : readS t p n = readS s p n := by
  unfold readS
  rw [h.2 p (by omega)]
  exact readP_same hn (fun k => h.2 _ (by omega)) (fun k => h.2 _ (by omega)) (fun k => h.2 _ (by omega))
theorem goes_bad (h : Goes s t) (hp : p < s.size) (hw : widthS s p = 0) (hb : beginsS s p ≠ s.size - p) : widthS t p = 0 ∧ beginsS t p ≠ t.size - p := by
  have hst := h.1
  by_cases c : byteAt s p < 128
  · unfold widthS at hw; rw [if_pos c] at hw; cases hw
  · by_cases c2 : needN (byteAt s p) = 0
    · unfold widthS beginsS
      rw [h.2 p hp, if_neg c, if_pos (.inl c2), if_pos c2]
      exact ⟨rfl, by omega⟩
    · have h2 := need_two c2
      have h4 := needN_le (byteAt s p)
      have hf : fitsS s p (needN (byteAt s p)) < needN (byteAt s p) := by
        unfold widthS at hw
        rw [if_neg c] at hw
        by_cases c3 : needN (byteAt s p) = 0 ∨ fitsS s p (needN (byteAt s p)) < needN (byteAt s p)
        · rcases c3 with c3 | c3
          · exact absurd c3 c2
          · exact c3
        · rw [if_neg c3] at hw; omega
      have hpr : fitsS s p (needN (byteAt s p) - 1) = min (fitsS s p (needN (byteAt s p))) (needN (byteAt s p) - 1) := fits_pred _ _ _ _ _ _ h2 h4
      unfold beginsS at hb ⊢
      rw [if_neg c2] at hb
      have hle : fitsS s p (needN (byteAt s p) - 1) ≤ s.size - p := fits_le _ _ _ _ _ _ (by omega)
      constructor
      · unfold widthS
        rw [h.2 p hp, if_neg c, if_pos]
        refine .inr ?_
        rcases goes_fits h hp (needN (byteAt s p)) with e | ⟨e, e2⟩
        · rw [e]; exact hf
        · exfalso; rw [e] at hpr; exact hb (by rw [hpr]; omega)
      · rw [h.2 p hp, if_neg c2]
        rcases goes_fits h hp (needN (byteAt s p) - 1) with e | ⟨e, e2⟩
        · rw [e]; omega
        · exact absurd e hb
/-- what is complete stays complete; what is held is looked at again -/
theorem compl_goes (h : Goes s t) : ∀ (m p : Nat), p + m = s.size → complF t (t.size - p) p =
    ((complF s (s.size - p) p).1 ++ (complF t (t.size - (complF s (s.size - p) p).2) (complF s (s.size - p) p).2).1, (complF t (t.size - (complF s (s.size - p) p).2) (complF s (s.size - p) p).2).2) := by
  intro m
  induction m using Nat.strongRecOn with
  | ind m ih =>
    intro p hm
    by_cases hp : p < s.size
    · have hst := h.1
      by_cases hw : widthS s p = 0
      · by_cases hb : beginsS s p = s.size - p
        · rw [complF_held hp hw.symm hb]; rfl
        · obtain ⟨g1, g2⟩ := goes_bad h hp hw hb
          rw [complF_bad hp hw.symm hb, complF_bad (by omega) g1.symm g2, ih (m - 1) (by omega) (p + 1) (by omega)]
          rfl
      · have hf := widthS_fits s p hp hw
        have g := goes_width h hp hw
        rw [complF_good hp rfl hw, complF_good (by omega) g.symm hw, ih (m - widthS s p) (by omega) (p + widthS s p) (by omega), goes_read h _ hf.1 hf.2.1]
        rfl
    · obtain rfl : p = s.size := by omega
      rw [Nat.sub_self]; rfl
end
theorem compl_next {s t : ByteArray} (h : Goes s t) : complS t = ((complS s).1 ++ (scanS false t (complS s).2).1, (scanS false t (complS s).2).2) := by
  have := compl_goes h s.size 0 (by omega)
  simp only [Nat.sub_zero] at this
  unfold complS scanS
  simp only [Bool.false_eq_true, if_false]
  exact this
theorem compl_held (s : ByteArray) : (complS s).2 = s.size ∨ Held s (complS s).2 := by
  by_cases hx : ∃ q, Held s q
  · obtain ⟨q, h⟩ := hx
    have h1 := h.end_ q 0 (by omega)
    rw [Nat.sub_zero] at h1
    right; unfold complS; rw [h1]; exact h
  · have h1 := no_held (fun q h => hx ⟨q, h⟩) s.size 0 (by omega)
    rw [Nat.sub_zero] at h1
    exact .inl h1
theorem items_end (s : ByteArray) : (scanS true s (complS s).2).1 = badsF s (s.size - (complS s).2) (complS s).2 := by
  unfold scanS
  simp only [if_true]
  refine items_bads s _ _ ?_
  intro i h1 h2
  rcases compl_held s with h | h
  · omega
  · by_cases hi : i = (complS s).2
    · rw [hi]; exact h.width.symm
    · exact width_of_cont (h.cont.2 i (by omega) h2)
end Go.Proofs.YteadcibbpbbehaaDoor
