/- A text that goes on (plain); texts joined where no sequence runs over the joint. The first part is that of XSc0, XVa0, for seats that lack utf.Items. -/
import Derived.Test.YtemnanhoiacphaaDoorPk6
import Derived.Test.YtemnanhoiacphaaDoorPk4
import Derived.Test.YtemnanhoiacphaaDoorPk1
set_option linter.unusedVariables false
set_option linter.unusedSimpArgs false
namespace Go.Proofs.YtemnanhoiacphaaDoor
open Go.RowKit

theorem fits_mono (most m m' b0 b1 b2 b3 b1' b2' b3' : Nat) (hm : 1 ≤ m) (hmm : m ≤ m') (h1 : 1 < m → b1' = b1) (h2 : 2 < m → b2' = b2) (h3 : 3 < m → b3' = b3) :
    fitsP most m' b0 b1' b2' b3' = fitsP most m b0 b1 b2 b3 ∨ (fitsP most m b0 b1 b2 b3 = m ∧ m < most) := by
  rcases (show m = 1 ∨ m = 2 ∨ m = 3 ∨ 3 < m by omega) with rfl | rfl | rfl | h
  · unfold fitsP
    by_cases c : 1 < most
    · right; simp; omega
    · left; simp [c]
  · obtain rfl := h1 (by omega)
    unfold fitsP
    by_cases c1 : 1 < most <;> by_cases c2 : 2 < most <;> by_cases d1 : secondN b0 b1' = true <;> simp [c1, c2, d1] <;> (try split) <;> (try split) <;> omega
  · obtain rfl := h1 (by omega)
    obtain rfl := h2 (by omega)
    unfold fitsP
    by_cases c1 : 1 < most <;> by_cases c2 : 2 < most <;> by_cases c3 : 3 < most <;> by_cases d1 : secondN b0 b1' = true <;> by_cases d2 : contN b2' = true <;> simp [c1, c2, c3, d1, d2] <;> (try split) <;> (try split) <;> (try split) <;> omega
  · obtain rfl := h1 (by omega)
    obtain rfl := h2 (by omega)
    obtain rfl := h3 (by omega)
    left
    unfold fitsP
    simp only [show 1 < m by omega, show 2 < m by omega, show 3 < m by omega, show 1 < m' by omega, show 2 < m' by omega, show 3 < m' by omega]
theorem fits_pred (n m b0 b1 b2 b3 : Nat) (hn : 2 ≤ n) (hn4 : n ≤ 4) : fitsP (n - 1) m b0 b1 b2 b3 = min (fitsP n m b0 b1 b2 b3) (n - 1) := by
  rcases (show n = 2 ∨ n = 3 ∨ n = 4 by omega) with rfl | rfl | rfl <;>
  · unfold fitsP
    by_cases c1 : 1 < m <;> by_cases c2 : 2 < m <;> by_cases c3 : 3 < m <;> by_cases d1 : secondN b0 b1 = true <;> by_cases d2 : contN b2 = true <;> by_cases d3 : contN b3 = true <;> simp [c1, c2, c3, d1, d2, d3]
theorem fits_le (most m b0 b1 b2 b3 : Nat) (hm : 1 ≤ m) : fitsP most m b0 b1 b2 b3 ≤ m := by
  have hb := fits_bytes most m b0 b1 b2 b3
  generalize fitsP most m b0 b1 b2 b3 = k at hb ⊢
  omega

/-- t goes on behind s -/
def Goes (s t : ByteArray) : Prop := s.size ≤ t.size ∧ ∀ i, i < s.size → byteAt t i = byteAt s i
section
variable {s t : ByteArray} {p : Nat}
theorem goes_fits (h : Goes s t) (hp : p < s.size) (most : Nat) : fitsS t p most = fitsS s p most ∨ (fitsS s p most = s.size - p ∧ s.size - p < most) := by
  unfold fitsS
  rw [h.2 p hp]
  refine fits_mono most _ _ _ _ _ _ _ _ _ (by omega) (by have := h.1; omega) (fun k => h.2 _ (by omega)) (fun k => h.2 _ (by omega)) (fun k => h.2 _ (by omega))
theorem goes_width (h : Goes s t) (hp : p < s.size) (hw : widthS s p ≠ 0) : widthS t p = widthS s p := by
  unfold widthS at hw ⊢
  rw [h.2 p hp]
  by_cases c : byteAt s p < 128
  · rw [if_pos c, if_pos c]
  · rw [if_neg c] at hw
    rw [if_neg c, if_neg c]
    by_cases c2 : needN (byteAt s p) = 0 ∨ fitsS s p (needN (byteAt s p)) < needN (byteAt s p)
    · rw [if_pos c2] at hw; omega
    · rw [if_neg c2]
      rcases goes_fits h hp (needN (byteAt s p)) with e | ⟨e, e2⟩
      · rw [e, if_neg c2]
      · exact absurd (.inr (by rw [e]; exact e2)) c2
theorem readP_same {n b0 b1 b2 b3 b1' b2' b3' : Nat} (h0 : 1 ≤ n) (h1 : 1 < n → b1' = b1) (h2 : 2 < n → b2' = b2) (h3 : 3 < n → b3' = b3) : readP n b0 b1' b2' b3' = readP n b0 b1 b2 b3 := by
  unfold readP
  by_cases c1 : n = 1
  · rw [if_pos c1, if_pos c1]
  · rw [if_neg c1, if_neg c1]
    by_cases c2 : n = 2
    · rw [if_pos c2, if_pos c2, h1 (by omega)]
    · rw [if_neg c2, if_neg c2]
      by_cases c3 : n = 3
      · rw [if_pos c3, if_pos c3, h1 (by omega), h2 (by omega)]
      · rw [if_neg c3, if_neg c3, h1 (by omega), h2 (by omega), h3 (by omega)]
theorem goes_read (h : Goes s t) (n : Nat) (hp : p + n ≤ s.size) (hn : 1 ≤ n) : readS t p n = readS s p n := by
  unfold readS
  rw [h.2 p (by omega)]
  exact readP_same hn (fun k => h.2 _ (by omega)) (fun k => h.2 _ (by omega)) (fun k => h.2 _ (by omega))
theorem goes_bad (h : Goes s t) (hp : p < s.size) (hw : widthS s p = 0) (hb : beginsS s p ≠ s.size - p) : widthS t p = 0 ∧ beginsS t p ≠ t.size - p := by
  have hst := h.1
  by_cases c : byteAt s p < 128
  · unfold widthS at hw; rw [if_pos c] at hw; cases hw
  · by_cases c2 : needN (byteAt s p) = 0
    · unfold widthS beginsS
      rw [h.2 p hp, if_neg c, if_pos (.inl c2), if_pos c2]
      exact ⟨rfl, by omega⟩
    · have h2 := need_two c2
      have h4 := needN_le (byteAt s p)
      have hf : fitsS s p (needN (byteAt s p)) < needN (byteAt s p) := by
        unfold widthS at hw
        rw [if_neg c] at hw
        by_cases c3 : needN (byteAt s p) = 0 ∨ fitsS s p (needN (byteAt s p)) < needN (byteAt s p)
        · rcases c3 with c3 | c3
          · exact absurd c3 c2
          · exact c3
        · rw [if_neg c3] at hw; omega
      have hpr : fitsS s p (needN (byteAt s p) - 1) = min (fitsS s p (needN (byteAt s p))) (needN (byteAt s p) - 1) := fits_pred _ _ _ _ _ _ h2 h4
      unfold beginsS at hb ⊢
      rw [if_neg c2] at hb
      have hle : fitsS s p (needN (byteAt s p) - 1) ≤ s.size - p := fits_le _ _ _ _ _ _ (by omega)
      constructor
      · unfold widthS
        rw [h.2 p hp, if_neg c, if_pos]
        refine .inr ?_
        rcases goes_fits h hp (needN (byteAt s p)) with e | ⟨e, e2⟩
        · rw [e]; exact hf
        · exfalso; rw [e] at hpr; exact hb (by rw [hpr]; omega)
      · rw [h.2 p hp, if_neg c2]
        rcases goes_fits h hp (needN (byteAt s p) - 1) with e | ⟨e, e2⟩
        · rw [e]; omega
        · exact absurd e hb
/-- what is complete stays complete; what is held is looked at again -/
theorem compl_goes (h : Goes s t) : ∀ (m p : Nat), p + m = s.size → complF t (t.size - p) p =
    ((complF s (s.size - p) p).1 ++ (complF t (t.size - (complF s (s.size - p) p).2) (complF s (s.size - p) p).2).1, (complF t (t.size - (complF s (s.size - p) p).2) (complF s (s.size - p) p).2).2) := by
  intro m
  induction m using Nat.strongRecOn with
  | ind m ih =>
    intro p hm
    by_cases hp : p < s.size
    · have hst := h.1
      by_cases hw : widthS s p = 0
      · by_cases hb : beginsS s p = s.size - p
        · rw [complF_held hp hw.symm hb]; rfl
        · obtain ⟨g1, g2⟩ := goes_bad h hp hw hb
          rw [complF_bad hp hw.symm hb, complF_bad (by omega) g1.symm g2, ih (m - 1) (by omega) (p + 1) (by omega)]
          rfl
      · have hf := widthS_fits s p hp hw
        have g := goes_width h hp hw
        rw [complF_good hp rfl hw, complF_good (by omega) g.symm hw, ih (m - widthS s p) (by omega) (p + widthS s p) (by omega), goes_read h _ hf.1 hf.2.1]
        rfl
    · obtain rfl : p = s.size := by omega
      rw [Nat.sub_self]; rfl
end
theorem compl_next2 {s t : ByteArray} (h : Goes s t) : (complS t).2 = (complF t (t.size - (complS s).2) (complS s).2).2 := by
  have := compl_goes h s.size 0 (by omega)
  simp only [Nat.sub_zero] at this
  unfold complS
  rw [this]
theorem compl_held (s : ByteArray) : (complS s).2 = s.size ∨ Held s (complS s).2 := by
  by_cases hx : ∃ q, Held s q
  · obtain ⟨q, h⟩ := hx
    have h1 := h.end_ q 0 (by omega)
    rw [Nat.sub_zero] at h1
    right; unfold complS; rw [h1]; exact h
  · have h1 := no_held (fun q h => hx ⟨q, h⟩) s.size 0 (by omega)
    rw [Nat.sub_zero] at h1
    exact .inl h1
theorem byteAt_ls (s : ByteArray) (i : Nat) : byteAt s i = (s.data.toList.getD i 0).toNat := by
  unfold byteAt; rw [Lib.getD_get!']
theorem str_self (s : ByteArray) : str s.data.toList = s := by
  apply ByteArray.ext; apply Array.toList_inj.1; rw [str_data]
theorem goes_str (x l : List UInt8) : Goes (str x) (str (x ++ l)) := by
  refine ⟨by rw [str_size, str_size, List.length_append]; omega, fun i hi => ?_⟩
  rw [str_size] at hi
  rw [byteAt_ls, byteAt_ls, str_data, str_data, List.getD_eq_getElem?_getD, List.getD_eq_getElem?_getD, List.getElem?_append_left hi]
section
variable (x l : List UInt8) (p : Nat)
theorem byte_shift : byteAt (str (x ++ l)) (x.length + p) = byteAt (str l) p := by
  rw [byteAt_ls, byteAt_ls, str_data, str_data, List.getD_eq_getElem?_getD, List.getD_eq_getElem?_getD, List.getElem?_append_right (by omega), Nat.add_sub_cancel_left]
theorem size_shift : (str (x ++ l)).size - (x.length + p) = (str l).size - p := by rw [str_size, str_size, List.length_append]; omega
theorem fits_shift (most : Nat) : fitsS (str (x ++ l)) (x.length + p) most = fitsS (str l) p most := by
  unfold fitsS
  rw [size_shift, byte_shift, Nat.add_assoc, byte_shift, Nat.add_assoc, byte_shift, Nat.add_assoc, byte_shift]
theorem width_shift : widthS (str (x ++ l)) (x.length + p) = widthS (str l) p := by
  unfold widthS; rw [byte_shift, fits_shift]
theorem begins_shift : beginsS (str (x ++ l)) (x.length + p) = beginsS (str l) p := by
  unfold beginsS; rw [byte_shift, fits_shift]
theorem skip_shift : skipS (str (x ++ l)) (x.length + p) = skipS (str l) p := by
  unfold skipS; rw [width_shift, begins_shift]
theorem out_shift : outS (str (x ++ l)) (x.length + p) = outS (str l) p := by
  unfold outS; rw [width_shift, str_data, str_data, ← List.drop_drop, List.drop_left]
end
theorem repl_shift (x l : List UInt8) : ∀ (f p : Nat), replF (str (x ++ l)) f (x.length + p) = replF (str l) f p
  | 0, p => rfl
  | f + 1, p => by
    rw [replF, replF, out_shift, skip_shift, Nat.add_assoc, repl_shift x l f]
    by_cases h : p < (str l).size
    · rw [if_pos h, if_pos (by rw [str_size] at h ⊢; rw [List.length_append]; omega)]
    · rw [if_neg h, if_neg (by rw [str_size] at h ⊢; rw [List.length_append]; omega)]

theorem compl_shift (x l : List UInt8) : ∀ (f p : Nat), (complF (str (x ++ l)) f (x.length + p)).2 = x.length + (complF (str l) f p).2
  | 0, p => rfl
  | f + 1, p => by
    rw [complF, complF, width_shift, begins_shift, size_shift]
    have hsz : (x.length + p < (str (x ++ l)).size) ↔ p < (str l).size := by rw [str_size, str_size, List.length_append]; omega
    by_cases h : p < (str l).size
    · rw [if_pos h, if_pos (hsz.2 h)]
      by_cases hw : widthS (str l) p ≠ 0
      · rw [if_pos hw, if_pos hw]
        show (complF _ _ _).2 = _ + (complF _ _ _).2
        rw [Nat.add_assoc, compl_shift x l f]
      · rw [if_neg hw, if_neg hw]
        by_cases hb : beginsS (str l) p = (str l).size - p
        · rw [if_pos hb, if_pos hb]
        · rw [if_neg hb, if_neg hb]
          show (complF _ _ _).2 = _ + (complF _ _ _).2
          rw [Nat.add_assoc, compl_shift x l f]
    · rw [if_neg h, if_neg (fun e => h (hsz.1 e))]
theorem fits_up (most m m' b0 b1 b2 b3 b1' b2' b3' : Nat) (hm : 1 ≤ m) (hmm : m ≤ m') (h1 : 1 < m → b1' = b1) (h2 : 2 < m → b2' = b2) (h3 : 3 < m → b3' = b3) :
    fitsP most m b0 b1 b2 b3 ≤ fitsP most m' b0 b1' b2' b3' := by
  rcases (show m = 1 ∨ m = 2 ∨ m = 3 ∨ 3 < m by omega) with rfl | rfl | rfl | h
  · unfold fitsP
    rw [if_neg (by omega)]
    (repeat' split) <;> omega
  · obtain rfl := h1 (by omega)
    unfold fitsP
    by_cases c1 : 1 < most <;> by_cases d1 : secondN b0 b1' = true <;> simp [c1, d1] <;> (repeat' split) <;> omega
  · obtain rfl := h1 (by omega)
    obtain rfl := h2 (by omega)
    unfold fitsP
    by_cases c1 : 1 < most <;> by_cases c2 : 2 < most <;> by_cases d1 : secondN b0 b1' = true <;> by_cases d2 : contN b2' = true <;> simp [c1, c2, d1, d2] <;> (repeat' split) <;> omega
  · obtain rfl := h1 (by omega)
    obtain rfl := h2 (by omega)
    obtain rfl := h3 (by omega)
    unfold fitsP
    by_cases c1 : 1 < most <;> by_cases c2 : 2 < most <;> by_cases c3 : 3 < most <;> by_cases d1 : secondN b0 b1' = true <;> by_cases d2 : contN b2' = true <;> by_cases d3 : contN b3' = true <;> simp [c1, c2, c3, d1, d2, d3] <;> (repeat' split) <;> omega
/-- what is held stays as bad as it is, where no byte goes on with it -/
theorem held_stop {s z : ByteArray} (hg : Goes s z) {p : Nat} (h : Held s p) (hn : ¬ (s.size < z.size ∧ 128 ≤ byteAt z s.size ∧ byteAt z s.size ≤ 191)) : widthS z p = 0 ∧ beginsS z p = beginsS s p ∧ widthS s p = 0 := by
  obtain ⟨k1, k2⟩ := h.parts
  have hq := h.1
  have hlead := need_lead k1
  have h2 := need_two k1
  have h4 := needN_le (byteAt s p)
  have hgs := hg.1
  have hc := h.cont
  have hle : ∀ most, most ≤ 4 → fitsS z p most ≤ s.size - p := by
    intro most hm
    have hb := fits_bytes most (z.size - p) (byteAt z p) (byteAt z (p + 1)) (byteAt z (p + 2)) (byteAt z (p + 3))
    show fitsP most (z.size - p) (byteAt z p) (byteAt z (p + 1)) (byteAt z (p + 2)) (byteAt z (p + 3)) ≤ s.size - p
    generalize fitsP most (z.size - p) (byteAt z p) (byteAt z (p + 1)) (byteAt z (p + 2)) (byteAt z (p + 3)) = k at hb ⊢
    apply Classical.byContradiction
    intro hk
    rcases (show s.size = p + 1 ∨ s.size = p + 2 ∨ s.size = p + 3 by omega) with e | e | e
    · have := hb.1 (by omega); rw [e] at hn; exact hn ⟨by omega, by omega, by omega⟩
    · have := hb.2.1 (by omega); rw [e] at hn; exact hn ⟨by omega, by omega, by omega⟩
    · have := hb.2.2.1 (by omega); rw [e] at hn; exact hn ⟨by omega, by omega, by omega⟩
  have hup : fitsS s p (needN (byteAt s p) - 1) ≤ fitsS z p (needN (byteAt s p) - 1) := by
    unfold fitsS
    rw [hg.2 p hq]
    exact fits_up _ _ _ _ _ _ _ _ _ _ (by omega) (by omega) (fun k => hg.2 _ (by omega)) (fun k => hg.2 _ (by omega)) (fun k => hg.2 _ (by omega))
  have hle1 := hle (needN (byteAt s p) - 1) (by omega)
  have hle2 := hle (needN (byteAt s p)) (by omega)
  have hlt : s.size - p < needN (byteAt s p) := by
    have hb := fits_bytes (needN (byteAt s p) - 1) (s.size - p) (byteAt s p) (byteAt s (p + 1)) (byteAt s (p + 2)) (byteAt s (p + 3))
    have k2' : fitsP (needN (byteAt s p) - 1) (s.size - p) (byteAt s p) (byteAt s (p + 1)) (byteAt s (p + 2)) (byteAt s (p + 3)) = s.size - p := k2
    rw [k2'] at hb
    omega
  refine ⟨?_, ?_, h.width.symm⟩
  · unfold widthS
    rw [hg.2 p hq, if_neg (by omega), if_pos (.inr (by omega))]
  · unfold beginsS
    rw [hg.2 p hq, if_neg k1, if_neg k1]
    omega
theorem lead_join (s t : ByteArray) (ht : ¬ (0 < t.size ∧ 128 ≤ byteAt t 0 ∧ byteAt t 0 ≤ 191)) : ∀ (m p : Nat), p + m = s.size → replF (str (s.data.toList ++ t.data.toList)) ((str (s.data.toList ++ t.data.toList)).size - p) p = replF s (s.size - p) p ++ replS t := by
  obtain ⟨z, hz⟩ : ∃ z, z = str (s.data.toList ++ t.data.toList) := ⟨_, rfl⟩
  have hg : Goes s z := by rw [hz]; have := goes_str s.data.toList t.data.toList; rw [str_self] at this; exact this
  have hzs : z.size = s.size + t.size := by rw [hz, str_size, List.length_append, ← Lib.size_eq, ← Lib.size_eq]
  have hzl : z.data.toList = s.data.toList ++ t.data.toList := by rw [hz, str_data]
  have hend : replF z (z.size - s.size) s.size = replS t := by
    have := repl_shift s.data.toList t.data.toList t.size 0
    rw [← Lib.size_eq, Nat.add_zero, str_self, ← hz] at this
    rw [show z.size - s.size = t.size by omega]
    exact this
  have hb0 : byteAt z s.size = byteAt t 0 := by
    have := byte_shift s.data.toList t.data.toList 0
    rw [← Lib.size_eq, Nat.add_zero, str_self, ← hz] at this
    exact this
  have hnz : ¬ (s.size < z.size ∧ 128 ≤ byteAt z s.size ∧ byteAt z s.size ≤ 191) := by rw [hb0]; omega
  rw [← hz]
  intro m
  induction m using Nat.strongRecOn with
  | ind m ih =>
    intro p hm
    by_cases hp : p < s.size
    · have hsk := skip_le s p hp
      have hsp := skip_pos s p
      have hos : outS z p = outS s p ∧ skipS z p = skipS s p := by
        by_cases hw : widthS s p = 0
        · by_cases hnb : beginsS s p = s.size - p
          · obtain ⟨g1, g2, g3⟩ := held_stop hg ⟨hp, hnb⟩ hnz
            unfold outS skipS
            rw [g1, g2, hw]
            exact ⟨rfl, rfl⟩
          · obtain ⟨g1, g2⟩ := goes_bad hg hp hw hnb
            have hbe : beginsS z p = beginsS s p := by
              unfold beginsS at hnb ⊢
              rw [hg.2 p hp]
              by_cases c : needN (byteAt s p) = 0
              · rw [if_pos c, if_pos c]
              · rw [if_neg c] at hnb
                rw [if_neg c, if_neg c]
                rcases goes_fits hg hp (needN (byteAt s p) - 1) with e | ⟨e, _⟩
                · exact e
                · exact absurd e hnb
            unfold outS skipS
            rw [g1, hw, hbe]
            exact ⟨rfl, rfl⟩
        · have g := goes_width hg hp hw
          have hf := widthS_fits s p hp hw
          unfold outS skipS
          rw [g, hzl]
          refine ⟨?_, by rw [if_pos hw, if_pos hw]⟩
          rw [if_pos hw, if_pos hw, List.drop_append_of_le_length (by rw [← Lib.size_eq]; omega), List.take_append_of_le_length (by rw [List.length_drop, ← Lib.size_eq]; omega)]
      rw [replF_step (s := z) (by omega), replF_step hp, hos.1, hos.2, ih (m - skipS s p) (by omega) (p + skipS s p) (by omega), List.append_assoc]
    · obtain rfl : p = s.size := by omega
      rw [hend, Nat.sub_self]; rfl
theorem app_str (s t : ByteArray) : s ++ t = str (s.data.toList ++ t.data.toList) := by
  apply ByteArray.ext; apply Array.toList_inj.1; rw [str_data, ByteArray.data_append, Array.toList_append]
/-- joined where no byte goes on with the first text: each is replaced by itself -/
theorem repl_lead (s t : ByteArray) (ht : ¬ (0 < t.size ∧ 128 ≤ byteAt t 0 ∧ byteAt t 0 ≤ 191)) : replS (s ++ t) = replS s ++ replS t := by
  have := lead_join s t ht s.size 0 (by omega)
  rw [Nat.sub_zero, Nat.sub_zero] at this
  rw [app_str]
  exact this
theorem no_held_of {s : ByteArray} (h : tailU s = 0) (q : Nat) : ¬ Held s q := by
  intro hq
  have h1 := hq.end_ q 0 (by omega)
  rw [Nat.sub_zero] at h1
  rw [tailU_eq] at h
  unfold complS at h
  rw [h1] at h
  have := hq.1; omega
theorem repl_join (s t : ByteArray) (h : tailU s = 0) : ∀ (m p : Nat), p + m = s.size → replF (str (s.data.toList ++ t.data.toList)) ((str (s.data.toList ++ t.data.toList)).size - p) p = replF s (s.size - p) p ++ replS t := by
  obtain ⟨z, hz⟩ : ∃ z, z = str (s.data.toList ++ t.data.toList) := ⟨_, rfl⟩
  have hg : Goes s z := by rw [hz]; have := goes_str s.data.toList t.data.toList; rw [str_self] at this; exact this
  have hzs : z.size = s.size + t.size := by rw [hz, str_size, List.length_append, ← Lib.size_eq, ← Lib.size_eq]
  have hzl : z.data.toList = s.data.toList ++ t.data.toList := by rw [hz, str_data]
  have hend : replF z (z.size - s.size) s.size = replS t := by
    have := repl_shift s.data.toList t.data.toList t.size 0
    rw [← Lib.size_eq, Nat.add_zero, str_self, ← hz] at this
    rw [show z.size - s.size = t.size by omega]
    exact this
  rw [← hz]
  intro m
  induction m using Nat.strongRecOn with
  | ind m ih =>
    intro p hm
    by_cases hp : p < s.size
    · have hsk := skip_le s p hp
      have hsp := skip_pos s p
      have hos : outS z p = outS s p ∧ skipS z p = skipS s p := by
        by_cases hw : widthS s p = 0
        · have hnb : beginsS s p ≠ s.size - p := fun e => no_held_of h p ⟨hp, e⟩
          obtain ⟨g1, g2⟩ := goes_bad hg hp hw hnb
          have hbe : beginsS z p = beginsS s p := by
            unfold beginsS at hnb ⊢
            rw [hg.2 p hp]
            by_cases c : needN (byteAt s p) = 0
            · rw [if_pos c, if_pos c]
            · rw [if_neg c] at hnb
              rw [if_neg c, if_neg c]
              rcases goes_fits hg hp (needN (byteAt s p) - 1) with e | ⟨e, _⟩
              · exact e
              · exact absurd e hnb
          unfold outS skipS
          rw [g1, hw, hbe]
          exact ⟨rfl, rfl⟩
        · have g := goes_width hg hp hw
          have hf := widthS_fits s p hp hw
          unfold outS skipS
          rw [g, hzl]
          refine ⟨?_, by rw [if_pos hw, if_pos hw]⟩
          rw [if_pos hw, if_pos hw, List.drop_append_of_le_length (by rw [← Lib.size_eq]; omega), List.take_append_of_le_length (by rw [List.length_drop, ← Lib.size_eq]; omega)]
      rw [replF_step (s := z) (by omega), replF_step hp, hos.1, hos.2, ih (m - skipS s p) (by omega) (p + skipS s p) (by omega), List.append_assoc]
    · obtain rfl : p = s.size := by omega
      rw [hend, Nat.sub_self]; rfl
theorem repl_joined (s t : ByteArray) (h : tailU s = 0) : replS (s ++ t) = replS s ++ replS t := by
  have := repl_join s t h s.size 0 (by omega)
  rw [Nat.sub_zero, Nat.sub_zero] at this
  have e : s ++ t = str (s.data.toList ++ t.data.toList) := by
    apply ByteArray.ext; apply Array.toList_inj.1; rw [str_data, ByteArray.data_append, Array.toList_append]
  rw [e]
  exact this
theorem out_le3 (s : ByteArray) (p : Nat) : (outS s p).length ≤ 3 * skipS s p := by
  have := skip_pos s p
  unfold outS
  by_cases hw : widthS s p ≠ 0
  · rw [if_pos hw, List.length_take]
    have e : skipS s p = widthS s p := by unfold skipS; rw [if_pos hw]
    omega
  · rw [if_neg hw]; simp; omega
theorem repl_len3 (s : ByteArray) : ∀ (f p : Nat), p ≤ s.size → (replF s f p).length ≤ 3 * (s.size - p)
  | 0, p, _ => by simp [replF]
  | f + 1, p, h => by
    rw [replF]
    by_cases hp : p < s.size
    · have h1 := skip_le s p hp
      have h2 := skip_pos s p
      have h3 := out_le3 s p
      have h4 := repl_len3 s f (p + skipS s p) h1
      rw [if_pos hp, List.length_append]; omega
    · rw [if_neg hp]; simp
theorem replS_len3 (s : ByteArray) : (replS s).length ≤ 3 * s.size := by
  have := repl_len3 s s.size 0 (by omega)
  exact this
end Go.Proofs.YtemnanhoiacphaaDoor
