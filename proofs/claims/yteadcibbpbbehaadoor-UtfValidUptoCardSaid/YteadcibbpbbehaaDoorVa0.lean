/- UtfValid: plain. -/
import Derived.Test.YteadcibbpbbehaaDoorSc0
namespace Go.Proofs.YteadcibbpbbehaaDoor
open Go.RowKit

theorem byteAt_ls (s : ByteArray) (i : Nat) : byteAt s i = (s.data.toList.getD i 0).toNat := by
  unfold byteAt; rw [Lib.getD_get!']
theorem str_self (s : ByteArray) : str s.data.toList = s := by
  apply ByteArray.ext; apply Array.toList_inj.1; rw [str_data]
theorem goes_str (x l : List UInt8) : Goes (str x) (str (x ++ l)) := by
  refine ⟨by rw [str_size, str_size, List.length_append]; omega, fun i hi => ?_⟩
  rw [str_size] at hi
  rw [byteAt_ls, byteAt_ls, str_data, str_data, List.getD_eq_getElem?_getD, List.getD_eq_getElem?_getD, List.getElem?_append_left hi]
section
variable (x l : List UInt8) (p : Nat)
theorem byte_shift : byteAt (str (x ++ l)) (x.length + p) = byteAt (str l) p := by
  rw [byteAt_ls, byteAt_ls, str_data, str_data, List.getD_eq_getElem?_getD, List.getD_eq_getElem?_getD, List.getElem?_append_right (by omega), Nat.add_sub_cancel_left]
theorem size_shift : (str (x ++ l)).size - (x.length + p) = (str l).size - p := by rw [str_size, str_size, List.length_append]; omega
theorem fits_shift (most : Nat) : fitsS (str (x ++ l)) (x.length + p) most = fitsS (str l) p most := by
  unfold fitsS
  rw [size_shift, byte_shift, Nat.add_assoc, byte_shift, Nat.add_assoc, byte_shift, Nat.add_assoc, byte_shift]
theorem width_shift : widthS (str (x ++ l)) (x.length + p) = widthS (str l) p := by
  unfold widthS; rw [byte_shift, fits_shift]
theorem begins_shift : beginsS (str (x ++ l)) (x.length + p) = beginsS (str l) p := by
  unfold beginsS; rw [byte_shift, fits_shift]
theorem skip_shift : skipS (str (x ++ l)) (x.length + p) = skipS (str l) p := by
  unfold skipS; rw [width_shift, begins_shift]
theorem out_shift : outS (str (x ++ l)) (x.length + p) = outS (str l) p := by
  unfold outS; rw [width_shift, str_data, str_data, ← List.drop_drop, List.drop_left]
end
theorem repl_shift (x l : List UInt8) : ∀ (f p : Nat), replF (str (x ++ l)) f (x.length + p) = replF (str l) f p
  | 0, p => rfl
  | f + 1, p => by
    rw [replF, replF, out_shift, skip_shift, Nat.add_assoc, repl_shift x l f]
    by_cases h : p < (str l).size
    · rw [if_pos h, if_pos (by rw [str_size] at h ⊢; rw [List.length_append]; omega)]
    · rw [if_neg h, if_neg (by rw [str_size] at h ⊢; rw [List.length_append]; omega)]

/-- from p on no item is bad -/
def NB (s : ByteArray) (p : Nat) : Prop := ∀ x ∈ itemsF s (s.size - p) p, x.bad = false
theorem NB.end_ (s : ByteArray) : NB s s.size := by intro x hx; rw [Nat.sub_self] at hx; simp [itemsF] at hx
theorem NB.step {s : ByteArray} {p : Nat} (hp : p < s.size) : NB s p ↔ widthS s p ≠ 0 ∧ NB s (p + widthS s p) := by
  unfold NB
  rw [itemsF_step hp]
  have hb : (itAt s p).bad = decide (widthS s p = 0) := bad_width s p hp
  by_cases hw : widthS s p = 0
  · constructor
    · intro h
      have := h _ (List.mem_cons_self ..)
      rw [hb, decide_eq_true hw] at this; cases this
    · rintro ⟨h, _⟩; exact absurd hw h
  · have hd : (Utf8.decode s p).2 = widthS s p := by rw [dec_width s p hp, if_neg hw]
    rw [hd]
    constructor
    · intro h; exact ⟨hw, fun x hx => h x (List.mem_cons_of_mem _ hx)⟩
    · rintro ⟨_, h⟩ x hx
      rcases List.mem_cons.1 hx with rfl | hx
      · rw [hb, decide_eq_false hw]
      · exact h x hx
theorem NB.repl {s : ByteArray} : ∀ (m p : Nat), p + m = s.size → NB s p → replF s (s.size - p) p = s.data.toList.drop p := by
  intro m
  induction m using Nat.strongRecOn with
  | ind m ih =>
    intro p hm h
    by_cases hp : p < s.size
    · obtain ⟨hw, h⟩ := (NB.step hp).1 h
      have hf := widthS_fits s p hp hw
      have hsk : skipS s p = widthS s p := by unfold skipS; rw [if_pos hw]
      rw [replF_step hp, hsk, ih (m - widthS s p) (by omega) (p + widthS s p) (by omega) h]
      unfold outS
      rw [if_pos hw, ← List.drop_drop, List.take_append_drop]
    · obtain rfl : p = s.size := by omega
      rw [Nat.sub_self, List.drop_of_length_le (by rw [← Lib.size_eq]; exact Nat.le_refl _)]; rfl
theorem NB.compl {s : ByteArray} : ∀ (m p : Nat), p + m = s.size → NB s p → (complF s (s.size - p) p).2 = s.size := by
  intro m
  induction m using Nat.strongRecOn with
  | ind m ih =>
    intro p hm h
    by_cases hp : p < s.size
    · obtain ⟨hw, h⟩ := (NB.step hp).1 h
      have hf := widthS_fits s p hp hw
      rw [complF_good hp rfl hw]
      exact ih (m - widthS s p) (by omega) _ (by omega) h
    · obtain rfl : p = s.size := by omega
      rw [Nat.sub_self]; rfl
theorem NB.shift (x l : List UInt8) : ∀ (m p : Nat), p + m = l.length → NB (str l) p → NB (str (x ++ l)) (x.length + p) := by
  intro m
  induction m using Nat.strongRecOn with
  | ind m ih =>
    intro p hm h
    by_cases hp : p < (str l).size
    · obtain ⟨hw, h⟩ := (NB.step hp).1 h
      have hf := widthS_fits _ p hp hw
      rw [str_size] at hp hf
      rw [NB.step (by rw [str_size, List.length_append]; omega), width_shift, Nat.add_assoc]
      exact ⟨hw, ih (m - widthS (str l) p) (by omega) _ (by omega) h⟩
    · rw [str_size] at hp
      obtain rfl : p = l.length := by omega
      rw [show x.length + l.length = (str (x ++ l)).size by rw [str_size, List.length_append]]
      exact NB.end_ _
/-- one whole sequence -/
def Piece (x : List UInt8) : Prop := widthS (str x) 0 = x.length ∧ x.length ≠ 0
theorem NB.cons {x l : List UInt8} (hx : Piece x) (h : NB (str l) 0) : NB (str (x ++ l)) 0 := by
  have hw := goes_width (goes_str x l) (p := 0) (by rw [str_size]; have := hx.2; omega) (by rw [hx.1]; exact hx.2)
  rw [NB.step (by rw [str_size, List.length_append]; have := hx.2; omega), hw, hx.1, Nat.zero_add]
  exact ⟨hx.2, NB.shift x l l.length 0 (by omega) h⟩
theorem piece_bad : Piece [239, 191, 189] := ⟨by decide +kernel, by decide⟩
theorem piece_good {s : ByteArray} {p : Nat} (hp : p < s.size) (hw : widthS s p ≠ 0) : Piece ((s.data.toList.drop p).take (widthS s p)) := by
  have hf := widthS_fits s p hp hw
  have hl : ((s.data.toList.drop p).take (widthS s p)).length = widthS s p := by
    rw [List.length_take, List.length_drop, ← Lib.size_eq]; omega
  refine ⟨?_, by rw [hl]; exact hw⟩
  rw [hl]
  obtain ⟨k, hk⟩ : ∃ k, k = widthS s p := ⟨_, rfl⟩
  rw [← hk] at hl hf hw ⊢
  have hb : ∀ i, i < k → byteAt (str ((s.data.toList.drop p).take k)) i = byteAt s (p + i) := by
    intro i hi
    rw [byteAt_ls, byteAt_ls, str_data, List.getD_eq_getElem?_getD, List.getD_eq_getElem?_getD, List.getElem?_take, if_pos hi, List.getElem?_drop]
  have hb0 := hb 0 (by omega)
  rw [Nat.add_zero] at hb0
  have hsz : (str ((s.data.toList.drop p).take k)).size = k := by rw [str_size, hl]
  unfold widthS at hk ⊢
  rw [hb0]
  by_cases c : byteAt s p < 128
  · rw [if_pos c] at hk ⊢; exact hk.symm
  · rw [if_neg c] at hk ⊢
    by_cases c2 : needN (byteAt s p) = 0 ∨ fitsS s p (needN (byteAt s p)) < needN (byteAt s p)
    · rw [if_pos c2] at hk; omega
    · rw [if_neg c2] at hk
      have c3 : ¬ fitsS s p (needN (byteAt s p)) < needN (byteAt s p) := fun h => c2 (.inr h)
      have hmin := (fitsP_min (needN (byteAt s p)) k (s.size - p) (byteAt s p) (byteAt s (p + 1)) (byteAt s (p + 2)) (byteAt s (p + 3)) (by omega) (by omega)).2 (by
        show k ≤ fitsS s p (needN (byteAt s p)); omega)
      have hmono := fits_mono (needN (byteAt s p)) k k (byteAt s p) (byteAt s (p + 1)) (byteAt s (p + 2)) (byteAt s (p + 3)) (byteAt (str ((s.data.toList.drop p).take k)) (0 + 1)) (byteAt (str ((s.data.toList.drop p).take k)) (0 + 2)) (byteAt (str ((s.data.toList.drop p).take k)) (0 + 3)) (by omega) (Nat.le_refl _)
        (fun h => hb 1 h) (fun h => hb 2 h) (fun h => hb 3 h)
      have hfs : k ≤ fitsS (str ((s.data.toList.drop p).take k)) 0 (needN (byteAt s p)) := by
        unfold fitsS
        rw [hsz, hb0, Nat.sub_zero]
        rcases hmono with e | ⟨_, e⟩
        · rw [e]; exact hmin
        · omega
      rw [if_neg, ← hk]
      rintro (h | h)
      · exact c2 (.inl h)
      · omega
theorem piece_out {s : ByteArray} {p : Nat} (hp : p < s.size) : Piece (outS s p) := by
  unfold outS
  by_cases hw : widthS s p ≠ 0
  · rw [if_pos hw]; exact piece_good hp hw
  · rw [if_neg hw]; exact piece_bad
theorem repl_NB (s : ByteArray) : ∀ (f p : Nat), NB (str (replF s f p)) 0
  | 0, p => NB.end_ _
  | f + 1, p => by
    rw [replF]
    by_cases hp : p < s.size
    · rw [if_pos hp]; exact NB.cons (piece_out hp) (repl_NB s f _)
    · rw [if_neg hp]; exact NB.end_ _
theorem NB.list {s : ByteArray} : NB s 0 ↔ ∀ x ∈ itemsU s, x.bad = false := by unfold NB itemsU; rw [Nat.sub_zero]
theorem NB.replS {s : ByteArray} (h : NB s 0) : replS s = s.data.toList := by
  have := h.repl s.size 0 (by omega)
  rw [Nat.sub_zero] at this
  exact this
theorem NB.tail {s : ByteArray} (h : NB s 0) : tailU s = 0 := by
  have := h.compl s.size 0 (by omega)
  rw [Nat.sub_zero] at this
  rw [tailU_eq]; unfold complS; rw [this, Nat.sub_self]
theorem repl_clean (s : ByteArray) : NB (str (replS s)) 0 := repl_NB s _ _
theorem repl_twice (s : ByteArray) : replS (str (replS s)) = replS s := by rw [(repl_clean s).replS, str_data]
theorem clean_iff (s : ByteArray) : NB s 0 ↔ str (replS s) = s := by
  constructor
  · intro h; rw [h.replS, str_self]
  · intro h; rw [← h]; exact repl_clean s

theorem no_held_of {s : ByteArray} (h : tailU s = 0) (q : Nat) : ¬ Held s q := by
  intro hq
  have h1 := hq.end_ q 0 (by omega)
  rw [Nat.sub_zero] at h1
  rw [tailU_eq] at h
  unfold complS at h
  rw [h1] at h
  have := hq.1; omega
theorem repl_join (s t : ByteArray) (h : tailU s = 0) : ∀ (m p : Nat), p + m = s.size → replF (str (s.data.toList ++ t.data.toList)) ((str (s.data.toList ++ t.data.toList)).size - p) p = replF s (s.size - p) p ++ replS t := by
  obtain ⟨z, hz⟩ : ∃ z, z = str (s.data.toList ++ t.data.toList) := ⟨_, rfl⟩
  have hg : Goes s z := by rw [hz]; have := goes_str s.data.toList t.data.toList; rw [str_self] at this; exact this
  have hzs : z.size = s.size + t.size := by rw [hz, str_size, List.length_append, ← Lib.size_eq, ← Lib.size_eq]
  have hzl : z.data.toList = s.data.toList ++ t.data.toList := by rw [hz, str_data]
  have hend : replF z (z.size - s.size) s.size = replS t := by
    have := repl_shift s.data.toList t.data.toList t.size 0
    rw [← Lib.size_eq, Nat.add_zero, str_self, ← hz] at this
    rw [show z.size - s.size = t.size by omega]
    exact this
  rw [← hz]
  intro m
  induction m using Nat.strongRecOn with
  | ind m ih =>
    intro p hm
    by_cases hp : p < s.size
    · have hsk := skip_le s p hp
      have hsp := skip_pos s p
      have hos : outS z p = outS s p ∧ skipS z p = skipS s p := by
        by_cases hw : widthS s p = 0
        · have hnb : beginsS s p ≠ s.size - p := fun e => no_held_of h p ⟨hp, e⟩
          obtain ⟨g1, g2⟩ := goes_bad hg hp hw hnb
          have hbe : beginsS z p = beginsS s p := by
            unfold beginsS at hnb ⊢
            rw [hg.2 p hp]
            by_cases c : needN (byteAt s p) = 0
            · rw [if_pos c, if_pos c]
            · rw [if_neg c] at hnb
              rw [if_neg c, if_neg c]
              rcases goes_fits hg hp (needN (byteAt s p) - 1) with e | ⟨e, _⟩
              · exact e
              · exact absurd e hnb
          unfold outS skipS
          rw [g1, hw, hbe]
          exact ⟨rfl, rfl⟩
        · have g := goes_width hg hp hw
          have hf := widthS_fits s p hp hw
          unfold outS skipS
          rw [g, hzl]
          refine ⟨?_, by rw [if_pos hw, if_pos hw]⟩
          rw [if_pos hw, if_pos hw, List.drop_append_of_le_length (by rw [← Lib.size_eq]; omega), List.take_append_of_le_length (by rw [List.length_drop, ← Lib.size_eq]; omega)]
      rw [replF_step (s := z) (by omega), replF_step hp, hos.1, hos.2, ih (m - skipS s p) (by omega) (p + skipS s p) (by omega), List.append_assoc]
    · obtain rfl : p = s.size := by omega
      rw [hend, Nat.sub_self]; rfl
theorem repl_joined (s t : ByteArray) (h : tailU s = 0) : replS (s ++ t) = replS s ++ replS t := by
  have := repl_join s t h s.size 0 (by omega)
  rw [Nat.sub_zero, Nat.sub_zero] at this
  have e : s ++ t = str (s.data.toList ++ t.data.toList) := by
    apply ByteArray.ext; apply Array.toList_inj.1; rw [str_data, ByteArray.data_append, Array.toList_append]
  rw [e]
  exact this
theorem repl_len (s : ByteArray) : ∀ (f p : Nat), p ≤ s.size → (replF s f p).length ≤ 4 * (s.size - p)
  | 0, p, _ => by simp [replF]
  | f + 1, p, h => by
    rw [replF]
    by_cases hp : p < s.size
    · have h1 := skip_le s p hp
      have h2 := skip_pos s p
      have h3 := out_le s p
      have h4 := repl_len s f (p + skipS s p) h1
      rw [if_pos hp, List.length_append]; omega
    · rw [if_neg hp]; simp
end Go.Proofs.YteadcibbpbbehaaDoor
