/- What a detokeniser has emitted, has ready and holds, said of the text of the ids that it took. Plain. -/
import Derived.Test.YtemnanhoiacphaaDoorPk17
import Derived.Test.YtemnanhoiacphaaDoorGoesK
set_option linter.unusedVariables false
set_option linter.unusedSimpArgs false
namespace Go.Proofs.YtemnanhoiacphaaDoor
open Go.RowKit

theorem cut_compl (s : ByteArray) : cutS s = (complS s).2 := by
  have h := complF_len s s.size 0 (by omega)
  have h2 : (complS s).2 ≤ s.size := h.2
  unfold cutS
  rw [tailU_eq]
  omega
theorem cut_le (s : ByteArray) : cutS s ≤ s.size := by unfold cutS; omega
theorem str_app (a b : List UInt8) : str a ++ str b = str (a ++ b) := by
  apply ByteArray.ext; apply Array.toList_inj.1; rw [str_data, ByteArray.data_append, Array.toList_append, str_data, str_data]
theorem ext_ls (s : ByteArray) (a b : Nat) (h : a ≤ b) (hb : b ≤ s.size) : (s.extract a b).data.toList = (s.data.toList.drop a).take (b - a) := by
  rw [ByteArray.data_extract, Array.toList_extract, List.extract_eq_take_drop]
theorem ext_end (s : ByteArray) (a : Nat) : (s.extract a s.size).data.toList = s.data.toList.drop a := by
  rw [ByteArray.data_extract, Array.toList_extract, List.extract_eq_take_drop, List.take_of_length_le (by rw [List.length_drop, ← Lib.size_eq]; omega)]
theorem ext_two (s : ByteArray) (c : Nat) (h : c ≤ s.size) : s.extract 0 c ++ s.extract c s.size = s := by
  apply ByteArray.ext; apply Array.toList_inj.1
  rw [ByteArray.data_append, Array.toList_append, ext_end, ext_ls _ _ _ (by omega) h, List.drop_zero, Nat.sub_zero, List.take_append_drop]
/-- more text behind: what is complete stays so -/
theorem cut_app (S wd : ByteArray) : cutS (S ++ wd) = cutS S + cutS (S.extract (cutS S) S.size ++ wd) := by
  obtain ⟨C, hC⟩ : ∃ C, C = cutS S := ⟨_, rfl⟩
  have hle := cut_le S
  have hg : Goes S (S ++ wd) := by rw [app_str]; have := goes_str S.data.toList wd.data.toList; rw [str_self] at this; exact this
  have h1 := compl_next2 hg
  rw [← cut_compl, ← cut_compl, ← hC] at h1
  rw [← hC] at hle ⊢
  rw [h1, cut_compl]
  have e : S ++ wd = str ((S.data.toList.take C) ++ (S.extract C S.size ++ wd).data.toList) := by
    rw [ByteArray.data_append, Array.toList_append, ext_end, ← List.append_assoc, List.take_append_drop]
    exact app_str S wd
  obtain ⟨T, hT⟩ : ∃ T, T = S.extract C S.size ++ wd := ⟨_, rfl⟩
  rw [← hT] at e ⊢
  have hTs : T.size = (S ++ wd).size - C := by rw [hT, ByteArray.size_append, ByteArray.size_append, ByteArray.size_extract]; omega
  have hlen : (S.data.toList.take C).length = C := by rw [List.length_take, ← Lib.size_eq]; omega
  have h2 := compl_shift (S.data.toList.take C) T.data.toList T.size 0
  rw [hlen, Nat.add_zero, str_self, ← e] at h2
  rw [← hTs, h2]; rfl
/-- more text behind: what is emitted of it -/
theorem em_app (rep : Bool) (S wd : ByteArray) : emS rep ((S ++ wd).extract 0 (cutS (S ++ wd))) = emS rep (S.extract 0 (cutS S)) ++ emS rep ((S.extract (cutS S) S.size ++ wd).extract 0 (cutS (S.extract (cutS S) S.size ++ wd))) ∧
    (S ++ wd).extract (cutS (S ++ wd)) (S ++ wd).size = (S.extract (cutS S) S.size ++ wd).extract (cutS (S.extract (cutS S) S.size ++ wd)) (S.extract (cutS S) S.size ++ wd).size := by
  have hca := cut_app S wd
  have hh := compl_held S
  rw [← cut_compl] at hh
  obtain ⟨C, hC⟩ : ∃ C, C = cutS S := ⟨_, rfl⟩
  have hle := cut_le S
  rw [← hC] at hle hca hh ⊢
  obtain ⟨T, hT⟩ : ∃ T, T = S.extract C S.size ++ wd := ⟨_, rfl⟩
  have hTl : T.data.toList = S.data.toList.drop C ++ wd.data.toList := by rw [hT, ByteArray.data_append, Array.toList_append, ext_end]
  have hTs : T.size = S.size - C + wd.size := by rw [hT, ByteArray.size_append, ByteArray.size_extract]; omega
  have hTb : Held S C → byteAt T 0 = byteAt S C := by
    intro h
    have h1 := h.1
    rw [byteAt_ls, byteAt_ls, hTl, List.getD_eq_getElem?_getD, List.getD_eq_getElem?_getD, List.getElem?_append_left (by rw [List.length_drop, ← Lib.size_eq]; omega), List.getElem?_drop, Nat.add_zero]
  rw [← hT] at hca ⊢
  have hcT := cut_le T
  have hcS := cut_le (S ++ wd)
  have hSl : (S ++ wd).data.toList = S.data.toList ++ wd.data.toList := by rw [ByteArray.data_append, Array.toList_append]
  have hSz : (S ++ wd).size = S.size + wd.size := by rw [ByteArray.size_append]
  have hspl : S.data.toList.take C ++ S.data.toList.drop C = S.data.toList := List.take_append_drop _ _
  have hlen : (S.data.toList.take C).length = C := by rw [List.length_take, ← Lib.size_eq]; omega
  have hSl2 : (S ++ wd).data.toList = S.data.toList.take C ++ T.data.toList := by rw [hSl, hTl, ← List.append_assoc, hspl]
  constructor
  · have e : (S ++ wd).extract 0 (C + cutS T) = S.extract 0 C ++ T.extract 0 (cutS T) := by
      apply ByteArray.ext; apply Array.toList_inj.1
      rw [ext_ls _ _ _ (by omega) (by omega), hSl2, ByteArray.data_append, Array.toList_append, ext_ls S _ _ (by omega) (by omega), ext_ls T _ _ (by omega) (by omega), List.drop_zero, List.drop_zero, List.drop_zero, Nat.sub_zero, Nat.sub_zero, Nat.sub_zero, List.take_append, hlen, Nat.add_sub_cancel_left, List.take_take, Nat.min_eq_right (by omega)]
    rw [hca, e]
    unfold emS
    cases rep with
    | false => simp
    | true =>
      simp only [if_true]
      rcases hh with hh | hh
      · have e1 : S.extract 0 C = S := by
          apply ByteArray.ext; apply Array.toList_inj.1
          rw [ext_ls _ _ _ (by omega) (by omega), List.drop_zero, Nat.sub_zero, List.take_of_length_le (by rw [← Lib.size_eq]; omega)]
        rw [e1]
        refine repl_joined _ _ ?_
        rw [hC] at hh
        unfold cutS at hh
        have := tailU_le S
        omega
      · refine repl_lead _ _ ?_
        rintro ⟨h1, h2⟩
        rw [ByteArray.size_extract] at h1
        have hb : byteAt (T.extract 0 (cutS T)) 0 = byteAt T 0 := by
          rw [byteAt_ls, byteAt_ls, ext_ls _ _ _ (by omega) (by omega), List.drop_zero, List.getD_eq_getElem?_getD, List.getD_eq_getElem?_getD, List.getElem?_take, if_pos (by omega)]
        rw [hb] at h2
        have := need_lead hh.parts.1
        rw [hTb hh] at h2
        omega
  · rw [hca]
    apply ByteArray.ext; apply Array.toList_inj.1
    rw [ext_end, ext_end, hSl2, List.drop_append, hlen, Nat.add_sub_cancel_left, List.drop_of_length_le (by omega), List.nil_append]
theorem bytS_app (ws : List ByteArray) : ∀ a b : List Int, bytS ws (a ++ b) = if (bytS ws a).2 = a.length then ((bytS ws a).1 ++ (bytS ws b).1, a.length + (bytS ws b).2) else bytS ws a
  | [], b => by simp [bytS]
  | id :: a, b => by
    rw [List.cons_append, bytS, bytS_app ws a b]
    have hle := bytS_le ws a
    by_cases hi : isWord ws id = true
    · rw [if_pos hi, bytS, if_pos hi]
      by_cases h : (bytS ws a).2 = a.length
      · rw [if_pos h, if_pos (by simp [h])]
        simp only [List.append_assoc, List.length_cons]
        congr 1; omega
      · rw [if_neg h, if_neg (by simp [h])]
    · rw [if_neg hi, bytS, if_neg hi]
      simp
/-- what is emitted is told by the text S of what was taken; out: what was read -/
structure Good (rep : Bool) (S : ByteArray) (out : List UInt8) (x : DkS) : Prop where
  emit : out ++ x.ring = emS rep (S.extract 0 (cutS S))
  held : x.held = S.extract (cutS S) S.size
theorem Good.new (rep : Bool) : Good rep (str []) [] dk0 := by
  constructor
  · cases rep <;> decide +kernel
  · decide +kernel
theorem emS_len3 (rep : Bool) (s : ByteArray) : (emS rep s).length ≤ 3 * s.size := by
  unfold emS
  cases rep with
  | false => simp only [Bool.false_eq_true, if_false]; rw [← Lib.size_eq]; omega
  | true => simp only [if_true]; exact replS_len3 s
theorem Good.len {rep : Bool} {S : ByteArray} {out : List UInt8} {x : DkS} (h : Good rep S out x) : out.length + x.ring.length ≤ 3 * S.size ∧ x.held.size ≤ 3 ∧ x.held.size = tailU S := by
  have h1 := congrArg List.length h.emit
  rw [List.length_append] at h1
  have h2 := emS_len3 rep (S.extract 0 (cutS S))
  have h3 := cut_le S
  have h4 := tailU_le S
  have h5 : (S.extract 0 (cutS S)).size = cutS S := by rw [ByteArray.size_extract]; omega
  have h6 : x.held.size = S.size - cutS S := by rw [h.held, ByteArray.size_extract]; omega
  have h7 : cutS S = S.size - tailU S := rfl
  omega
theorem Good.step {ws : List ByteArray} {rep : Bool} {R : Nat} {id : Int} {S : ByteArray} {out : List UInt8} {x y : DkS} (h : Good rep S out x) (hy : stepS ws rep R id x = some y) : Good rep (S ++ wordB ws id) out y ∧ y.met = x.met ∧ y.flushed = x.flushed := by
  unfold stepS at hy
  simp only at hy
  split at hy
  · injection hy with hy
    subst hy
    have he := em_app rep S (wordB ws id)
    rw [← h.held] at he
    refine ⟨⟨?_, ?_⟩, rfl, rfl⟩
    · simp only
      rw [← List.append_assoc, h.emit, he.1]
    · simp only
      exact he.2.symm
  · cases hy
theorem step_room {ws : List ByteArray} (hw : ∀ s ∈ ws, s.size ≤ 256) {rep : Bool} {R : Nat} {id : Int} {x : DkS} (h3 : x.held.size ≤ 3) (hR : x.ring.length + 777 ≤ R) : ∃ y, stepS ws rep R id x = some y := by
  unfold stepS
  simp only
  have h1 := emS_len3 rep ((x.held ++ wordB ws id).extract 0 (cutS (x.held ++ wordB ws id)))
  have h2 := cut_le (x.held ++ wordB ws id)
  have h4 := wordB_size hw id
  rw [ByteArray.size_extract, ByteArray.size_append] at h1
  rw [if_pos (by omega)]
  exact ⟨_, rfl⟩
theorem Good.read {rep : Bool} {R : Nat} {S : ByteArray} {out : List UInt8} {x : DkS} (h : Good rep S out x) (k : Int) (hf : x.flushed = false) : Good rep S (out ++ x.ring.take (min k.toNat x.ring.length)) (dkReadS R rep k x) ∧ (dkReadS R rep k x).met = x.met ∧ (dkReadS R rep k x).ring = x.ring.drop (min k.toNat x.ring.length) := by
  have e : dkReadS R rep k x = { x with ring := x.ring.drop (min k.toNat x.ring.length) } := by
    unfold dkReadS settleS
    rw [if_neg (by simp [hf])]
  rw [e]
  refine ⟨⟨?_, h.held⟩, rfl, rfl⟩
  simp only
  rw [List.append_assoc, List.take_append_drop]
  exact h.emit
/-- what is taken of some ids -/
def Took (ws : List ByteArray) (ids : List Int) (x : DkS) : Prop := (x.met = false → (bytS ws ids).2 = ids.length) ∧ (x.met = true → (bytS ws ids).2 < ids.length)
theorem bytS_one (ws : List ByteArray) (id : Int) : bytS ws [id] = if isWord ws id then ((wordB ws id).data.toList, 1) else ([], 0) := by simp [bytS]
/-- one id more -/
theorem one_more {ws : List ByteArray} (hw : ∀ s ∈ ws, s.size ≤ 256) {rep : Bool} {R : Nat} {id : Int} {ids : List Int} {out : List UInt8} {x : DkS} (h : Good rep (str (bytS ws ids).1) out x) (ht : Took ws ids x) (hR : 3 * (256 * ids.length) + 777 ≤ R) :
    Good rep (str (bytS ws (ids ++ [id])).1) out (feedS ws rep R [id] x).2 ∧ Took ws (ids ++ [id]) (feedS ws rep R [id] x).2 := by
  have hle := bytS_le ws ids
  have hsz := bytS_size hw ids
  have hlen := h.len
  rw [str_size] at hlen
  rw [bytS_app, feedS]
  cases hm : x.met with
  | true =>
    have h2 := ht.2 hm
    rw [if_neg (by omega), if_pos (.inl rfl)]
    refine ⟨⟨h.emit, h.held⟩, fun h0 => by simp at h0, fun _ => ?_⟩
    rw [bytS_app, if_neg (by omega), List.length_append, List.length_singleton]; omega
  | false =>
    have h2 := ht.1 hm
    rw [if_pos h2, bytS_one]
    by_cases hi : isWord ws id = true
    · rw [if_pos hi, if_neg (by simp [hi])]
      obtain ⟨y, hy⟩ := step_room hw (ws := ws) (rep := rep) (R := R) (id := id) (x := x) (by omega) (by omega)
      obtain ⟨g1, g2, g3⟩ := h.step hy
      rw [hy]
      simp only [feedS]
      refine ⟨?_, fun _ => ?_, fun h0 => by rw [g2, hm] at h0; cases h0⟩
      · rw [← str_app, str_self]; exact g1
      · rw [bytS_app, if_pos h2, bytS_one, if_pos hi, List.length_append]; rfl
    · have hi' : isWord ws id = false := by simpa using hi
      rw [if_neg hi, if_pos (.inr hi')]
      simp only [List.append_nil]
      refine ⟨⟨h.emit, h.held⟩, fun h0 => by simp at h0, fun _ => ?_⟩
      rw [bytS_app, if_pos h2, bytS_one, if_neg hi, List.length_append, List.length_singleton]
      show ids.length + 0 < _
      omega
end Go.Proofs.YtemnanhoiacphaaDoor
