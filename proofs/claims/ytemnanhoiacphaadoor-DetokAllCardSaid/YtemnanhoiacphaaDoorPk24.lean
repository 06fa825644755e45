/- Several texts in one: What a detokeniser has emitted, has ready and holds, said of the text of the ids that it took. Plain.; Groups of ids, read in pieces, flushed: plain. -/
import Derived.Test.YtemnanhoiacphaaDoorPk17
import Derived.Test.YtemnanhoiacphaaDoorGoesK
set_option linter.unusedVariables false
set_option linter.unusedSimpArgs false
namespace Go.Proofs.YtemnanhoiacphaaDoor
open Go.RowKit

theorem cut_compl (s : ByteArray) : cutS s = (complS s).2 := by
  have h := complF_len s s.size 0 (by omega)
  have h2 : (complS s).2 ≤ s.size := h.2
  unfold cutS
  rw [tailU_eq]
  omega
theorem cut_le (s : ByteArray) : cutS s ≤ s.size := by unfold cutS; omega
theorem str_app (a b : List UInt8) : str a ++ str b = str (a ++ b) := by
  apply ByteArray.ext; apply Array.toList_inj.1; rw [str_data, ByteArray.data_append, Array.toList_append, str_data, str_data]
theorem ext_ls (s : ByteArray) (a b : Nat) (h : a ≤ b) (hb : b ≤ s.size) : (s.extract a b).data.toList = (s.data.toList.drop a).take (b - a) := by
  rw [ByteArray.data_extract, Array.toList_extract, List.extract_eq_take_drop]
theorem ext_end (s : ByteArray) (a : Nat) : (s.extract a s.size).data.toList = s.data.toList.drop a := by
  rw [ByteArray.data_extract, Array.toList_extract, List.extract_eq_take_drop, List.take_of_length_le (by rw [List.length_drop, ← Lib.size_eq]; omega)]
theorem ext_two (s : ByteArray) (c : Nat) (h : c ≤ s.size) : s.extract 0 c ++ s.extract c s.size = s := by
  apply ByteArray.ext; apply Array.toList_inj.1
  rw [ByteArray.data_append, Array.toList_append, ext_end, ext_ls _ _ _ (by omega) h, List.drop_zero, Nat.sub_zero, List.take_append_drop]
/-- more text behind: what is complete stays so -/
theorem cut_app (S wd : ByteArray) : cutS (S ++ wd) = cutS S + cutS (S.extract (cutS S) S.size ++ wd) := by
  obtain ⟨C, hC⟩ : ∃ C, C = cutS S := ⟨_, rfl⟩
  have hle := cut_le S
  have hg : Goes S (S ++ wd) := by rw [app_str]; have := goes_str S.data.toList wd.data.toList; rw [str_self] at this; exact this
  have h1 := compl_next2 hg
  rw [← cut_compl, ← cut_compl, ← hC] at h1
  rw [← hC] at hle ⊢
  rw [h1, cut_compl]
  have e : S ++ wd = str ((S.data.toList.take C) ++ (S.extract C S.size ++ wd).data.toList) := by
    rw [ByteArray.data_append, Array.toList_append, ext_end, ← List.append_assoc, List.take_append_drop]
    exact app_str S wd
  obtain ⟨T, hT⟩ : ∃ T, T = S.extract C S.size ++ wd := ⟨_, rfl⟩
  rw [← hT] at e ⊢
  have hTs : T.size = (S ++ wd).size - C := by rw [hT, ByteArray.size_append, ByteArray.size_append, ByteArray.size_extract]; omega
  have hlen : (S.data.toList.take C).length = C := by rw [List.length_take, ← Lib.size_eq]; omega
  have h2 := compl_shift (S.data.toList.take C) T.data.toList T.size 0
  rw [hlen, Nat.add_zero, str_self, ← e] at h2
  rw [← hTs, h2]; rfl
/-- more text behind: what is emitted of it -/
theorem em_app (rep : Bool) (S wd : ByteArray) : emS rep ((S ++ wd).extract 0 (cutS (S ++ wd))) = emS rep (S.extract 0 (cutS S)) ++ emS rep ((S.extract (cutS S) S.size ++ wd).extract 0 (cutS (S.extract (cutS S) S.size ++ wd))) ∧
    (S ++ wd).extract (cutS (S ++ wd)) (S ++ wd).size = (S.extract (cutS S) S.size ++ wd).extract (cutS (S.extract (cutS S) S.size ++ wd)) (S.extract (cutS S) S.size ++ wd).size := by
  have hca := cut_app S wd
  have hh := compl_held S
  rw [← cut_compl] at hh
  obtain ⟨C, hC⟩ : ∃ C, C = cutS S := ⟨_, rfl⟩
  have hle := cut_le S
  rw [← hC] at hle hca hh ⊢
  obtain ⟨T, hT⟩ : ∃ T, T = S.extract C S.size ++ wd := ⟨_, rfl⟩
  have hTl : T.data.toList = S.data.toList.drop C ++ wd.data.toList := by rw [hT, ByteArray.data_append, Array.toList_append, ext_end]
  have hTs : T.size = S.size - C + wd.size := by rw [hT, ByteArray.size_append, ByteArray.size_extract]; omega
  have hTb : Held S C → byteAt T 0 = byteAt S C := by
    intro h
    have h1 := h.1
    rw [byteAt_ls, byteAt_ls, hTl, List.getD_eq_getElem?_getD, List.getD_eq_getElem?_getD, List.getElem?_append_left (by rw [List.length_drop, ← Lib.size_eq]; omega), List.getElem?_drop, Nat.add_zero]
  rw [← hT] at hca ⊢
  have hcT := cut_le T
  have hcS := cut_le (S ++ wd)
  have hSl : (S ++ wd).data.toList = S.data.toList ++ wd.data.toList := by rw [ByteArray.data_append, Array.toList_append]
  have hSz : (S ++ wd).size = S.size + wd.size := by rw [ByteArray.size_append]
  have hspl : S.data.toList.take C ++ S.data.toList.drop C = S.data.toList := List.take_append_drop _ _
  have hlen : (S.data.toList.take C).length = C := by rw [List.length_take, ← Lib.size_eq]; omega
  have hSl2 : (S ++ wd).data.toList = S.data.toList.take C ++ T.data.toList := by rw [hSl, hTl, ← List.append_assoc, hspl]
  constructor
  · have e : (S ++ wd).extract 0 (C + cutS T) = S.extract 0 C ++ T.extract 0 (cutS T) := by
      apply ByteArray.ext; apply Array.toList_inj.1
      rw [ext_ls _ _ _ (by omega) (by omega), hSl2, ByteArray.data_append, Array.toList_append, ext_ls S _ _ (by omega) (by omega), ext_ls T _ _ (by omega) (by omega), List.drop_zero, List.drop_zero, List.drop_zero, Nat.sub_zero, Nat.sub_zero, Nat.sub_zero, List.take_append, hlen, Nat.add_sub_cancel_left, List.take_take, Nat.min_eq_right (by omega)]
    rw [hca, e]
    unfold emS
    cases rep with
    | false => simp
    | true =>
      simp only [if_true]
      rcases hh with hh | hh
      · have e1 : S.extract 0 C = S := by
          apply ByteArray.ext; apply Array.toList_inj.1
          rw [ext_ls _ _ _ (by omega) (by omega), List.drop_zero, Nat.sub_zero, List.take_of_length_le (by rw [← Lib.size_eq]; omega)]
        rw [e1]
        refine repl_joined _ _ ?_
        rw [hC] at hh
        unfold cutS at hh
        have := tailU_le S
        omega
      · refine repl_lead _ _ ?_
        rintro ⟨h1, h2⟩
        rw [ByteArray.size_extract] at h1
        have hb : byteAt (T.extract 0 (cutS T)) 0 = byteAt T 0 := by
          rw [byteAt_ls, byteAt_ls, ext_ls _ _ _ (by omega) (by omega), List.drop_zero, List.getD_eq_getElem?_getD, List.getD_eq_getElem?_getD, List.getElem?_take, if_pos (by omega)]
        rw [hb] at h2
        have := need_lead hh.parts.1
        rw [hTb hh] at h2
        omega
  · rw [hca]
    apply ByteArray.ext; apply Array.toList_inj.1
    rw [ext_end, ext_end, hSl2, List.drop_append, hlen, Nat.add_sub_cancel_left, List.drop_of_length_le (by omega), List.nil_append]
theorem bytS_app (ws : List ByteArray) : ∀ a b : List Int, bytS ws (a ++ b) = if (bytS ws a).2 = a.length then ((bytS ws a).1 ++ (bytS ws b).1, a.length + (bytS ws b).2) else bytS ws a
  | [], b => by simp [bytS]
  | id :: a, b => by
    rw [List.cons_append, bytS, bytS_app ws a b]
    have hle := bytS_le ws a
    by_cases hi : isWord ws id = true
    · rw [if_pos hi, bytS, if_pos hi]
      by_cases h : (bytS ws a).2 = a.length
      · rw [if_pos h, if_pos (by simp [h])]
        simp only [List.append_assoc, List.length_cons]
        congr 1; omega
      · rw [if_neg h, if_neg (by simp [h])]
    · rw [if_neg hi, bytS, if_neg hi]
      simp
/-- what is emitted is told by the text S of what was taken; out: what was read -/
structure Good (rep : Bool) (S : ByteArray) (out : List UInt8) (x : DkS) : Prop where
  emit : out ++ x.ring = emS rep (S.extract 0 (cutS S))
  held : x.held = S.extract (cutS S) S.size
theorem Good.new (rep : Bool) : Good rep (str []) [] dk0 := by
  constructor
  · cases rep <;> decide +kernel
  · decide +kernel
theorem emS_len3 (rep : Bool) (s : ByteArray) : (emS rep s).length ≤ 3 * s.size := by
  unfold emS
  cases rep with
  | false => simp only [Bool.false_eq_true, if_false]; rw [← Lib.size_eq]; omega
  | true => simp only [if_true]; exact replS_len3 s
theorem Good.len {rep : Bool} {S : ByteArray} {out : List UInt8} {x : DkS} (h : Good rep S out x) : out.length + x.ring.length ≤ 3 * S.size ∧ x.held.size ≤ 3 ∧ x.held.size = tailU S := by
  have h1 := congrArg List.length h.emit
  rw [List.length_append] at h1
  have h2 := emS_len3 rep (S.extract 0 (cutS S))
  have h3 := cut_le S
  have h4 := tailU_le S
  have h5 : (S.extract 0 (cutS S)).size = cutS S := by rw [ByteArray.size_extract]; omega
  have h6 : x.held.size = S.size - cutS S := by rw [h.held, ByteArray.size_extract]; omega
  have h7 : cutS S = S.size - tailU S := rfl
  omega
theorem Good.step {ws : List ByteArray} {rep : Bool} {R : Nat} {id : Int} {S : ByteArray} {out : List UInt8} {x y : DkS} (h : Good rep S out x) (hy : stepS ws rep R id x = some y) : Good rep (S ++ wordB ws id) out y ∧ y.met = x.met ∧ y.flushed = x.flushed := by
  unfold stepS at hy
  simp only at hy
  split at hy
  · injection hy with hy
    subst hy
    have he := em_app rep S (wordB ws id)
    rw [← h.held] at he
    refine ⟨⟨?_, ?_⟩, rfl, rfl⟩
    · simp only
      rw [← List.append_assoc, h.emit, he.1]
    · simp only
      exact he.2.symm
  · cases hy
theorem step_room {ws : List ByteArray} (hw : ∀ s ∈ ws, s.size ≤ 256) {rep : Bool} {R : Nat} {id : Int} {x : DkS} (h3 : x.held.size ≤ 3) (hR : x.ring.length + 777 ≤ R) : ∃ y, stepS ws rep R id x = some y := by
  unfold stepS
  simp only
  have h1 := emS_len3 rep ((x.held ++ wordB ws id).extract 0 (cutS (x.held ++ wordB ws id)))
  have h2 := cut_le (x.held ++ wordB ws id)
  have h4 := wordB_size hw id
  rw [ByteArray.size_extract, ByteArray.size_append] at h1
  rw [if_pos (by omega)]
  exact ⟨_, rfl⟩
theorem Good.read {rep : Bool} {R : Nat} {S : ByteArray} {out : List UInt8} {x : DkS} (h : Good rep S out x) (k : Int) (hf : x.flushed = false) : Good rep S (out ++ x.ring.take (min k.toNat x.ring.length)) (dkReadS R rep k x) ∧ (dkReadS R rep k x).met = x.met ∧ (dkReadS R rep k x).ring = x.ring.drop (min k.toNat x.ring.length) := by
  have e : dkReadS R rep k x = { x with ring := x.ring.drop (min k.toNat x.ring.length) } := by
    unfold dkReadS settleS
    rw [if_neg (by simp [hf])]
  rw [e]
  refine ⟨⟨?_, h.held⟩, rfl, rfl⟩
  simp only
  rw [List.append_assoc, List.take_append_drop]
  exact h.emit
/-- what is taken of some ids -/
def Took (ws : List ByteArray) (ids : List Int) (x : DkS) : Prop := (x.met = false → (bytS ws ids).2 = ids.length) ∧ (x.met = true → (bytS ws ids).2 < ids.length)
theorem bytS_one (ws : List ByteArray) (id : Int) : bytS ws [id] = if isWord ws id then ((wordB ws id).data.toList, 1) else ([], 0) := by simp [bytS]
/-- one id more -/
theorem one_more {ws : List ByteArray} (hw : ∀ s ∈ ws, s.size ≤ 256) {rep : Bool} {R : Nat} {id : Int} {ids : List Int} {out : List UInt8} {x : DkS} (h : Good rep (str (bytS ws ids).1) out x) (ht : Took ws ids x) (hR : 3 * (256 * ids.length) + 777 ≤ R) :
    Good rep (str (bytS ws (ids ++ [id])).1) out (feedS ws rep R [id] x).2 ∧ Took ws (ids ++ [id]) (feedS ws rep R [id] x).2 := by
  have hle := bytS_le ws ids
  have hsz := bytS_size hw ids
  have hlen := h.len
  rw [str_size] at hlen
  rw [bytS_app, feedS]
  cases hm : x.met with
  | true =>
    have h2 := ht.2 hm
    rw [if_neg (by omega), if_pos (.inl rfl)]
    refine ⟨⟨h.emit, h.held⟩, fun h0 => by simp at h0, fun _ => ?_⟩
    rw [bytS_app, if_neg (by omega), List.length_append, List.length_singleton]; omega
  | false =>
    have h2 := ht.1 hm
    rw [if_pos h2, bytS_one]
    by_cases hi : isWord ws id = true
    · rw [if_pos hi, if_neg (by simp [hi])]
      obtain ⟨y, hy⟩ := step_room hw (ws := ws) (rep := rep) (R := R) (id := id) (x := x) (by omega) (by omega)
      obtain ⟨g1, g2, g3⟩ := h.step hy
      rw [hy]
      simp only [feedS]
      refine ⟨?_, fun _ => ?_, fun h0 => by rw [g2, hm] at h0; cases h0⟩
      · rw [← str_app, str_self]; exact g1
      · rw [bytS_app, if_pos h2, bytS_one, if_pos hi, List.length_append]; rfl
    · have hi' : isWord ws id = false := by simpa using hi
      rw [if_neg hi, if_pos (.inr hi')]
      simp only [List.append_nil]
      refine ⟨⟨h.emit, h.held⟩, fun h0 => by simp at h0, fun _ => ?_⟩
      rw [bytS_app, if_pos h2, bytS_one, if_neg hi, List.length_append, List.length_singleton]
      show ids.length + 0 < _
      omega
end Go.Proofs.YtemnanhoiacphaaDoor

set_option linter.unusedVariables false
set_option linter.unusedSimpArgs false
namespace Go.Proofs.YtemnanhoiacphaaDoor
open Go.RowKit

theorem bytS_take (ws : List ByteArray) : ∀ (l : List Int) (k : Nat), k ≤ (bytS ws l).2 → (bytS ws (l.take k)).2 = k ∧ (k < (bytS ws l).2 → ∃ id, l[k]? = some id ∧ isWord ws id = true)
  | [], k, h => by
    have : k = 0 := by simpa [bytS] using h
    subst this
    simp [bytS]
  | id :: l, 0, h => by
    refine ⟨by simp [bytS], fun h2 => ⟨id, rfl, ?_⟩⟩
    rw [bytS] at h2
    split at h2
    · rename_i hi; exact hi
    · simp at h2
  | id :: l, k + 1, h => by
    rw [bytS] at h
    split at h
    · rename_i hi
      have := bytS_take ws l k (by simpa using h)
      rw [List.take_succ_cons, bytS, if_pos hi, bytS, if_pos hi]
      refine ⟨by simp [this.1], fun h2 => ?_⟩
      obtain ⟨id', e, h3⟩ := this.2 (by simpa using h2)
      exact ⟨id', by simpa using e, h3⟩
    · simp at h
/-- a group of ids: what is taken of it -/
theorem Good.feed {ws : List ByteArray} {rep : Bool} {R : Nat} : ∀ (l : List Int) (S : ByteArray) (out : List UInt8) (x : DkS), x.met = false → Good rep S out x →
    (feedS ws rep R l x).1 ≤ (bytS ws l).2 ∧ Good rep (S ++ str (bytS ws (l.take (feedS ws rep R l x).1)).1) out (feedS ws rep R l x).2 ∧ ((feedS ws rep R l x).2.met = true → (feedS ws rep R l x).1 = (bytS ws l).2 ∧ (bytS ws l).2 < l.length)
  | [], S, out, x, hm, h => by
    refine ⟨Nat.zero_le _, ?_, fun h0 => ?_⟩
    · show Good rep (S ++ str []) out x
      rw [show S ++ str [] = S from ByteArray.append_empty]
      exact h
    · change x.met = true at h0
      rw [hm] at h0; cases h0
  | id :: l, S, out, x, hm, h => by
    rw [feedS, bytS]
    by_cases hi : isWord ws id = true
    · rw [if_pos hi, if_neg (by simp [hm, hi])]
      cases hs : stepS ws rep R id x with
      | none =>
        simp only
        refine ⟨Nat.zero_le _, ?_, fun h0 => by rw [hm] at h0; cases h0⟩
        show Good rep (S ++ str []) out x
        rw [show S ++ str [] = S from ByteArray.append_empty]
        exact h
      | some y =>
        obtain ⟨g1, g2, g3⟩ := h.step hs
        obtain ⟨i1, i2, i3⟩ := Good.feed (ws := ws) (rep := rep) (R := R) l _ out y (by rw [g2, hm]) g1
        simp only
        refine ⟨by omega, ?_, fun h0 => ⟨by rw [(i3 h0).1], by have := (i3 h0).2; simp only [List.length_cons]; omega⟩⟩
        rw [List.take_succ_cons, bytS, if_pos hi]
        simp only
        rw [← str_app, str_self, ← ByteArray.append_assoc]
        exact i2
    · have hi' : isWord ws id = false := by simpa using hi
      rw [if_neg hi, if_pos (.inr hi')]
      refine ⟨Nat.le_refl _, ?_, fun _ => ⟨rfl, by simp⟩⟩
      show Good rep (S ++ str []) out _
      rw [show S ++ str [] = S from ByteArray.append_empty]
      exact ⟨h.emit, h.held⟩
theorem le_lgF : ∀ (ws : List ByteArray), 1 ≤ lgF ws ∧ ∀ s ∈ ws, s.size ≤ lgF ws := by
  have key : ∀ (ws : List ByteArray) (m : Nat), m ≤ ws.foldl (fun m s => max m s.size) m ∧ ∀ s ∈ ws, s.size ≤ ws.foldl (fun m s => max m s.size) m := by
    intro ws
    induction ws with
    | nil => intro m; simp
    | cons x ws ih =>
      intro m
      have := ih (max m x.size)
      rw [List.foldl_cons]
      refine ⟨by omega, fun s hs => ?_⟩
      rcases List.mem_cons.1 hs with rfl | hs
      · omega
      · exact this.2 s hs
  exact fun ws => key ws 1
theorem wordB_lg (ws : List ByteArray) (id : Int) : (wordB ws id).size ≤ lgF ws := by
  have hl := le_lgF ws
  unfold wordB
  by_cases h1 : 0 ≤ id ∧ id < 256
  · rw [if_pos h1, str_size]; simp; omega
  · rw [if_neg h1]
    by_cases h2 : 256 ≤ id ∧ id < 256 + (ws.length : Int)
    · rw [if_pos h2, List.getD_eq_getElem?_getD]
      cases h3 : ws[(id - 256).toNat]? with
      | none => exact Nat.zero_le _
      | some s => exact hl.2 s (List.mem_of_getElem? h3)
    · rw [if_neg h2]; exact Nat.zero_le _
/-- an empty ring takes one more id, whatever it is -/
theorem feed_some {ws : List ByteArray} {rep : Bool} {R : Nat} {l : List Int} {id : Int} {x : DkS} (hm : x.met = false) (hx : l[0]? = some id) (hi : isWord ws id = true) (h3 : x.held.size ≤ 3) (h0 : x.ring = []) (hR : 3 * (lgF ws + 3) ≤ R) : 1 ≤ (feedS ws rep R l x).1 := by
  cases l with
  | nil => simp at hx
  | cons i l =>
    have e : i = id := by simpa using hx
    subst e
    rw [feedS, if_neg (by simp [hm, hi])]
    have : ∃ y, stepS ws rep R i x = some y := by
      unfold stepS
      simp only
      have h1 := emS_len3 rep ((x.held ++ wordB ws i).extract 0 (cutS (x.held ++ wordB ws i)))
      have h2 := cut_le (x.held ++ wordB ws i)
      have h4 := wordB_lg ws i
      have h5 : (x.held ++ wordB ws i).size = x.held.size + (wordB ws i).size := ByteArray.size_append
      rw [ByteArray.size_extract] at h1
      rw [h0, if_pos (by simp only [List.length_nil]; omega)]
      exact ⟨_, rfl⟩
    obtain ⟨y, hy⟩ := this
    rw [hy]
    simp only
    omega
theorem bytS_part (ws : List ByteArray) (l : List Int) (x : Nat) : (bytS ws (l.take x)).2 ≤ (bytS ws l).2 ∧ ((bytS ws (l.take x)).2 < (l.take x).length → (bytS ws l).2 = (bytS ws (l.take x)).2) := by
  have e := bytS_app ws (l.take x) (l.drop x)
  rw [List.take_append_drop] at e
  have hle := bytS_le ws (l.take x)
  by_cases h : (bytS ws (l.take x)).2 = (l.take x).length
  · rw [if_pos h] at e
    rw [e]
    exact ⟨by simp only; omega, fun h2 => absurd h2 (by omega)⟩
  · rw [if_neg h] at e
    rw [e]
    exact ⟨Nat.le_refl _, fun _ => rfl⟩
theorem bytS_zero (ws : List ByteArray) : ∀ l : List Int, (bytS ws l).2 = 0 → (bytS ws l).1 = []
  | [], _ => rfl
  | id :: l, h => by
    rw [bytS] at h ⊢
    split at h
    · simp at h
    · rename_i hi; rw [if_neg hi]
theorem bytS_full (ws : List ByteArray) (l : List Int) {n0 : Nat} (hn : n0 = (bytS ws l).2) : (bytS ws (l.take n0)).1 = (bytS ws l).1 := by
  have hkt := (bytS_take ws l n0 (by omega)).1
  have hll := bytS_le ws l
  have hlen : (l.take n0).length = n0 := by rw [List.length_take]; omega
  have hall := bytS_app ws (l.take n0) (l.drop n0)
  rw [List.take_append_drop, if_pos (by rw [hkt, hlen]), hlen] at hall
  have h0 : (bytS ws (l.drop n0)).2 = 0 := by rw [hall] at hn; simp only at hn; omega
  rw [hall, bytS_zero ws _ h0]
  simp
/-- one group: x ids from k on -/
theorem group {ws : List ByteArray} {rep : Bool} {R : Nat} {l : List Int} {k x n0 : Nat} (hn0 : n0 = (bytS ws l).2) (hk : k ≤ n0) (hx : k + x ≤ l.length) {oa : List UInt8} {p p1 : DkS} {t : Nat} (hm : p.met = false) (hG : Good rep (str (bytS ws (l.take k)).1) oa p)
    (h : feedS ws rep R ((l.drop k).take x) p = (t, p1)) : k + t ≤ n0 ∧ t ≤ x ∧ Good rep (str (bytS ws (l.take (k + t))).1) oa p1 ∧ (k + t < n0 → p1.met = false) ∧ (p.ring = [] → k < n0 → k + x = l.length → 3 * (lgF ws + 3) ≤ R → 1 ≤ t) := by
  obtain ⟨g1, g2, g3⟩ := Good.feed (ws := ws) (rep := rep) (R := R) ((l.drop k).take x) _ oa p hm hG
  rw [h] at g1 g2 g3
  simp only at g1 g2 g3
  have hkt := bytS_take ws l k (by omega)
  have hlen : (l.take k).length = k := by rw [List.length_take]; omega
  have hall := bytS_app ws (l.take k) (l.drop k)
  rw [List.take_append_drop, if_pos (by rw [hkt.1, hlen]), hlen] at hall
  have hpart := bytS_part ws (l.drop k) x
  have hlk : ((l.drop k).take x).length = x := by rw [List.length_take, List.length_drop]; omega
  have hle := bytS_le ws ((l.drop k).take x)
  rw [hlk] at hle hpart
  have htx : t ≤ x := by omega
  have hll := bytS_le ws l
  have hn : n0 = k + (bytS ws (l.drop k)).2 := by rw [hn0, hall]
  refine ⟨by omega, htx, ?_, fun hlt => ?_, fun hr hk0 hxe hR => ?_⟩
  · have e : l.take (k + t) = l.take k ++ (l.drop k).take t := List.take_add
    rw [e, bytS_app, if_pos (by rw [hkt.1, hlen])]
    simp only
    rw [List.take_take, Nat.min_eq_left htx, str_app] at g2
    exact g2
  · cases hp : p1.met with
    | false => rfl
    | true =>
      obtain ⟨h1, h2⟩ := g3 hp
      rw [hlk] at h2
      have := hpart.2 h2
      omega
  · obtain ⟨id, hid, hi⟩ := hkt.2 (by omega)
    have h0 : ((l.drop k).take x)[0]? = some id := by rw [List.getElem?_take, if_pos (by omega), List.getElem?_drop, Nat.add_zero]; exact hid
    have := feed_some (ws := ws) (rep := rep) (R := R) hm h0 hi hG.len.2.1 hr hR
    rw [h] at this
    exact this
theorem emS_nil (rep : Bool) : emS rep .empty = [] := by cases rep <;> decide +kernel
/-- what is emitted, and what is held, emitted at the end -/
theorem em_all (rep : Bool) (S : ByteArray) : emS rep (S.extract 0 (cutS S)) ++ emS rep (S.extract (cutS S) S.size) = emS rep S := by
  have hh := compl_held S
  rw [← cut_compl] at hh
  obtain ⟨C, hC⟩ : ∃ C, C = cutS S := ⟨_, rfl⟩
  have hle := cut_le S
  rw [← hC] at hle hh ⊢
  have e := ext_two S C hle
  unfold emS
  cases rep with
  | false =>
    simp only [Bool.false_eq_true, if_false]
    rw [← Array.toList_append, ← ByteArray.data_append, e]
  | true =>
    simp only [if_true]
    rw [← repl_lead _ _, e]
    rintro ⟨h1, h2⟩
    rw [ByteArray.size_extract] at h1
    have hb : byteAt (S.extract C S.size) 0 = byteAt S C := by
      rw [byteAt_ls, byteAt_ls, ext_end, List.getD_eq_getElem?_getD, List.getD_eq_getElem?_getD, List.getElem?_drop, Nat.add_zero]
    rw [hb] at h2
    rcases hh with hh | hh
    · omega
    · have := need_lead hh.parts.1
      omega
/-- after the flush: what was read, waits, is held -/
structure Fin (rep : Bool) (S : ByteArray) (j : Nat) (out : List UInt8) (x : DkS) : Prop where
  fl : x.flushed = true
  all : out ++ x.ring ++ emS rep x.held = emS rep S
  one : 1 ≤ j → x.held = .empty
  two : 2 ≤ j → x.ring = []
  h3 : x.held.size ≤ 3
theorem Fin.start {rep : Bool} {S : ByteArray} {out : List UInt8} {x : DkS} {R : Nat} (h : Good rep S out x) (hf : x.flushed = false) : Fin rep S 0 out (dkFlushS R rep x) := by
  have h3 := h.len.2.1
  have ha : out ++ x.ring ++ emS rep x.held = emS rep S := by rw [h.emit, h.held]; exact em_all rep S
  unfold dkFlushS
  rw [if_neg (by simp [hf])]
  unfold settleS
  simp only
  split
  · refine ⟨rfl, ?_, fun _ => rfl, fun h => absurd h (by omega), by simp⟩
    simp only
    rw [emS_nil, List.append_nil, ← List.append_assoc]
    exact ha
  · exact ⟨rfl, ha, fun h => absurd h (by omega), fun h => absurd h (by omega), h3⟩
theorem Fin.read {rep : Bool} {S : ByteArray} {j : Nat} {out : List UInt8} {x : DkS} {R : Nat} {k : Int} (h : Fin rep S j out x) (hk : (x.ring.length : Int) ≤ k) (hR : 9 ≤ R) : min k.toNat x.ring.length = x.ring.length ∧ Fin rep S (j + 1) (out ++ x.ring) (dkReadS R rep k x) := by
  have hm : min k.toNat x.ring.length = x.ring.length := Nat.min_eq_right (by omega)
  refine ⟨hm, ?_⟩
  unfold dkReadS
  rw [hm, List.drop_length]
  have hl := emS_len3 rep x.held
  have h3 := h.h3
  unfold settleS
  simp only
  rw [if_pos ⟨h.fl, by simp only [List.length_nil]; omega⟩]
  refine ⟨h.fl, ?_, fun _ => rfl, fun h2 => ?_, by simp⟩
  · simp only
    rw [emS_nil, List.append_nil, List.nil_append]
    exact h.all
  · simp only
    rw [h.one (by omega), emS_nil]; rfl
theorem Fin.len {rep : Bool} {S : ByteArray} {j : Nat} {out : List UInt8} {x : DkS} (h : Fin rep S j out x) : out.length + x.ring.length ≤ 3 * S.size := by
  have h1 := congrArg List.length h.all
  have h2 := emS_len3 rep S
  rw [List.length_append, List.length_append] at h1
  omega
theorem Fin.done {rep : Bool} {S : ByteArray} {out : List UInt8} {x : DkS} (h : Fin rep S 3 out x) : out = emS rep S ∧ x.held = .empty := by
  have h1 := h.all
  rw [h.one (by omega), h.two (by omega), emS_nil, List.append_nil, List.append_nil] at h1
  exact ⟨h1, h.one (by omega)⟩
end Go.Proofs.YtemnanhoiacphaaDoor
