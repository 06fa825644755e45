/- UtfHeld: plain. -/
import Derived.Test.YteadcibbpbbehaaDoorSc0
import Derived.Test.YteadcibbpbbehaaDoorUtfN
namespace Go.Proofs.YteadcibbpbbehaaDoor
open Go.RowKit

def appB (s : ByteArray) (c : Nat) : ByteArray := s ++ str [UInt8.ofNat c]
theorem appB_list (s : ByteArray) (c : Nat) : (appB s c).data.toList = s.data.toList ++ [UInt8.ofNat c] := by
  unfold appB; rw [ByteArray.data_append, Array.toList_append]; rfl
theorem appB_size (s : ByteArray) (c : Nat) : (appB s c).size = s.size + 1 := by
  rw [Lib.size_eq, appB_list, List.length_append, ← Lib.size_eq]; rfl
theorem byteAt_l (s : ByteArray) (i : Nat) : byteAt s i = (s.data.toList.getD i 0).toNat := by
  unfold byteAt; rw [Lib.getD_get!']
theorem appB_last (s : ByteArray) (c : Nat) (hc : c < 256) : byteAt (appB s c) s.size = c := by
  rw [byteAt_l, appB_list, List.getD_eq_getElem?_getD, List.getElem?_append_right (by rw [← Lib.size_eq]; exact Nat.le_refl _), ← Lib.size_eq, Nat.sub_self]
  simp; omega
theorem appB_goes (s : ByteArray) (c : Nat) : Goes s (appB s c) := by
  refine ⟨by rw [appB_size]; omega, fun i hi => ?_⟩
  rw [byteAt_l, byteAt_l, appB_list, List.getD_eq_getElem?_getD, List.getD_eq_getElem?_getD, List.getElem?_append_left (by rw [← Lib.size_eq]; exact hi)]

/-- the law's test at one byte -/
def heldB (s : ByteArray) (n c : Nat) : Bool := decide (tailU (appB s c) = n + 1) || (decide (tailU (appB s c) = 0) && (match (itemsU (appB s c)).getLast? with | some y => !y.bad && decide (y.n = n + 1) | none => false))

theorem tail_of_held {s : ByteArray} {q : Nat} (h : Held s q) : tailU s = s.size - q := by
  have := h.end_ q 0 (by omega)
  rw [Nat.sub_zero] at this
  rw [tailU_eq]; unfold complS; rw [this]
theorem held_of_tail {s : ByteArray} (h : tailU s ≠ 0) : Held s (s.size - tailU s) ∧ tailU s ≤ s.size := by
  rw [tailU_eq] at h ⊢
  rcases compl_held s with e | e
  · rw [e] at h; omega
  · have := e.1
    rw [show s.size - (s.size - (complS s).2) = (complS s).2 by omega]
    exact ⟨e, by omega⟩

theorem fits_next (most m b0 b1 b2 b3 b1' b2' b3' : Nat) (hm : 1 ≤ m) (h1 : 1 < m → b1' = b1) (h2 : 2 < m → b2' = b2) (h3 : 3 < m → b3' = b3) (hf : fitsP most m b0 b1 b2 b3 = m) (hlt : m < most) (hmo : most ≤ 4)
    (hok : (m = 1 → secondN b0 b1' = true) ∧ (m = 2 → contN b2' = true) ∧ (m = 3 → contN b3' = true)) : fitsP most (m + 1) b0 b1' b2' b3' = m + 1 := by
  rcases (show m = 1 ∨ m = 2 ∨ m = 3 by omega) with rfl | rfl | rfl
  · have h := hok.1 rfl
    exact fitsP_2 ⟨hlt, by omega, h⟩ (by omega)
  · obtain rfl := h1 (by omega)
    have h := hok.2.1 rfl
    have hs : secondN b0 b1' = true := by
      cases hb : secondN b0 b1' with
      | true => rfl
      | false => rw [fitsP_1 (by rw [hb]; simp)] at hf; omega
    exact fitsP_3 ⟨by omega, by omega, hs⟩ ⟨hlt, by omega, h⟩ (by omega)
  · obtain rfl := h1 (by omega)
    obtain rfl := h2 (by omega)
    have h := hok.2.2 rfl
    have hs : secondN b0 b1' = true := by
      cases hb : secondN b0 b1' with
      | true => rfl
      | false => rw [fitsP_1 (by rw [hb]; simp)] at hf; omega
    have hs2 : contN b2' = true := by
      cases hb : contN b2' with
      | true => rfl
      | false => rw [fitsP_2 ⟨by omega, by omega, hs⟩ (by rw [hb]; simp)] at hf; omega
    exact fitsP_4 ⟨by omega, by omega, hs⟩ ⟨by omega, by omega, hs2⟩ ⟨hlt, by omega, h⟩

/-- some byte goes on -/
theorem held_some (s : ByteArray) (hn : tailU s ≠ 0) : ∃ c, 128 ≤ c ∧ c < 192 ∧ heldB s (tailU s) c = true := by
  obtain ⟨hH, hle⟩ := held_of_tail hn
  obtain ⟨q, hq⟩ : ∃ q, q = s.size - tailU s := ⟨_, rfl⟩
  rw [← hq] at hH
  have hnq : tailU s = s.size - q := by omega
  obtain ⟨hp1, hp2⟩ := hH.parts
  have hql := hH.1
  have hc3 := hH.cont.1
  have hn2 := need_two hp1
  have hn4 := needN_le (byteAt s q)
  have hlead := need_lead hp1
  have hml : s.size - q < needN (byteAt s q) := by
    have hb := fits_bytes (needN (byteAt s q) - 1) (s.size - q) (byteAt s q) (byteAt s (q + 1)) (byteAt s (q + 2)) (byteAt s (q + 3))
    have h2' : fitsP (needN (byteAt s q) - 1) (s.size - q) (byteAt s q) (byteAt s (q + 1)) (byteAt s (q + 2)) (byteAt s (q + 3)) = s.size - q := hp2
    rw [h2'] at hb
    generalize s.size - q = m at hb hn hnq
    generalize needN (byteAt s q) = k at hb hn2
    omega
  have hlo : 128 ≤ secLo (byteAt s q) ∧ secLo (byteAt s q) ≤ 191 ∧ secLo (byteAt s q) ≤ secHi (byteAt s q) := by
    unfold secLo secHi; (repeat' split) <;> omega
  obtain ⟨c, hc⟩ : ∃ c, c = if s.size - q = 1 then secLo (byteAt s q) else 128 := ⟨_, rfl⟩
  have hc1 : 128 ≤ c ∧ c < 192 := by rw [hc]; split <;> omega
  refine ⟨c, hc1.1, hc1.2, ?_⟩
  have hg := appB_goes s c
  have hsz := appB_size s c
  have hlast := appB_last s c (by omega)
  have hb0 : byteAt (appB s c) q = byteAt s q := hg.2 q hql
  have hfn : fitsS s q (needN (byteAt s q)) = s.size - q := by
    rcases Nat.lt_or_ge (s.size - q) (needN (byteAt s q) - 1) with h | h
    · have hb := fits_pred (needN (byteAt s q)) (s.size - q) (byteAt s q) (byteAt s (q + 1)) (byteAt s (q + 2)) (byteAt s (q + 3)) hn2 hn4
      have h2' : fitsP (needN (byteAt s q) - 1) (s.size - q) (byteAt s q) (byteAt s (q + 1)) (byteAt s (q + 2)) (byteAt s (q + 3)) = s.size - q := hp2
      show fitsP (needN (byteAt s q)) (s.size - q) (byteAt s q) (byteAt s (q + 1)) (byteAt s (q + 2)) (byteAt s (q + 3)) = s.size - q
      omega
    · have hb := fits_pred (needN (byteAt s q)) (s.size - q) (byteAt s q) (byteAt s (q + 1)) (byteAt s (q + 2)) (byteAt s (q + 3)) hn2 hn4
      have h2' : fitsP (needN (byteAt s q) - 1) (s.size - q) (byteAt s q) (byteAt s (q + 1)) (byteAt s (q + 2)) (byteAt s (q + 3)) = s.size - q := hp2
      have hle := fits_le (needN (byteAt s q)) (s.size - q) (byteAt s q) (byteAt s (q + 1)) (byteAt s (q + 2)) (byteAt s (q + 3)) (by omega)
      show fitsP (needN (byteAt s q)) (s.size - q) (byteAt s q) (byteAt s (q + 1)) (byteAt s (q + 2)) (byteAt s (q + 3)) = s.size - q
      omega
  have hfx : fitsS (appB s c) q (needN (byteAt s q)) = s.size - q + 1 := by
    have hm1 : (appB s c).size - q = s.size - q + 1 := by omega
    unfold fitsS
    rw [hm1, hb0]
    refine fits_next _ _ _ _ _ _ _ _ _ (by omega) (fun k => hg.2 _ (by omega)) (fun k => hg.2 _ (by omega)) (fun k => hg.2 _ (by omega)) hfn hml hn4 ⟨fun e => ?_, fun e => ?_, fun e => ?_⟩
    · rw [show q + 1 = s.size by omega, hlast, hc, if_pos e, secondN_iff]; omega
    · rw [show q + 2 = s.size by omega, hlast, hc, if_neg (by omega)]; decide
    · rw [show q + 3 = s.size by omega, hlast, hc, if_neg (by omega)]; decide
  have hnm : tailU s = s.size - q := hnq
  unfold heldB
  rcases Nat.lt_or_ge (s.size - q + 1) (needN (byteAt s q)) with h | h
  · have hH2 : Held (appB s c) q := by
      refine ⟨by omega, ?_⟩
      unfold beginsS
      rw [hb0, if_neg hp1, hsz]
      have hp := fits_pred (needN (byteAt s q)) ((appB s c).size - q) (byteAt s q) (byteAt (appB s c) (q + 1)) (byteAt (appB s c) (q + 2)) (byteAt (appB s c) (q + 3)) hn2 hn4
      have hfx' : fitsP (needN (byteAt s q)) ((appB s c).size - q) (byteAt s q) (byteAt (appB s c) (q + 1)) (byteAt (appB s c) (q + 2)) (byteAt (appB s c) (q + 3)) = s.size - q + 1 := by
        have := hfx; unfold fitsS at this; rw [hb0] at this; exact this
      show fitsP (needN (byteAt s q) - 1) ((appB s c).size - q) (byteAt (appB s c) q) (byteAt (appB s c) (q + 1)) (byteAt (appB s c) (q + 2)) (byteAt (appB s c) (q + 3)) = _
      rw [hb0, hp, hfx']; omega
    have ht := tail_of_held hH2
    rw [Bool.or_eq_true]
    exact .inl (decide_eq_true (by rw [ht, hsz, hnm]; omega))
  · have hw : widthS (appB s c) q = needN (byteAt s q) := by
      unfold widthS
      rw [hb0, if_neg (by omega), if_neg]
      rw [hfx]; omega
    have hend := hH.end_ q 0 (by omega)
    rw [Nat.sub_zero] at hend
    have hcn := compl_next hg
    have he2 : (complS s).2 = q := hend
    have hqx : q < (appB s c).size := by omega
    have hst := scanS_step (all := false) hqx (.inr (by
      cases hbb : beginsGo ((appB s c).extract q (appB s c).size) with
      | false => rfl
      | true =>
        have := ((begins_held _ _ hqx).1 hbb).width
        rw [hw] at this; omega))
    have hig : itAt (appB s c) q = ⟨q, widthS (appB s c) q, readS (appB s c) q (widthS (appB s c) q), false⟩ := itAt_good hqx (by rw [hw]; exact hp1)
    have hqe : q + widthS (appB s c) q = (appB s c).size := by rw [hw, hsz]; omega
    rw [hig] at hst
    simp only [hqe, scanS_end] at hst
    rw [he2, hst] at hcn
    have htail : tailU (appB s c) = 0 := by rw [tailU_eq, hcn]; simp
    have hitems : itemsU (appB s c) = (complS s).1 ++ [⟨q, widthS (appB s c) q, readS (appB s c) q (widthS (appB s c) q), false⟩] := by
      rw [itemsU_eq]; unfold refItems; rw [hcn]; simp [badsF]
    rw [hitems, htail, hnm, hw]
    simp
    omega
theorem items_ne {s : ByteArray} (h : 0 < s.size) : ∃ l y, itemsU s = l ++ [y] := by
  have hne : itemsU s ≠ [] := by
    have := itemsF_step (s := s) (p := 0) h
    rw [Nat.sub_zero] at this
    unfold itemsU; rw [this]; simp
  exact ⟨_, _, (List.dropLast_concat_getLast hne).symm⟩
end Go.Proofs.YteadcibbpbbehaaDoor
