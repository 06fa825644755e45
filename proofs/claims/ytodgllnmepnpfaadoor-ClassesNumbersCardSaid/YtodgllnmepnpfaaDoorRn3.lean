/- The reference of chapter 4: Runs. -/
import Derived.Test.YtodgllnmepnpfaaDoorRn0
import Derived.Test.YtodgllnmepnpfaaDoorCls2
import Derived.Test.YtodgllnmepnpfaaDoorUtfX
import Derived.Test.YtodgllnmepnpfaaDoorUtfC
import Derived.Test.YtodgllnmepnpfaaDoorApStep
import Derived.Deep.RegionHeld3
import Derived.Deep.DeepCutAuto
set_option linter.unusedVariables false
set_option linter.unusedSimpArgs false
namespace Go.Proofs.YtodgllnmepnpfaaDoor
open Go.RowKit

theorem itAt_good' {s : ByteArray} {p : Nat} (hp : p < s.size) (hw : widthS s p ≠ 0) : itAt s p = ⟨p, widthS s p, readS s p (widthS s p), false⟩ := by
  have e := (dec_eq s p hp).1 hw
  have hb := bad_width s p hp
  rw [decide_eq_false hw, e] at hb
  unfold itAt
  rw [e, hb]
theorem itAt_bad' {s : ByteArray} {p : Nat} (hp : p < s.size) (hw : widthS s p = 0) : itAt s p = ⟨p, 1, 65533, true⟩ := by
  have e := (dec_eq s p hp).2 hw.symm
  unfold itAt
  rw [e]; rfl
theorem width_of_cont' {s : ByteArray} {p : Nat} (h : 128 ≤ byteAt s p ∧ byteAt s p ≤ 191) : widthS s p = 0 := by
  have hn : needN (byteAt s p) = 0 := by unfold needN; (repeat' split) <;> omega
  unfold widthS
  rw [if_neg (by omega), if_pos (.inl hn)]
theorem items_bads' (s : ByteArray) : ∀ (f p : Nat), (∀ i, p ≤ i → i < s.size → widthS s i = 0) → itemsF s f p = badsF s f p
  | 0, _, _ => rfl
  | f + 1, p, h => by
    rw [itemsF, badsF]
    by_cases hp : p < s.size
    · have hw := h p (Nat.le_refl _) hp
      have hd : (Utf8.decode s p).2 = 1 := by rw [dec_width s p hp, if_pos hw]
      rw [if_pos hp, if_pos hp, itAt_bad' hp hw, hd, items_bads' s f (p + 1) (fun i h1 h2 => h i (by omega) h2)]
    · rw [if_neg hp, if_neg hp]
theorem items_ref' (s : ByteArray) : ∀ (m p : Nat), p + m = s.size → itemsF s (s.size - p) p = (complF s (s.size - p) p).1 ++ badsF s (s.size - (complF s (s.size - p) p).2) (complF s (s.size - p) p).2 := by
  intro m
  induction m using Nat.strongRecOn with
  | ind m ih =>
    intro p hm
    by_cases hp : p < s.size
    · by_cases hw : widthS s p = 0
      · by_cases hb : beginsS s p = s.size - p
        · have hH : Held s p := ⟨hp, hb⟩
          rw [complF_held hp hw.symm hb]
          simp only [List.nil_append]
          refine items_bads' s _ p ?_
          intro i h1 h2
          by_cases hi : i = p
          · rw [hi]; exact hw
          · exact width_of_cont' (hH.cont.2 i (by omega) h2)
        · have hd : (Utf8.decode s p).2 = 1 := by rw [dec_width s p hp, if_pos hw]
          rw [complF_bad hp hw.symm hb, itemsF_step hp, itAt_bad' hp hw, hd, ih (m - 1) (by omega) (p + 1) (by omega)]
          rfl
      · have hf := widthS_fits s p hp hw
        have hd : (Utf8.decode s p).2 = widthS s p := by rw [dec_width s p hp, if_neg hw]
        rw [complF_good hp rfl hw, itemsF_step hp, itAt_good' hp hw, hd, ih (m - widthS s p) (by omega) (p + widthS s p) (by omega)]
        rfl
    · obtain rfl : p = s.size := by omega
      rw [Nat.sub_self]; simp [itemsF, complF, badsF]
theorem itemsU_eq' (s : ByteArray) : itemsU s = refItems s := items_ref' s s.size 0 (by omega)

/-! ### one item more -/
def rns (L : List RunD) : List Value := L.flatMap RunD.enc
theorem rns_length (L : List RunD) : (rns L).length = L.length * 4 := by
  unfold rns
  induction L with
  | nil => rfl
  | cons x L ih => rw [List.flatMap_cons, List.length_append, ih, List.length_cons]; simp [RunD.enc]; omega
/-- the last run is gone on with -/
def moreR (x : It) (c : RunD) : RunD := ⟨c.k, c.f, x.at_ + x.n, c.n + 1⟩
theorem runsG_snoc (a b d : List Sp) (x : It) : ∀ (l : List It) (c : RunD), ∃ O r, runsG a b d c l = O ++ [r] ∧ runsG a b d c (l ++ [x]) = if kindIt a b d x = r.k then O ++ [moreR x r] else O ++ [r, .one a b d x]
  | [], c => ⟨[], c, rfl, by
    rw [List.nil_append, runsG]
    split
    · rfl
    · rfl⟩
  | y :: l, c => by
    rw [runsG, List.cons_append, runsG]
    split
    · exact runsG_snoc a b d x l _
    · obtain ⟨O, r, h1, h2⟩ := runsG_snoc a b d x l (.one a b d y)
      refine ⟨c :: O, r, by rw [h1]; rfl, ?_⟩
      rw [h2]
      split <;> rfl
theorem runsL_snoc (a b d : List Sp) (x : It) (l : List It) : (l = [] ∧ runsL a b d (l ++ [x]) = [.one a b d x]) ∨ ∃ O r, runsL a b d l = O ++ [r] ∧ runsL a b d (l ++ [x]) = if kindIt a b d x = r.k then O ++ [moreR x r] else O ++ [r, .one a b d x] := by
  cases l with
  | nil => exact .inl ⟨rfl, rfl⟩
  | cons y l => exact .inr (runsG_snoc a b d x l _)
theorem runsG_bd (a b d : List Sp) (N : Nat) : ∀ (l : List It) (c : RunD), (∀ x ∈ l, x.at_ + x.n ≤ N) → c.k ≤ 4 → c.f ≤ N → c.t ≤ N → ∀ r ∈ runsG a b d c l, r.k ≤ 4 ∧ r.f ≤ N ∧ r.t ≤ N ∧ r.n ≤ c.n + l.length + 1
  | [], c, _, h1, h2, h3, r, hr => by
    obtain rfl : r = c := by simpa [runsG] using hr
    exact ⟨h1, h2, h3, by omega⟩
  | y :: l, c, h, h1, h2, h3, r, hr => by
    have hy := h y (List.mem_cons_self ..)
    have hk := kind_le a b d y
    rw [runsG] at hr
    split at hr
    · have := runsG_bd a b d N l ⟨c.k, c.f, y.at_ + y.n, c.n + 1⟩ (fun z hz => h z (List.mem_cons_of_mem _ hz)) h1 h2 hy r hr
      simp only [List.length_cons] at this ⊢; omega
    · rcases List.mem_cons.1 hr with rfl | hr
      · simp only [List.length_cons]; omega
      · have := runsG_bd a b d N l (.one a b d y) (fun z hz => h z (List.mem_cons_of_mem _ hz)) hk.2 (by show y.at_ ≤ N; omega) hy r hr
        simp only [List.length_cons] at this ⊢
        have h1 : (RunD.one a b d y).n = 1 := rfl
        omega
theorem own_set {w : World} {base : Nat} {e : TypeId} {size n g cap : Nat} {xs : List Value} (h : w.ownsRow base e size (.slice (some ⟨g, 0, none⟩) n cap) n xs) (hn : 0 < n) {j : Nat} (hj : j < xs.length) (u : Value) : (w.setCell ⟨g, j, none⟩ u).ownsRow base e size (.slice (some ⟨g, 0, none⟩) n cap) n (xs.set j u) := by
  have h0 := h.1
  obtain ⟨g', cap', sp, hv, hb, hB, hs, hnc, hcm⟩ := own_shape h hn
  injection hv with h1 h2 h3
  injection h1 with h1
  injection h1 with h1 _
  subst h1 h3
  have h4 := hB.set j u
  rw [List.set_append_left _ _ hj] at h4
  exact own_of_blk h4 hb (by rw [List.length_set]; exact h0) hs hnc hcm
theorem own_cell {w : World} {base : Nat} {e : TypeId} {size n g cap : Nat} {xs : List Value} (h : w.ownsRow base e size (.slice (some ⟨g, 0, none⟩) n cap) n xs) (hn : 0 < n) {j : Nat} {u : Value} (hu : xs[j]? = some u) : w.cell? ⟨g, j, none⟩ = some u ∧ w.frozen? ⟨g, j, none⟩ = false := by
  obtain ⟨g', cap', sp, hv, hb, hB, hs, hnc, hcm⟩ := own_shape h hn
  injection hv with h1 h2 h3
  injection h1 with h1
  injection h1 with h1 _
  subst h1
  exact ⟨by rw [hB.cell, List.getElem?_append_left (List.getElem?_eq_some_iff.1 hu).1]; exact hu, hB.frozen j⟩
theorem rns_last (O : List RunD) (r : RunD) (j : Nat) (hj : j < 4) : (rns (O ++ [r]))[O.length * 4 + j]? = r.enc[j]? := by
  unfold rns
  rw [List.flatMap_append, List.getElem?_append_right (by have := rns_length O; unfold rns at this; omega)]
  have := rns_length O
  unfold rns at this
  rw [this, Nat.add_sub_cancel_left]
  simp
theorem rns_set (O : List RunD) (r : RunD) (t n : Nat) : ((rns (O ++ [r])).set (O.length * 4 + 2) (.int .i64 (t : Int))).set (O.length * 4 + 3) (.int .i64 (n : Int)) = rns (O ++ [⟨r.k, r.f, t, n⟩]) := by
  have h := rns_length O
  unfold rns at h ⊢
  rw [List.flatMap_append, List.flatMap_append, List.set_append_right _ _ (by omega), List.set_append_right _ _ (by omega), h, Nat.add_sub_cancel_left, Nat.add_sub_cancel_left]
  rfl
end Go.Proofs.YtodgllnmepnpfaaDoor
