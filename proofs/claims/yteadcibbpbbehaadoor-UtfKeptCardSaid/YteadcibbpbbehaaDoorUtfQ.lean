/- the program's items are the reference's: plain. -/
import Derived.Test.YteadcibbpbbehaaDoorUtfX
import Derived.Test.YteadcibbpbbehaaDoorUtfT
import Derived.Test.YteadcibbpbbehaaDoorUtfL
set_option linter.unusedVariables false
set_option linter.unusedSimpArgs false
namespace Go.Proofs.YteadcibbpbbehaaDoor
open Go.RowKit

theorem itAt_good {s : ByteArray} {p : Nat} (hp : p < s.size) (hw : widthS s p ≠ 0) : itAt s p = ⟨p, widthS s p, readS s p (widthS s p), false⟩ := by
  have e := (dec_eq s p hp).1 hw
  have hb := bad_width s p hp
  rw [decide_eq_false hw, e] at hb
  unfold itAt
  rw [e, hb]
theorem itAt_bad {s : ByteArray} {p : Nat} (hp : p < s.size) (hw : widthS s p = 0) : itAt s p = ⟨p, 1, 65533, true⟩ := by
  have e := (dec_eq s p hp).2 hw.symm
  unfold itAt
  rw [e]; rfl
theorem width_of_cont {s : ByteArray} {p : Nat} (h : 128 ≤ byteAt s p ∧ byteAt s p ≤ 191) : widthS s p = 0 := by
  have hn : needN (byteAt s p) = 0 := by unfold needN; (repeat' split) <;> omega
  unfold widthS
  rw [if_neg (by omega), if_pos (.inl hn)]
theorem items_bads (s : ByteArray) : ∀ (f p : Nat), (∀ i, p ≤ i → i < s.size → widthS s i = 0) → itemsF s f p = badsF s f p
  | 0, _, _ => rfl
  | f + 1, p, h => by
    rw [itemsF, badsF]
    by_cases hp : p < s.size
    · have hw := h p (Nat.le_refl _) hp
      have hd : (Utf8.decode s p).2 = 1 := by rw [dec_width s p hp, if_pos hw]
      rw [if_pos hp, if_pos hp, itAt_bad hp hw, hd, items_bads s f (p + 1) (fun i h1 h2 => h i (by omega) h2)]
    · rw [if_neg hp, if_neg hp]
theorem items_ref (s : ByteArray) : ∀ (m p : Nat), p + m = s.size → itemsF s (s.size - p) p = (complF s (s.size - p) p).1 ++ badsF s (s.size - (complF s (s.size - p) p).2) (complF s (s.size - p) p).2 := by
  intro m
  induction m using Nat.strongRecOn with
  | ind m ih =>
    intro p hm
    by_cases hp : p < s.size
    · by_cases hw : widthS s p = 0
      · by_cases hb : beginsS s p = s.size - p
        · have hH : Held s p := ⟨hp, hb⟩
          rw [complF_held hp hw.symm hb]
          simp only [List.nil_append]
          refine items_bads s _ p ?_
          intro i h1 h2
          by_cases hi : i = p
          · rw [hi]; exact hw
          · exact width_of_cont (hH.cont.2 i (by omega) h2)
        · have hd : (Utf8.decode s p).2 = 1 := by rw [dec_width s p hp, if_pos hw]
          rw [complF_bad hp hw.symm hb, itemsF_step hp, itAt_bad hp hw, hd, ih (m - 1) (by omega) (p + 1) (by omega)]
          rfl
      · have hf := widthS_fits s p hp hw
        have hd : (Utf8.decode s p).2 = widthS s p := by rw [dec_width s p hp, if_neg hw]
        rw [complF_good hp rfl hw, itemsF_step hp, itAt_good hp hw, hd, ih (m - widthS s p) (by omega) (p + widthS s p) (by omega)]
        rfl
    · obtain rfl : p = s.size := by omega
      rw [Nat.sub_self]; simp [itemsF, complF, badsF]
theorem itemsU_eq (s : ByteArray) : itemsU s = refItems s := items_ref s s.size 0 (by omega)
end Go.Proofs.YteadcibbpbbehaaDoor
