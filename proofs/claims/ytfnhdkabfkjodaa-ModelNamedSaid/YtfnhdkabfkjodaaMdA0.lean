/- What a right model's data say: the plain law of ModelAll. -/
import Derived.Test.YtfnhdkabfkjodaaMd7
set_option linter.unusedVariables false
set_option linter.unusedSimpArgs false
namespace Go.Proofs.Ytfnhdkabfkjodaa
open Go.RowKit Go.Maps

theorem pairs_at (ws : List ByteArray) (ms : List Mg) : ∀ (l done : List Mg) (i : Nat), (pairsAt ws done i l).2 = 0 → ∀ (k : Nat) (m : Mg), l[k]? = some m →
    badId ws (done ++ l.take k) m.id = false ∧ (partB (idsOf (done ++ l.take k)) m.l && partB (idsOf (done ++ l.take k)) m.r) = true ∧ (wordB ws m.id).data.toList = (wordB ws m.l ++ wordB ws m.r).data.toList ∧ lookM 0 (done ++ l.take k) (m.l, m.r) = none
  | [], _, _, _, k, m, hm => by simp at hm
  | x :: l, done, i, h, k, m, hm => by
    rw [pairsAt] at h
    by_cases h1 : badId ws done x.id = true
    · rw [if_pos h1] at h; cases h
    · rw [if_neg h1] at h
      by_cases h2 : (partB (idsOf done) x.l && partB (idsOf done) x.r) = false
      · rw [if_pos h2] at h; cases h
      · rw [if_neg h2] at h
        by_cases h3 : ¬ (wordB ws x.id).data.toList = (wordB ws x.l ++ wordB ws x.r).data.toList
        · rw [if_pos h3] at h; cases h
        · rw [if_neg h3] at h
          by_cases h4 : (lookM 0 done (x.l, x.r)).isSome = true
          · rw [if_pos h4] at h; cases h
          · rw [if_neg h4] at h
            cases k with
            | zero =>
              obtain rfl : x = m := by simpa using hm
              rw [List.take_zero, List.append_nil]
              exact ⟨by simpa using h1, by simpa using h2, Classical.not_not.1 h3, by simpa using h4⟩
            | succ k =>
              have := pairs_at ws ms l (done ++ [x]) (i + 1) h k m (by simpa using hm)
              rw [List.take_succ_cons]
              simpa using this
theorem fault_parts {ws : List ByteArray} {ms : List Mg} {a b d : List Sp} (h : (faultW ws ms a b d).1 = 0) : ws.length = ms.length ∧ ms.length ≤ 4096 ∧ (checkW a b d).1 = 0 ∧ (wordsAt [] 0 ws).2 = 0 ∧ (pairsAt ws [] 0 ms).2 = 0 := by
  unfold faultW at h
  by_cases h1 : 4096 < ms.length
  · rw [if_pos h1] at h; cases h
  · rw [if_neg h1] at h
    by_cases h2 : ws.length ≠ ms.length
    · rw [if_pos h2] at h; cases h
    · rw [if_neg h2] at h
      by_cases h3 : (checkW a b d).1 ≠ 0
      · rw [if_pos h3] at h; exact absurd h h3
      · rw [if_neg h3] at h
        by_cases h4 : (wordsAt [] 0 ws).2 ≠ 0
        · rw [if_pos h4] at h; exact absurd h h4
        · rw [if_neg h4] at h
          by_cases h5 : (pairsAt ws [] 0 ms).2 ≠ 0
          · rw [if_pos h5] at h; exact absurd h h5
          · exact ⟨by omega, by omega, by omega, by omega, by omega⟩
theorem lookM_app {p : Int × Int} : ∀ (l r : List Mg) (i : Nat), lookM i l p = none → lookM i (l ++ r) p = lookM (i + l.length) r p
  | [], r, i, _ => by simp
  | x :: l, r, i, h => by
    rw [lookM] at h
    by_cases hx : (x.l, x.r) = p
    · rw [if_pos hx] at h; cases h
    · rw [if_neg hx] at h
      rw [List.cons_append, lookM, if_neg hx, lookM_app l r (i + 1) h, List.length_cons]
      congr 1; omega
/-- one merge of a right model -/
theorem right_at {ws : List ByteArray} {ms : List Mg} {a b d : List Sp} (h : (faultW ws ms a b d).1 = 0) {k : Nat} {m : Mg} (hm : ms[k]? = some m) :
    (256 ≤ m.id ∧ m.id < 256 + (ws.length : Int)) ∧ (idsOf (ms.take k)).contains m.id = false ∧ partB (idsOf (ms.take k)) m.l = true ∧ partB (idsOf (ms.take k)) m.r = true ∧ (wordB ws m.id).data.toList = (wordB ws m.l ++ wordB ws m.r).data.toList ∧ lookM 0 ms (m.l, m.r) = some (k, m.id) := by
  obtain ⟨_, _, _, _, h5⟩ := fault_parts h
  have h6 := pairs_at ws ms ms [] 0 h5 k m hm
  simp only [List.nil_append] at h6
  obtain ⟨h7, h8, h9, h10⟩ := h6
  unfold badId at h7
  rw [Bool.or_eq_false_iff] at h7
  rw [Bool.and_eq_true] at h8
  have hk : k < ms.length := (List.getElem?_eq_some_iff.1 hm).1
  refine ⟨by have := of_decide_eq_false h7.1; omega, h7.2, h8.1, h8.2, h9, ?_⟩
  have e : ms = ms.take k ++ ms.drop k := (List.take_append_drop k ms).symm
  rw [e, lookM_app _ _ _ h10, drop_cons' hm, lookM, if_pos rfl, List.length_take]
  congr 2; omega
/-- a part below the k-th merge -/
theorem part_at {ws : List ByteArray} {ms : List Mg} {a b d : List Sp} (h : (faultW ws ms a b d).1 = 0) {k : Nat} {id : Int} (hp : partB (idsOf (ms.take k)) id = true) :
    isWord ws id = true ∧ (256 ≤ id → (idsOf (ms.take k)).contains id = true) := by
  unfold partB at hp
  rw [Bool.or_eq_true, Bool.and_eq_true] at hp
  unfold isWord
  rcases hp with hp | ⟨h1, h2⟩
  · have := of_decide_eq_true hp
    exact ⟨decide_eq_true (by omega), fun h => by omega⟩
  · have h1 := of_decide_eq_true h1
    refine ⟨?_, fun _ => h2⟩
    rw [List.contains_iff_mem] at h2
    obtain ⟨m, hm, rfl⟩ := List.mem_map.1 h2
    obtain ⟨j, hj⟩ := List.mem_iff_getElem?.1 (List.mem_of_mem_take hm)
    have := (right_at h hj).1
    exact decide_eq_true (by omega)

/-- ids and their ranks -/
noncomputable def rankTy : MapTy Try.prog Int Int where
  t := 47
  kt := 3
  et := 3
  R := numR
  ok n := i64ok n
  key n := .int .i64 n
  kl n := .int .i64 n
  val n := .int .i64 n
  vd n := .lit (.int .i64 n)
  zero := 0
  law := int_keyed (q := .i64) (by kernel_rfl)
  under := by kernel_rfl
  hkey a h := by
    have hu : Try.prog.underlying 3 = some (.int .i64) := by kernel_rfl
    have wl := wf64 h
    simp [keyOf, mapKey, hu, wl]
  hinj a b _ _ h := by injection h
  hR b := rfl
  hRi v b ps h := numR_inv h
  hz w := by kernel_rfl
end Go.Proofs.Ytfnhdkabfkjodaa
