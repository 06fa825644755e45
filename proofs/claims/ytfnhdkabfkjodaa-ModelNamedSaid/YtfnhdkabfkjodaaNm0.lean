/- Words moved and their ids renamed: a right model stays right, and merges alike. Plain. -/
import Derived.Test.YtfnhdkabfkjodaaMdA0
set_option linter.unusedVariables false
set_option linter.unusedSimpArgs false
namespace Go.Proofs.Ytfnhdkabfkjodaa
open Go.RowKit

/-- a renaming of 256 + n ids that keeps the bytes' -/
structure Ren5 (n : Nat) (T : List Nat) : Prop where
  len : T.length = 256 + n
  low : ∀ i : Nat, i < 256 → T[i]? = some i
  hi : ∀ i v : Nat, 256 ≤ i → T[i]? = some v → 256 ≤ v ∧ v < 256 + n
  inj : ∀ i j v : Nat, T[i]? = some v → T[j]? = some v → i = j
  onto : ∀ v : Nat, v < 256 + n → ∃ i : Nat, T[i]? = some v
theorem Ren5.start (n : Nat) : Ren5 n (List.range (256 + n)) := by
  refine ⟨by simp, fun i h => ?_, fun i v h1 h2 => ?_, fun i j v h1 h2 => ?_, fun v h => ⟨v, ?_⟩⟩
  · exact List.getElem?_range (by omega)
  · obtain ⟨h3, h4⟩ := List.getElem?_eq_some_iff.1 h2
    simp at h3 h4
    omega
  · obtain ⟨h3, h4⟩ := List.getElem?_eq_some_iff.1 h1
    obtain ⟨h5, h6⟩ := List.getElem?_eq_some_iff.1 h2
    simp at h4 h6
    omega
  · exact List.getElem?_range (by omega)
theorem swap_at {T : List Nat} {a b x y : Nat} (ha : T[a]? = some x) (hb : T[b]? = some y) (i : Nat) : ((T.set a y).set b x)[i]? = T[if i = b then a else if i = a then b else i]? := by
  have la := (List.getElem?_eq_some_iff.1 ha).1
  have lb := (List.getElem?_eq_some_iff.1 hb).1
  by_cases h1 : i = b
  · subst h1
    rw [if_pos rfl, ha, List.getElem?_set_self (by simpa using lb)]
  · rw [if_neg h1, List.getElem?_set_ne (by omega)]
    by_cases h2 : i = a
    · subst h2
      rw [if_pos rfl, hb, List.getElem?_set_self la]
    · rw [if_neg h2, List.getElem?_set_ne (by omega)]
theorem Ren5.swap {n : Nat} {T : List Nat} (h : Ren5 n T) {a b x y : Nat} (ha : T[a]? = some x) (hb : T[b]? = some y) (h1 : 256 ≤ a) (h2 : 256 ≤ b) : Ren5 n ((T.set a y).set b x) := by
  have key := swap_at ha hb
  refine ⟨by simp [h.len], fun i hi => ?_, fun i v hi hv => ?_, fun i j v hi hj => ?_, fun v hv => ?_⟩
  · rw [key, if_neg (by omega), if_neg (by omega)]; exact h.low i hi
  · rw [key] at hv
    refine h.hi _ v ?_ hv
    split
    · exact h1
    · split <;> assumption
  · rw [key] at hi hj
    have := h.inj _ _ v hi hj
    split at this <;> split at this <;> (try split at this) <;> (try split at this) <;> omega
  · obtain ⟨i, hi⟩ := h.onto v hv
    refine ⟨if i = b then a else if i = a then b else i, ?_⟩
    rw [key, ← hi]
    congr 1
    by_cases e1 : i = b
    · subst e1
      rw [if_pos rfl]
      by_cases e2 : a = i
      · rw [if_pos e2, e2]
      · rw [if_neg e2, if_pos rfl]
    · rw [if_neg e1]
      by_cases e2 : i = a
      · rw [if_pos e2, if_pos rfl, e2]
      · rw [if_neg e2, if_neg e1, if_neg e2]
/-- an id's new name -/
def rn (T : List Nat) (x : Int) : Int := ((T.getD x.toNat 0 : Nat) : Int)
def rnM (T : List Nat) (m : Mg) : Mg := ⟨rn T m.l, rn T m.r, rn T m.id⟩
theorem Ren5.at_ {n : Nat} {T : List Nat} (h : Ren5 n T) {x : Int} (h0 : 0 ≤ x) (h1 : x < 256 + (n : Int)) : ∃ v : Nat, T[x.toNat]? = some v ∧ rn T x = (v : Int) ∧ v < 256 + n ∧ (x < 256 → (v : Int) = x) ∧ (256 ≤ x → 256 ≤ v) := by
  have hl : x.toNat < T.length := by rw [h.len]; omega
  refine ⟨T[x.toNat], List.getElem?_eq_getElem hl, ?_, ?_, fun hx => ?_, fun hx => ?_⟩
  · unfold rn; rw [List.getD_eq_getElem?_getD, List.getElem?_eq_getElem hl]; rfl
  · by_cases hx : x.toNat < 256
    · have := h.low _ hx
      rw [List.getElem?_eq_getElem hl] at this
      have := Option.some.inj this; omega
    · exact (h.hi _ _ (by omega) (List.getElem?_eq_getElem hl)).2
  · have := h.low x.toNat (by omega)
    rw [List.getElem?_eq_getElem hl] at this
    have := Option.some.inj this; omega
  · exact (h.hi _ _ (by omega) (List.getElem?_eq_getElem hl)).1
theorem Ren5.bd {n : Nat} {T : List Nat} (h : Ren5 n T) {x : Int} (h0 : 0 ≤ x) (h1 : x < 256 + (n : Int)) : 0 ≤ rn T x ∧ rn T x < 256 + (n : Int) ∧ (x < 256 → rn T x = x) ∧ (256 ≤ x → 256 ≤ rn T x) := by
  obtain ⟨v, _, e, h2, h3, h4⟩ := h.at_ h0 h1
  rw [e]
  exact ⟨by omega, by omega, h3, fun hx => by have := h4 hx; omega⟩
theorem Ren5.eq {n : Nat} {T : List Nat} (h : Ren5 n T) {x y : Int} (h0 : 0 ≤ x) (h1 : x < 256 + (n : Int)) (k0 : 0 ≤ y) (k1 : y < 256 + (n : Int)) (e : rn T x = rn T y) : x = y := by
  obtain ⟨v, hv, e1, -⟩ := h.at_ h0 h1
  obtain ⟨u, hu, e2, -⟩ := h.at_ k0 k1
  rw [e1, e2] at e
  obtain rfl : v = u := by omega
  have := h.inj _ _ _ hv hu
  omega
/-- the words in their new places -/
def Moved (n : Nat) (T : List Nat) (ws ws' : List ByteArray) : Prop := ws'.length = n ∧ ∀ (i : Nat) (s : ByteArray) (v : Nat), ws[i]? = some s → T[256 + i]? = some v → ws'[v - 256]? = some s
theorem Moved.back {n : Nat} {T : List Nat} {ws ws' : List ByteArray} (h : Moved n T ws ws') (hT : Ren5 n T) (hn : ws.length = n) {p : Nat} {s : ByteArray} (hp : ws'[p]? = some s) : ∃ i, ws[i]? = some s ∧ T[256 + i]? = some (256 + p) := by
  have hpl := (List.getElem?_eq_some_iff.1 hp).1
  rw [h.1] at hpl
  obtain ⟨i, hi⟩ := hT.onto (256 + p) (by omega)
  have hil := (List.getElem?_eq_some_iff.1 hi).1
  rw [hT.len] at hil
  have h256 : 256 ≤ i := by
    apply Classical.byContradiction
    intro hc
    have := hT.low i (by omega)
    rw [hi] at this
    have := Option.some.inj this; omega
  obtain ⟨j, rfl⟩ : ∃ j, i = 256 + j := ⟨i - 256, by omega⟩
  have hjl : j < ws.length := by omega
  have := h.2 j _ _ (List.getElem?_eq_getElem hjl) hi
  rw [Nat.add_sub_cancel_left, hp] at this
  exact ⟨j, by rw [List.getElem?_eq_getElem hjl]; exact this.symm, hi⟩
theorem word_moved {n : Nat} {T : List Nat} {ws ws' : List ByteArray} (h : Moved n T ws ws') (hT : Ren5 n T) (hn : ws.length = n) {x : Int} (h0 : 0 ≤ x) (h1 : x < 256 + (n : Int)) : wordB ws' (rn T x) = wordB ws x := by
  obtain ⟨v, hv, e, h2, h3, h4⟩ := hT.at_ h0 h1
  rw [e]
  unfold wordB
  by_cases hx : x < 256
  · rw [h3 hx, if_pos ⟨h0, hx⟩, if_pos ⟨h0, hx⟩]
  · have := h4 (by omega)
    rw [if_neg (by omega), if_pos (by have := h.1; omega), if_neg (by omega), if_pos (by omega)]
    have hl : (x - 256).toNat < ws.length := by omega
    have := h.2 (x - 256).toNat _ v (List.getElem?_eq_getElem hl) (by rw [show 256 + (x - 256).toNat = x.toNat by omega]; exact hv)
    rw [List.getD_eq_getElem?_getD, List.getD_eq_getElem?_getD, show ((v : Int) - 256).toNat = v - 256 by omega, this, List.getElem?_eq_getElem hl]
theorem words_apart : ∀ (ws seen : List ByteArray) (i : Nat), (wordsAt seen i ws).2 = 0 → ws.Nodup ∧ ∀ s ∈ ws, s ∉ seen
  | [], _, _, _ => ⟨List.nodup_nil, by simp⟩
  | s :: ws, seen, i, h => by
    rw [wordsAt] at h
    by_cases h1 : s.size < 2 ∨ 256 < s.size
    · rw [if_pos h1] at h; cases h
    · rw [if_neg h1] at h
      by_cases h2 : inB s seen = true
      · rw [if_pos h2] at h; cases h
      · rw [if_neg h2] at h
        obtain ⟨h3, h4⟩ := words_apart ws _ _ h
        have h5 : s ∉ seen := fun hm => h2 ((inB_iff _ _).2 hm)
        refine ⟨List.nodup_cons.2 ⟨fun hm => h4 s hm (by simp), h3⟩, fun t ht => ?_⟩
        rcases List.mem_cons.1 ht with rfl | ht
        · exact h5
        · exact fun hm => h4 t ht (by simp [hm])
theorem words_ok : ∀ (ws seen : List ByteArray) (i : Nat), (∀ s ∈ ws, 2 ≤ s.size ∧ s.size ≤ 256) → ws.Nodup → (∀ s ∈ ws, s ∉ seen) → (wordsAt seen i ws).2 = 0
  | [], _, _, _, _, _ => rfl
  | s :: ws, seen, i, h1, h2, h3 => by
    have hs := h1 s (List.mem_cons_self ..)
    rw [wordsAt, if_neg (by omega), if_neg (by rw [inB_iff]; exact h3 s (List.mem_cons_self ..))]
    obtain ⟨h4, h5⟩ := List.nodup_cons.1 h2
    refine words_ok ws _ _ (fun t ht => h1 t (List.mem_cons_of_mem _ ht)) h5 fun t ht hm => ?_
    rcases List.mem_append.1 hm with hm | hm
    · exact h3 t (List.mem_cons_of_mem _ ht) hm
    · simp at hm; subst hm; exact h4 ht
theorem words_moved {n : Nat} {T : List Nat} {ws ws' : List ByteArray} (h : Moved n T ws ws') (hT : Ren5 n T) (hn : ws.length = n) (hw : (wordsAt [] 0 ws).2 = 0) : (wordsAt [] 0 ws').2 = 0 := by
  have hs := words_small ws [] 0 hw
  obtain ⟨hd, -⟩ := words_apart ws [] 0 hw
  refine words_ok ws' [] 0 (fun s hm => ?_) ?_ (by simp)
  · obtain ⟨p, hp⟩ := List.mem_iff_getElem?.1 hm
    obtain ⟨i, hi, _⟩ := h.back hT hn hp
    exact hs s (List.mem_of_getElem? hi)
  · unfold List.Nodup
    rw [List.pairwise_iff_getElem]
    intro p q hp hq hpq e
    obtain ⟨i, hi, ti⟩ := h.back hT hn (List.getElem?_eq_getElem hp)
    obtain ⟨j, hj, tj⟩ := h.back hT hn (List.getElem?_eq_getElem hq)
    rw [← e] at hj
    have il := (List.getElem?_eq_some_iff.1 hi)
    have jl := (List.getElem?_eq_some_iff.1 hj)
    obtain ⟨il, ie⟩ := il
    obtain ⟨jl, je⟩ := jl
    have hij : i = j := by
      apply Classical.byContradiction
      intro hne
      unfold List.Nodup at hd
      rw [List.pairwise_iff_getElem] at hd
      rcases Nat.lt_or_gt_of_ne hne with hl | hl
      · exact hd i j il jl hl (by rw [ie, je])
      · exact hd j i jl il hl (by rw [ie, je])
    subst hij
    rw [ti] at tj
    have := Option.some.inj tj
    omega
theorem pairs_ok (ws : List ByteArray) : ∀ (l done : List Mg) (i : Nat), (∀ (k : Nat) (m : Mg), l[k]? = some m → badId ws (done ++ l.take k) m.id = false ∧ (partB (idsOf (done ++ l.take k)) m.l && partB (idsOf (done ++ l.take k)) m.r) = true ∧ (wordB ws m.id).data.toList = (wordB ws m.l ++ wordB ws m.r).data.toList ∧ lookM 0 (done ++ l.take k) (m.l, m.r) = none) → (pairsAt ws done i l).2 = 0
  | [], _, _, _ => rfl
  | x :: l, done, i, h => by
    obtain ⟨h1, h2, h3, h4⟩ := h 0 x rfl
    rw [List.take_zero, List.append_nil] at h1 h2 h4
    rw [pairsAt, if_neg (by rw [h1]; simp), if_neg (by rw [h2]; simp), if_neg (by rw [Classical.not_not]; exact h3), if_neg (by rw [h4]; simp)]
    refine pairs_ok ws l _ _ fun k m hk => ?_
    have := h (k + 1) m (by simpa using hk)
    rw [List.take_succ_cons] at this
    simpa using this
/-- both parts of a merge are ids -/
def PartsIn (n : Nat) (m : Mg) : Prop := (0 ≤ m.l ∧ m.l < 256 + (n : Int)) ∧ (0 ≤ m.r ∧ m.r < 256 + (n : Int)) ∧ (256 ≤ m.id ∧ m.id < 256 + (n : Int))
theorem look_moved {n : Nat} {T : List Nat} (hT : Ren5 n T) {l r : Int} (hl : 0 ≤ l ∧ l < 256 + (n : Int)) (hr : 0 ≤ r ∧ r < 256 + (n : Int)) : ∀ (L : List Mg) (i : Nat), (∀ m ∈ L, PartsIn n m) → lookM i (L.map (rnM T)) (rn T l, rn T r) = (lookM i L (l, r)).map fun p => (p.1, rn T p.2)
  | [], _, _ => rfl
  | x :: L, i, h => by
    obtain ⟨p1, p2, -⟩ := h x (List.mem_cons_self ..)
    rw [List.map_cons, lookM, lookM]
    by_cases e : (x.l, x.r) = (l, r)
    · rw [if_pos e, if_pos (by injection e with e1 e2; unfold rnM; rw [e1, e2])]; rfl
    · rw [if_neg e, if_neg (fun e' => e (by
        unfold rnM at e'
        injection e' with e1 e2
        rw [hT.eq p1.1 p1.2 hl.1 hl.2 e1, hT.eq p2.1 p2.2 hr.1 hr.2 e2]))]
      exact look_moved hT hl hr L (i + 1) fun m hm => h m (List.mem_cons_of_mem _ hm)
theorem parts_in {ws : List ByteArray} {ms : List Mg} {a b d : List Sp} (h : (faultW ws ms a b d).1 = 0) : ∀ m ∈ ms, PartsIn ws.length m := by
  intro m hm
  obtain ⟨k, hk⟩ := List.mem_iff_getElem?.1 hm
  obtain ⟨h1, -, h2, h3, -⟩ := right_at h hk
  have p1 := (part_at h h2).1
  have p2 := (part_at h h3).1
  unfold isWord at p1 p2
  exact ⟨of_decide_eq_true p1, of_decide_eq_true p2, h1⟩
theorem fault_of {ws : List ByteArray} {ms : List Mg} {a b d : List Sp} (h1 : ws.length = ms.length) (h2 : ms.length ≤ 4096) (h3 : (checkW a b d).1 = 0) (h4 : (wordsAt [] 0 ws).2 = 0) (h5 : (pairsAt ws [] 0 ms).2 = 0) : faultW ws ms a b d = (0, 0, 0) := by
  unfold faultW
  rw [if_neg (by omega), if_neg (by omega), if_neg (by omega), if_neg (by omega), if_neg (by omega)]
theorem contains_moved {n : Nat} {T : List Nat} (hT : Ren5 n T) {x : Int} (hx : 0 ≤ x ∧ x < 256 + (n : Int)) (L : List Mg) (hL : ∀ m ∈ L, PartsIn n m) : (idsOf (L.map (rnM T))).contains (rn T x) = (idsOf L).contains x := by
  rw [Bool.eq_iff_iff, List.contains_iff_mem, List.contains_iff_mem]
  unfold idsOf
  simp only [List.mem_map]
  constructor
  · rintro ⟨y, ⟨m, hm, rfl⟩, e⟩
    have hp := (hL m hm).2.2
    exact ⟨m, hm, hT.eq (by omega) hp.2 hx.1 hx.2 e⟩
  · rintro ⟨m, hm, rfl⟩
    exact ⟨_, ⟨m, hm, rfl⟩, rfl⟩
theorem fault_moved {n : Nat} {T : List Nat} {ws ws' : List ByteArray} {ms : List Mg} {a b d : List Sp} (hT : Ren5 n T) (hn : ws.length = n) (hM : Moved n T ws ws') (h : (faultW ws ms a b d).1 = 0) : faultW ws' (ms.map (rnM T)) a b d = (0, 0, 0) := by
  obtain ⟨h1, h2, h3, h4, h5⟩ := fault_parts h
  refine fault_of (by rw [hM.1, List.length_map]; omega) (by rw [List.length_map]; omega) h3 (words_moved hM hT hn h4) ?_
  have hin := parts_in h
  rw [hn] at hin
  refine pairs_ok ws' _ [] 0 fun k m' hk => ?_
  rw [List.getElem?_map] at hk
  cases hm : ms[k]? with
  | none => rw [hm] at hk; cases hk
  | some m =>
    rw [hm, Option.map_some] at hk
    injection hk with hk
    subst hk
    obtain ⟨g1, g2, g3, g4⟩ := pairs_at ws ms ms [] 0 h5 k m hm
    simp only [List.nil_append] at g1 g2 g4 ⊢
    obtain ⟨q1, q2, q3⟩ := hin m (List.mem_of_getElem? hm)
    have hk' : ∀ x ∈ ms.take k, PartsIn n x := fun x hx => hin x (List.mem_of_mem_take hx)
    rw [← List.map_take]
    refine ⟨?_, ?_, ?_, ?_⟩
    · unfold badId at g1 ⊢
      rw [Bool.or_eq_false_iff] at g1 ⊢
      have hb := hT.bd (x := m.id) (by omega) q3.2
      refine ⟨decide_eq_false (by show ¬ (rn T m.id < 256 ∨ 256 + (ws'.length : Int) ≤ rn T m.id); rw [hM.1]; have := hb.2.2.2 q3.1; omega), ?_⟩
      show (idsOf ((ms.take k).map (rnM T))).contains (rn T m.id) = false
      rw [contains_moved hT ⟨by omega, q3.2⟩ _ hk']; exact g1.2
    · have key : ∀ x : Int, (0 ≤ x ∧ x < 256 + (n : Int)) → partB (idsOf (ms.take k)) x = true → partB (idsOf ((ms.take k).map (rnM T))) (rn T x) = true := by
        intro x hx hp
        unfold partB at hp ⊢
        rw [contains_moved hT hx _ hk']
        have hb := hT.bd hx.1 hx.2
        rw [Bool.or_eq_true, Bool.and_eq_true] at hp ⊢
        rcases hp with hp | ⟨hp1, hp2⟩
        · have := of_decide_eq_true hp
          exact .inl (decide_eq_true (by rw [hb.2.2.1 (by omega)]; omega))
        · have := of_decide_eq_true hp1
          exact .inr ⟨decide_eq_true (hb.2.2.2 this), hp2⟩
      rw [Bool.and_eq_true] at g2 ⊢
      exact ⟨key _ q1 g2.1, key _ q2 g2.2⟩
    · have e1 : wordB ws' (rnM T m).id = wordB ws m.id := word_moved hM hT hn (by omega) q3.2
      have e2 : wordB ws' (rnM T m).l = wordB ws m.l := word_moved hM hT hn q1.1 q1.2
      have e3 : wordB ws' (rnM T m).r = wordB ws m.r := word_moved hM hT hn q2.1 q2.2
      rw [e1, e2, e3]
      exact g3
    · show lookM 0 ((ms.take k).map (rnM T)) (rn T m.l, rn T m.r) = none
      rw [look_moved hT q1 q2 _ 0 hk', g4]; rfl
end Go.Proofs.Ytfnhdkabfkjodaa
