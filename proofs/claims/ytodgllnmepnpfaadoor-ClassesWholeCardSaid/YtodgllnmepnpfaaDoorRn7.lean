/- The runs are the text: plain. -/
import Derived.Test.YtodgllnmepnpfaaDoorRn3
import Derived.Lib.TrimUEq
set_option linter.unusedVariables false
set_option linter.unusedSimpArgs false
namespace Go.Proofs.YtodgllnmepnpfaaDoor
open Go.RowKit

theorem decN_cut (m n b0 b1 b2 b3 c1 c2 c3 : Nat) (hm : 1 ≤ m) (hmn : m ≤ n) (h1 : 1 < m → c1 = b1) (h2 : 2 < m → c2 = b2) (h3 : 3 < m → c3 = b3) (hw : (Lib.decodeN n b0 b1 b2 b3).2 ≤ m) : Lib.decodeN m b0 c1 c2 c3 = Lib.decodeN n b0 b1 b2 b3 := by
  by_cases a : b0 < 128
  · unfold Lib.decodeN; rw [if_pos a, if_pos a]
  by_cases m1 : 1 < m
  · rw [h1 m1]
    by_cases m2 : 2 < m
    · rw [h2 m2]
      by_cases m3 : 3 < m
      · rw [h3 m3]
        unfold Lib.decodeN
        simp only [m1, m2, m3, show 1 < n by omega, show 2 < n by omega, show 3 < n by omega, true_and]
      · unfold Lib.decodeN at hw ⊢
        simp only [m1, m2, m3, show 1 < n by omega, show 2 < n by omega, true_and, false_and, and_false, if_false, if_neg a] at hw ⊢
        (repeat' split at hw) <;> (repeat' split) <;> first | rfl | (exfalso; omega) | omega
    · unfold Lib.decodeN at hw ⊢
      simp only [m1, m2, show 1 < n by omega, show ¬ 3 < m by omega, true_and, false_and, and_false, if_false, if_neg a] at hw ⊢
      (repeat' split at hw) <;> (repeat' split) <;> first | rfl | (exfalso; omega) | omega
  · unfold Lib.decodeN at hw ⊢
    simp only [m1, show ¬ 3 < m by omega, show ¬ 2 < m by omega, true_and, false_and, and_false, if_false, if_neg a] at hw ⊢
    (repeat' split at hw) <;> (repeat' split) <;> first | rfl | (exfalso; omega) | omega
theorem get_cut (s : ByteArray) (f t i : Nat) (h : f + i < t) (ht : t ≤ s.size) : (s.extract f t).get! i = s.get! (f + i) := by
  rw [Utf8W.get!_of_lt _ i (by rw [ByteArray.size_extract]; omega), Utf8W.get!_of_lt s (f + i) (by omega)]
  exact ByteArray.getElem_extract ..
theorem dec_cut (s : ByteArray) (f t p : Nat) (h : f + p < t) (ht : t ≤ s.size) (hw : f + p + (Utf8.decode s (f + p)).2 ≤ t) : Utf8.decode (s.extract f t) p = Utf8.decode s (f + p) := by
  rw [Lib.decode_at] at hw ⊢
  rw [Lib.decode_at]
  have hz : (s.extract f t).size = t - f := by rw [ByteArray.size_extract]; omega
  rw [hz, get_cut s f t p h ht]
  refine decN_cut _ _ _ _ _ _ _ _ _ (by omega) (by omega) (fun hh => ?_) (fun hh => ?_) (fun hh => ?_) (by omega)
  · rw [get_cut s f t (p + 1) (by omega) ht]; rfl
  · rw [get_cut s f t (p + 2) (by omega) ht]; rfl
  · rw [get_cut s f t (p + 3) (by omega) ht]; rfl

/-- items from a place up to a place -/
def Seg (s : ByteArray) : Nat → List It → Nat → Prop
  | p, [], q => p = q
  | p, x :: l, q => p < s.size ∧ x = itAt s p ∧ Seg s (p + x.n) l q
theorem seg_items (s : ByteArray) : ∀ (f p : Nat), s.size ≤ p + f → p ≤ s.size → Seg s p (itemsF s f p) s.size
  | 0, p, h, hp => by show p = s.size; omega
  | f + 1, p, h, hp => by
    rw [itemsF]
    by_cases hlt : p < s.size
    · rw [if_pos hlt]
      have h1 := dec_le s p hlt
      have h2 := Lib.width_pos s p
      exact ⟨hlt, rfl, by show Seg s (p + (Utf8.decode s p).2) _ _; exact seg_items s f _ (by omega) h1⟩
    · rw [if_neg hlt]; show p = s.size; omega
theorem Seg.snoc {s : ByteArray} : ∀ {l : List It} {p q : Nat}, Seg s p l q → q < s.size → Seg s p (l ++ [itAt s q]) (q + (itAt s q).n)
  | [], p, q, h, hq => by obtain rfl : p = q := h; exact ⟨hq, rfl, rfl⟩
  | x :: l, p, q, h, hq => ⟨h.1, h.2.1, Seg.snoc h.2.2 hq⟩
theorem Seg.le {s : ByteArray} : ∀ {l : List It} {p q : Nat}, Seg s p l q → p + l.length ≤ q ∧ (l ≠ [] → q ≤ s.size)
  | [], p, q, h => by obtain rfl : p = q := h; simp
  | x :: l, p, q, h => by
    obtain ⟨h1, h2, h3⟩ := h
    have ih := Seg.le h3
    have hx : x.n = (Utf8.decode s p).2 := by rw [h2]; rfl
    have w1 := Lib.width_pos s p
    have w2 := dec_le s p h1
    refine ⟨by rw [List.length_cons]; omega, fun _ => ?_⟩
    cases l with
    | nil => have : p + x.n = q := h3; omega
    | cons y l => exact ih.2 (by simp)
theorem Seg.cut {s : ByteArray} {f t : Nat} (ht : t ≤ s.size) : ∀ {l : List It} {p : Nat} {F : Nat}, Seg s (f + p) l t → t - f ≤ p + F → itemsF (s.extract f t) F p = l.map (fun x => ⟨x.at_ - f, x.n, x.r, x.bad⟩)
  | [], p, F, h, hF => by
    have h : f + p = t := h
    cases F with
    | zero => rfl
    | succ F => rw [itemsF, if_neg (by rw [ByteArray.size_extract]; omega)]; rfl
  | x :: l, p, F, h, hF => by
    have hle := h.le.1
    rw [List.length_cons] at hle
    obtain ⟨h1, h2, h3⟩ := h
    have hxn : x.n = (Utf8.decode s (f + p)).2 := by rw [h2]; rfl
    have hle3 := h3.le.1
    have w1 := Lib.width_pos s (f + p)
    obtain ⟨G, rfl⟩ : ∃ G, F = G + 1 := ⟨F - 1, by omega⟩
    have hd := dec_cut s f t p (by omega) ht (by omega)
    rw [itemsF, if_pos (by rw [ByteArray.size_extract]; omega), hd, List.map_cons]
    congr 1
    · rw [h2]; unfold itAt; rw [hd]; simp
    · rw [← hxn]
      exact Seg.cut ht (by rw [← Nat.add_assoc]; exact h3) (by omega)

/-- a run is what it says -/
def RunOk (a b d : List Sp) (s : ByteArray) (r : RunD) : Prop := ∃ li, Seg s r.f li r.t ∧ li.length = r.n ∧ (∀ x ∈ li, kindIt a b d x = r.k) ∧ li ≠ []
theorem RunOk.ends {a b d : List Sp} {s : ByteArray} {r : RunD} (h : RunOk a b d s r) : r.f < r.t ∧ r.t ≤ s.size := by
  obtain ⟨li, h1, -, -, h4⟩ := h
  have := h1.le
  have h5 := this.2 h4
  have : 0 < li.length := List.length_pos_iff.2 h4
  omega
theorem RunOk.items {a b d : List Sp} {s : ByteArray} {r : RunD} (h : RunOk a b d s r) : (itemsU (s.extract r.f r.t)).length = r.n ∧ ∀ y ∈ itemsU (s.extract r.f r.t), kindIt a b d y = r.k := by
  have he := h.ends
  obtain ⟨li, h1, h2, h3, h4⟩ := h
  have hz : (s.extract r.f r.t).size = r.t - r.f := by rw [ByteArray.size_extract]; omega
  have e : itemsU (s.extract r.f r.t) = li.map (fun x => ⟨x.at_ - r.f, x.n, x.r, x.bad⟩) := by
    unfold itemsU
    exact Seg.cut he.2 (p := 0) h1 (by omega)
  rw [e]
  refine ⟨by rw [List.length_map, h2], fun y hy => ?_⟩
  obtain ⟨x, hx, rfl⟩ := List.mem_map.1 hy
  rw [← h3 x hx]; rfl
/-- runs that are the rest of the text, behind a place and a kind -/
def Wh (a b d : List Sp) (s : ByteArray) : Nat → Nat → List RunD → Prop
  | e, k, [] => e = s.size
  | e, k, r :: R => r.f = e ∧ r.k ≠ k ∧ RunOk a b d s r ∧ Wh a b d s r.t r.k R
theorem runsG_wh (a b d : List Sp) (s : ByteArray) : ∀ (l : List It) (c : RunD) (k : Nat), c.k ≠ k → RunOk a b d s c → Seg s c.t l s.size → Wh a b d s c.f k (runsG a b d c l)
  | [], c, k, hk, hc, hs => ⟨rfl, hk, hc, hs⟩
  | x :: l, c, k, hk, hc, hs => by
    obtain ⟨h1, h2, h3⟩ := hs
    have hxa : x.at_ = c.t := by rw [h2]; rfl
    rw [runsG]
    by_cases hx : kindIt a b d x = c.k
    · rw [if_pos hx]
      refine runsG_wh a b d s l ⟨c.k, c.f, x.at_ + x.n, c.n + 1⟩ k hk ?_ (by rw [hxa]; exact h3)
      obtain ⟨li, q1, q2, q3, q4⟩ := hc
      refine ⟨li ++ [x], ?_, by rw [List.length_append, q2]; rfl, fun y hy => ?_, by simp⟩
      · show Seg s c.f (li ++ [x]) (x.at_ + x.n)
        rw [hxa, h2]; exact q1.snoc h1
      · rcases List.mem_append.1 hy with hy | hy
        · exact q3 y hy
        · rw [List.mem_singleton.1 hy]; exact hx
    · rw [if_neg hx]
      refine ⟨rfl, hk, hc, ?_⟩
      have := runsG_wh a b d s l (.one a b d x) c.k hx ⟨[x], ⟨by show x.at_ < _; omega, by show x = itAt s x.at_; rw [hxa]; exact h2, rfl⟩, rfl, fun y hy => by rw [List.mem_singleton.1 hy]; rfl, by simp⟩ (by show Seg s (x.at_ + x.n) _ _; rw [hxa]; exact h3)
      have e : (RunD.one a b d x).f = c.t := hxa
      rwa [e] at this
theorem runsU_wh (a b d : List Sp) (s : ByteArray) : Wh a b d s 0 0 (runsU a b d s) := by
  have hs := seg_items s s.size 0 (by omega) (by omega)
  unfold runsU itemsU
  generalize itemsF s s.size 0 = l at hs
  cases l with
  | nil => exact hs
  | cons x l =>
    obtain ⟨h1, h2, h3⟩ := hs
    have hxa : x.at_ = 0 := by rw [h2]; rfl
    have := runsG_wh a b d s l (.one a b d x) 0 (by have := (kind_le a b d x).1; show kindIt a b d x ≠ 0; omega) ⟨[x], ⟨by show x.at_ < _; omega, by show x = itAt s x.at_; rw [hxa]; exact h2, rfl⟩, rfl, fun y hy => by rw [List.mem_singleton.1 hy]; rfl, by simp⟩ (by show Seg s (x.at_ + x.n) _ _; rw [hxa]; exact h3)
    have e : (RunD.one a b d x).f = 0 := hxa
    rwa [e] at this
/-- where the runs so far end, and the last one's kind -/
def stW (e k : Nat) (l : List RunD) : Nat × Nat := l.foldl (fun _ r => (r.t, r.k)) (e, k)
theorem stW_snoc (e k : Nat) (l : List RunD) (x : RunD) : stW e k (l ++ [x]) = (x.t, x.k) := by simp [stW]
theorem Wh.at {a b d : List Sp} {s : ByteArray} : ∀ {pre L : List RunD} {x : RunD} {e k : Nat}, Wh a b d s e k L → pre ++ [x] <+: L → x.f = (stW e k pre).1 ∧ x.k ≠ (stW e k pre).2 ∧ RunOk a b d s x
  | [], [], x, e, k, h, hp => by simp at hp
  | [], r :: L, x, e, k, h, hp => by
    obtain rfl : x = r := by simpa using hp
    exact ⟨h.1, h.2.1, h.2.2.1⟩
  | y :: pre, [], x, e, k, h, hp => by simp at hp
  | y :: pre, r :: L, x, e, k, h, hp => by
    obtain ⟨hy, hp2⟩ : y = r ∧ pre ++ [x] <+: L := by simpa using hp
    clear hp
    subst hy
    exact Wh.at (pre := pre) h.2.2.2 hp2
theorem Wh.all {a b d : List Sp} {s : ByteArray} : ∀ {L : List RunD} {e k : Nat}, Wh a b d s e k L → (stW e k L).1 = s.size
  | [], e, k, h => h
  | r :: L, e, k, h => Wh.all (L := L) h.2.2.2
end Go.Proofs.YtodgllnmepnpfaaDoor
