/- few; a func value is not nil; what the laws' rounds keep. -/
import Derived.Test.YtodgllnmepnpfaaDoorRn2
import Derived.Test.YtodgllnmepnpfaaDoorRound
set_option linter.unusedVariables false
set_option linter.unusedSimpArgs false
namespace Go.Proofs.YtodgllnmepnpfaaDoor
open Go.RowKit
attribute [local go_sem] Oper.semAt_some

def fewS (s : ByteArray) (n : Nat) : ByteArray := if n < s.size then s.extract 0 n else s
theorem fewS_size (s : ByteArray) (n : Nat) : (fewS s n).size ≤ n ∧ (fewS s n).size ≤ s.size := by
  unfold fewS
  split
  · rw [ByteArray.size_extract]; omega
  · omega
set_option maxRecDepth 100000 in
theorem few_any (s : ByteArray) (hs : s.size ≤ 140737488351232) (w : World) :
    Calls Tryd.prog 11 #[.string s, .int .i64 500] w fun e w' => e = .returned (.string (fewS s 500)) ∧ w = w' := by
  unfold fewS
  by_cases h : 500 < s.size
  · have h' : (500 : Int) < (s.size : Int) := by omega
    rw [if_pos h]
    go_enter Tryd.func11, Tryd.ntmps11
    go_wp2_with (fail)
    go_ret
    exact ⟨rfl, rfl⟩
  · have h' : ¬ (500 : Int) < (s.size : Int) := by omega
    rw [if_neg h]
    go_enter Tryd.func11, Tryd.ntmps11
    go_wp2_with (fail)
    go_ret
    exact ⟨rfl, rfl⟩
theorem eql_seq_nil (f : Fn) (a b : Array Value) (w : World) : (binOp .eql 33 (.func f a b) .nilFunc).run Tryd.prog w = .ok (.bool false) w := by
  have hd : ∀ d : Nat, (Op.equalIn (d + 1) 33 (.func f a b) .nilFunc).run Tryd.prog w = .ok false w := fun d => by
    simp [Op.equalIn, run_underlying Tryd.underlying33]
  have h : (Op.equalIn (9999 + 1) 33 (.func f a b) .nilFunc).run Tryd.prog w = .ok false w := hd 9999
  have h2 : (Op.equal 33 (.func f a b) .nilFunc).run Tryd.prog w = .ok false w := h
  simp [binOp, h2]
theorem KeepsFrom.only {B : Nat} {l : List Nat} {W W' : World} (h : Only l W W') (hl : ∀ x ∈ l, x < B) : KeepsFrom B W W' :=
  ⟨h.size, fun k o hB hk _ => (h.block k (Array.getElem?_eq_some_iff.1 hk).1 (fun hm => by have := hl k hm; omega)).trans hk⟩
theorem only_ownC {l : List Nat} {w W W' : World} {row : Option Nat} {q : Nat} (h : Only l w W) (hg : W.grownBy W' row) (hr : ∀ r, row = some r → w.heap.size ≤ r ∧ ((∃ o : Obj, W.heap[r]? = some o ∧ o.isCells = false) ∨ r = q)) : Only l w W' := h.grown hg (fun k e => .inr (hr k e).1)
theorem blk_ownC {W W' : World} {row : Option Nat} {B q k : Nat} {t : TypeId} {cs : List Value} (h : Blk W k t cs) (hg : W.grownBy W' row) (hr : ∀ r, row = some r → B ≤ r ∧ ((∃ o : Obj, W.heap[r]? = some o ∧ o.isCells = false) ∨ r = q)) (hk : k ≠ q) : Blk W' k t cs := by
  refine (hg.block k h.lt (fun e => ?_)).trans h
  rcases (hr k e.symm).2 with ⟨o, ho, hc⟩ | h2
  · rw [h] at ho; cases ho; cases hc
  · exact hk h2
/-- a list of runs, met at a place -/
theorem Rd.rn {w : World} {B : Nat} {A : Option Addr} {n : Nat} {l : List RunD} (h : Rd w B 4 A n (l.flatMap RunD.enc)) {i : Nat} {x : RunD} (hp : l[i]? = some x) :
    ∃ g o, A = some ⟨g, o, none⟩ ∧ i < n ∧ w.cell? ⟨g, o + i * 4, none⟩ = some (.int .i64 (x.k : Int)) ∧ w.cell? ⟨g, o + i * 4 + 1, none⟩ = some (.int .i64 (x.f : Int)) ∧ w.cell? ⟨g, o + i * 4 + 2, none⟩ = some (.int .i64 (x.t : Int)) ∧ w.cell? ⟨g, o + i * 4 + 3, none⟩ = some (.int .i64 (x.n : Int)) := by
  have hl : i < l.length := (List.getElem?_eq_some_iff.1 hp).1
  have hlen : (l.flatMap RunD.enc).length = l.length * 4 := flatMap_len2 l
  have hn : l.length = n := by have := h.1; omega
  obtain ⟨g, o, rfl, _, _, hc⟩ := h.addr (by omega)
  have key : ∀ j, j < 4 → (l.flatMap RunD.enc)[i * 4 + j]? = x.enc[j]? := fun j hj => flatMap_cell2 l i x j hp hj
  refine ⟨g, o, rfl, by omega, ?_, ?_, ?_, ?_⟩
  · rw [show o + i * 4 = o + (i * 4 + 0) by omega]; exact hc _ _ (key 0 (by omega))
  · rw [show o + i * 4 + 1 = o + (i * 4 + 1) by omega]; exact hc _ _ (key 1 (by omega))
  · rw [show o + i * 4 + 2 = o + (i * 4 + 2) by omega]; exact hc _ _ (key 2 (by omega))
  · rw [show o + i * 4 + 3 = o + (i * 4 + 3) by omega]; exact hc _ _ (key 3 (by omega))
where
  flatMap_len2 (l : List RunD) : (l.flatMap RunD.enc).length = l.length * 4 := by
    induction l with
    | nil => rfl
    | cons x l ih => rw [List.flatMap_cons, List.length_append, ih, List.length_cons]; simp [RunD.enc]; omega
  flatMap_cell2 : ∀ (l : List RunD) (k : Nat) (x : RunD) (j : Nat), l[k]? = some x → j < 4 → (l.flatMap RunD.enc)[k * 4 + j]? = x.enc[j]?
    | [], k, x, j, h, _ => by simp at h
    | a :: l, 0, x, j, h, hj => by
      have : a = x := by simpa using h
      subst this
      rw [List.flatMap_cons, Nat.zero_mul, Nat.zero_add, List.getElem?_append_left (by simp [RunD.enc]; omega)]
    | a :: l, k + 1, x, j, h, hj => by
      rw [List.flatMap_cons, List.getElem?_append_right (by simp [RunD.enc]; omega)]
      have e : (k + 1) * 4 + j - a.enc.length = k * 4 + j := by simp [RunD.enc]; omega
      rw [e]
      exact flatMap_cell2 l k x j (by simpa using h) hj
theorem prefix_at {α : Type} {pre L : List α} {x : α} (h : pre ++ [x] <+: L) : L[pre.length]? = some x := by
  obtain ⟨t, rfl⟩ := h
  rw [List.append_assoc, List.getElem?_append_right (Nat.le_refl _), Nat.sub_self]; rfl
end Go.Proofs.YtodgllnmepnpfaaDoor
