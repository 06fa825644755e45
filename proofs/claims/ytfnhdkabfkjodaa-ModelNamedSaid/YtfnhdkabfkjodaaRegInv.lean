/- A region that draws its order, walked by an invariant: what is so of the operations that are done, whatever their order. -/
import Derived.Test.YtfnhdkabfkjodaaAp
set_option linter.unusedVariables false
set_option linter.unusedSimpArgs false
namespace Go.Proofs.Ytfnhdkabfkjodaa
open Go.RowKit

theorem ready_mem {md : Region.Mode} {l : List Oper} {listed : Array Bool} {i : Nat} (h : i ∈ Region.ready md l.toArray listed) : i < l.length ∧ listed.getD i true = false ∧ ∃ o, l[i]? = some o ∧ ∀ e ∈ o.after, Region.binds md e = true → listed.getD e.on false = true := by
  unfold Region.ready at h
  simp only [List.mem_filter, List.mem_range, List.size_toArray, Bool.and_eq_true, Bool.not_eq_true', List.getElem?_toArray] at h
  obtain ⟨h1, h2, h3⟩ := h
  obtain ⟨o, ho⟩ : ∃ o, l[i]? = some o := ⟨_, List.getElem?_eq_getElem h1⟩
  rw [ho] at h3
  simp only [Option.map_some, Option.getD_some, Array.all_eq_true, Bool.or_eq_true, Bool.not_eq_true'] at h3
  refine ⟨h1, h2, o, ho, fun e he hb => ?_⟩
  obtain ⟨k, hk, rfl⟩ := Array.mem_iff_getElem.1 he
  rcases h3 k hk with h4 | h4
  · rw [hb] at h4; cases h4
  · exact h4

/-- each operation waits for elder ones alone -/
def elderB (l : List Oper) : Bool := (List.range l.length).all fun i => ((l[i]?).map fun o => o.after.all fun e => decide (e.on < i)).getD true

theorem all_listed {md : Region.Mode} {l : List Oper} {listed : Array Bool} (hs : listed.size = l.length) (he : elderB l = true) (h : Region.ready md l.toArray listed = []) : ∀ i, i < l.length → listed.getD i false = true := by
  intro i
  induction i using Nat.strongRecOn with
  | _ i ih =>
    intro hi
    by_cases hl : listed.getD i false = true
    · exact hl
    exfalso
    obtain ⟨o, ho⟩ : ∃ o, l[i]? = some o := ⟨_, List.getElem?_eq_getElem hi⟩
    have hm : i ∈ Region.ready md l.toArray listed := by
      unfold Region.ready
      simp only [List.mem_filter, List.mem_range, List.size_toArray, Bool.and_eq_true, Bool.not_eq_true', List.getElem?_toArray]
      refine ⟨hi, ?_, ?_⟩
      · simp [Array.getD, hs, hi] at hl ⊢; exact hl
      · rw [ho]
        simp only [Option.map_some, Option.getD_some, Array.all_eq_true, Bool.or_eq_true, Bool.not_eq_true']
        intro k hk
        refine .inr (ih _ ?_ ?_)
        · have h1 := List.all_eq_true.1 he i (by simpa using hi)
          rw [ho] at h1
          simp only [Option.map_some, Option.getD_some, Array.all_eq_true, decide_eq_true_eq] at h1
          exact h1 k hk
        · have h1 := List.all_eq_true.1 he i (by simpa using hi)
          rw [ho] at h1
          simp only [Option.map_some, Option.getD_some, Array.all_eq_true, decide_eq_true_eq] at h1
          have := h1 k hk; omega
    rw [h] at hm; cases hm

theorem getD_set {listed : Array Bool} {i : Nat} (hi : i < listed.size) (j : Nat) : (listed.setIfInBounds i true).getD j false = true ↔ (listed.getD j false = true ∨ j = i) := by
  by_cases h : j = i
  · subst h; simp [Array.getD, hi]
  · simp only [h, or_false]
    simp only [Array.getD, Array.size_setIfInBounds]
    by_cases hj : j < listed.size
    · simp [hj, Array.getElem_setIfInBounds, Ne.symm h]
    · simp [hj]

theorem wp_region_inv {P : Program} {id : Nat} {l : List Oper} {Q : Exit → Act → World → Prop} {a : Act} {w : World} (hm : P.follows .mixedOrders = true) (he : elderB l = true)
    (Inv : (Nat → Prop) → Act → World → Prop)
    (h0 : Inv (fun _ => False) a w.drew)
    (hstep : ∀ (L : Nat → Prop) a w i o, Inv L a w → l[i]? = some o → ¬ L i → (∀ e ∈ o.after, Region.binds .any e = true → L e.on) → ∀ K : Act → World → Prop, (∀ a' w', Inv (fun j => L j ∨ j = i) a' w' → K a' w') →
      if Region.wanted o (yielded l.toArray a.tmps) = true then Oper.wp P o a w K Q else K (a.put o.dst undef) w)
    (hdone : ∀ L a w, Inv L a w → (∀ i, i < l.length → L i) → Q .normal a w) : (Code.region id l.toArray true).wp P Q a w := by
  have key : ∀ fuel (listed : Array Bool) a w, listed.size = l.length → listed.toList.count false ≤ fuel → Inv (fun j => listed.getD j false = true) a w → wpAny P .any l.toArray Q fuel listed a w := by
    intro fuel
    induction fuel with
    | zero =>
      intro listed a w hs hc hI
      have hall : Region.ready .any l.toArray listed = [] := by
        rw [List.eq_nil_iff_forall_not_mem]
        intro i hi
        obtain ⟨h1, h2, _⟩ := ready_mem hi
        have hc0 : listed.toList.count false = 0 := by omega
        rw [List.count_eq_zero] at hc0
        apply hc0
        simp only [Array.getD, hs, h1, dif_pos] at h2
        rw [← h2]
        exact Array.getElem_mem_toList _
      exact ⟨hall, hdone _ _ _ hI (all_listed hs he hall)⟩
    | succ fuel ih =>
      intro listed a w hs hc hI
      refine ⟨fun hall => hdone _ _ _ hI (all_listed hs he hall), ?_⟩
      intro i hi
      obtain ⟨h1, h2, o, ho, hd⟩ := ready_mem hi
      have his : i < listed.size := by omega
      refine wpOp_step (o := o) (by simpa using ho) ?_
      intro K' hK'
      refine hstep _ a w i o hI ho ?_ hd K' ?_
      · simp [Array.getD, his] at h2 ⊢; exact h2
      · intro a' w' hI'
        refine hK' _ _ (ih _ _ _ (by simpa using hs) ?_ ?_)
        · have e : (listed.setIfInBounds i true).toList = listed.toList.set i true := by simp
          have hl : listed.toList[i]'(by simpa using his) = false := by simpa [Array.getD, his] using h2
          have e2 := List.count_set (a := true) (b := false) (l := listed.toList) (i := i) (by simpa using his)
          have := List.count_pos_iff.2 (hl ▸ List.getElem_mem (l := listed.toList) (by simpa using his) : false ∈ listed.toList)
          rw [e, e2, hl, if_pos (by rfl), if_neg (by decide)]
          omega
        · have e : (fun j => (listed.setIfInBounds i true).getD j false = true) = fun j => listed.getD j false = true ∨ j = i := by
            funext j; exact propext (getD_set his j)
          rw [e]; exact hI'
  refine wp_region_any hm ?_
  refine key _ _ _ _ (by simp) (by simp [List.count_replicate]) ?_
  have e : (fun j => (Array.replicate l.toArray.size false).getD j false = true) = fun _ => False := by
    funext j
    simp [Array.getD]
  rw [e]; exact h0

/-- 'append(v, x...)', v an empty row without room -/
theorem run_append_empty {P : Program} {w : World} (base t ty e : Nat) (z : Value) (size bytes : Nat) (ht : P.underlying t = some (.slice e)) (hinfo : (P.info? e).map (fun i => (i.zero, i.size, i.bytes)) = some (some z, size, bytes))
    (hzs : z.cells.size = size) (hsz : 0 < size) {g : Nat} (hb : Blk w g e []) (hg : base ≤ g)
    {B : Nat} {X : Option Addr} {m : Nat} (c : Nat) {ys : List Value} (hy : Rd w B size X m ys) (h1 : ∀ u ∈ ys, u.oneCell' = true) (h63 : m ≤ maxLen) (hbytes : m * bytes ≤ 140737488355328) (hbase : base ≤ w.heap.size) :
    ∃ v' w', (Builtin.append_ #[t, t] ty #[.slice (some ⟨g, 0, none⟩) 0 0, .slice X m c]).run P w = .ok v' w' ∧ w'.ownsRow base e size v' m ys ∧ Only [] w w' := by
  rcases Nat.eq_zero_or_pos m with h0 | h0
  · subst h0
    obtain rfl : ys = [] := List.eq_nil_of_length_eq_zero (by have := hy.1; omega)
    obtain ⟨i, hi, hz, hs, hb'⟩ := info_parts hinfo
    refine ⟨.slice (some ⟨g, 0, none⟩) 0 0, w, ?_, own_of_blk (xs := []) (sp := []) (by simpa using hb) hg (by simp) (by simp) (by omega) (by omega), .refl _ _⟩
    cases X with
    | none => simp [Builtin.append_, run_underlying ht, sizeOf, typeInfo, hi, Builtin.lenOf, Builtin.firstCells, storeCells]
    | some ad => simp [Builtin.append_, run_underlying ht, sizeOf, typeInfo, hi, Builtin.lenOf, Builtin.firstCells, storeCells, loadCells, loadCellsFrom]
  · have hx : Rd w 0 size (some ⟨g, 0, none⟩) 0 [] := ⟨by simp, fun h => by omega⟩
    obtain ⟨cap, w', hr, ho, hO⟩ := run_append_new (P := P) (w := w) t ty e z size bytes ht hinfo hzs hsz hx (c := 0) (by omega) (by simp) c hy h0 (by rw [Nat.zero_add]; exact hbytes) (by omega)
    rw [Nat.zero_add, List.nil_append] at ho
    rw [Nat.zero_add] at hr
    exact ⟨_, w', hr, own_base ho hbase, hO⟩
end Go.Proofs.Ytfnhdkabfkjodaa
