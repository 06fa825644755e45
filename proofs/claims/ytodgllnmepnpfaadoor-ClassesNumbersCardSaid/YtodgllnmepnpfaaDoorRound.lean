/- A region that draws its order, in a round of a range over a function: reads and calls that leave a class of worlds; and one last operation that turns the world. Over any program. -/
import Derived.Test.YtodgllnmepnpfaaDoorWd
import Derived.Sort.BigQuietIn
import Derived.OwnWalkIn
set_option linter.unusedVariables false
set_option linter.unusedSimpArgs false
namespace Go.Proofs.YtodgllnmepnpfaaDoor
open Go

section
variable {F : Fence} {n : Nat} {P : Program} {ops : Array Oper} {md : Region.Mode} {C : World → Prop}

def noDefer (o : Oper) : Bool := match o.op with | .defer _ => false | _ => true
theorem noDefer_spec {o : Oper} (h : noDefer o = true) : ∀ c, o.op ≠ .defer c := by
  intro c e
  unfold noDefer at h
  rw [e] at h
  cases h

theorem wpIn_quiet_r {o : Oper} {a : Act} {K : Act → Prop} {K' : Act → World → Prop} {Q' : Exit → Act → World → Prop} {w : World} (hnd : noDefer o = true) (hw : C w) (h : ∀ a w', C w' → K a → K' a w')
    (ha : o.askedIn F P a C) (hh : o.quietIn F n P a C K) : o.wpIn F n P a w K' Q' := by
  obtain ⟨v, h1, h2⟩ := hh
  have h3 := h1 w hw
  unfold Oper.quietAtIn at h3
  unfold Oper.wpIn
  refine ⟨ha w hw, ?_⟩
  rw [Oper.semAt_plain F _ _ (noDefer_spec hnd)]
  generalize (execOp a.eval o).run P w = r at *
  cases r with
  | ok x w' =>
    cases x <;> simp only [Oper.quietUponIn] at h3 <;> simp only [Oper.uponIn]
    case value u => obtain ⟨e1, e2⟩ := h3; rw [e1, e2]; exact h _ _ hw h2
    case skip => obtain ⟨e1, e2⟩ := h3; rw [e1, ← e2]; exact h _ _ hw h2
    case enter f args =>
      obtain ⟨e1, hd, hc⟩ := h3
      rw [e1]
      exact ⟨hd, hc.mono fun e w'' ⟨he, hw''⟩ => by subst he; exact h _ _ hw'' h2⟩
  | halt x w' => simp only [Oper.quietUponIn] at h3
theorem wpOpIn_quiet_r {i : Nat} {a : Act} {K : Act → Prop} {K' : Act → World → Prop} {Q' : Exit → Act → World → Prop} {w : World} (hnd : ∀ o, ops[i]? = some o → noDefer o = true) (hC : C w) (h : ∀ a w', C w' → K a → K' a w')
    (hh : qOpIn F n P ops C i K a) : wpOpIn F n P ops Q' i K' a w := by
  unfold qOpIn at hh
  unfold wpOpIn
  split
  · rename_i ho; simp only [ho] at hh; exact h _ _ hC hh
  · rename_i o ho
    simp only [ho] at hh
    obtain ⟨ha, hh⟩ := hh
    split
    · rename_i hw; simp only [hw, if_true] at hh; exact wpIn_quiet_r (hnd o ho) hC h ha hh
    · rename_i hw; simp only [hw] at hh; exact ⟨ha w hC, h _ _ hC hh⟩
theorem wpAnyIn_quiet_r {Q : Act → Prop} {Q' : Exit → Act → World → Prop} (hnd : ∀ (i : Nat) o, ops[i]? = some o → noDefer o = true) (hQ : ∀ a w, C w → Q a → Q' .normal a w) : ∀ (fuel : Nat) (listed : Array Bool) (a : Act) (w : World), C w →
    wpAnyQIn F n P md ops C Q fuel listed a → wpAnyIn F n P md ops Q' fuel listed a w
  | 0, _, _, _, hw, h => ⟨h.1, hQ _ _ hw h.2⟩
  | fuel + 1, _, _, _, hw, h => ⟨fun h0 => hQ _ _ hw (h.1 h0), fun i hi => wpOpIn_quiet_r (hnd i) hw (fun a' w' hw' => wpAnyIn_quiet_r hnd hQ fuel _ a' w' hw') (h.2 i hi)⟩
theorem all_spec {l : List Oper} (h : l.all noDefer = true) : ∀ (i : Nat) o, l.toArray[i]? = some o → noDefer o = true := fun i o ho => List.all_eq_true.1 h o (by
  have : l[i]? = some o := by simpa using ho
  exact List.mem_of_getElem? this)
/-- reads alone: one walk of the written order -/
theorem region_quiet_r {id : Nat} {Q : Exit → Act → World → Prop} {a : Act} {w : World} {l : List Oper} (hm : P.follows .mixedOrders = true) (hB : Region.lexB .any l.toArray = true) (hnd : l.all noDefer = true)
    (h : wpQuietIn F n P l.toArray (fun w' => ∃ n, w' = w.drewN n) (fun a' => ∀ w', (∃ n, w' = w.drewN n) → Q .normal a' w') l a) : (Code.region id l.toArray true).wpIn F n P Q a w := by
  simp only [Region.lexB, Bool.and_eq_true] at hB
  refine wpIn_region_any hm (wpAnyIn_quiet_r (Q := fun a' => ∀ w', (∃ n, w' = w.drewN n) → Q .normal a' w') (all_spec hnd) (fun _ w' hw' h => h w' hw') _ _ _ _ ⟨1, rfl⟩ ?_)
  have := wpAnyQIn_lex (F := F) (n := n) (C := fun w' => ∃ n, w' = w.drewN n) (md := .any) hB.1 l 0 (Array.replicate l.toArray.size false) a (by simp) (by simpa using hB.2) h
  simpa using this

/-! ### a tail of operations each of which waits for all ahead of it -/
def noop (o : Oper) : Oper := { o with dst := none, op := .move (.const (.bool true)), guard := none }
def depsOf (md : Region.Mode) (ops : Array Oper) (j : Nat) : List Nat := match ops[j]? with | some o => (o.after.toList.filter (Region.binds md)).map (·.on) | none => []
def markStep (md : Region.Mode) (ops : Array Oper) (M : List Nat) (j : Nat) : List Nat := if M.contains j then depsOf md ops j ++ M else M
def marks (md : Region.Mode) (ops : Array Oper) (m : Nat) : List Nat := (List.range (m + 1)).reverse.foldl (markStep md ops) [m]
/-- the head as it is, the tail's operations without what they do -/
def headOps (L : List Oper) (m : Nat) : List Oper := L.take m ++ (L.drop m).map noop
def seqTailB (md : Region.Mode) (L : List Oper) (m : Nat) : Bool :=
  (L.take m).all noDefer && (L.take m).all (fun o => match o.guard with | none => true | some (j, _) => decide (j < m)) &&
  (List.range L.length).all (fun t => decide (t < m) || (List.range t).all (fun j => (marks md L.toArray t).contains j)) && (List.range L.length).all (fun j => (depsOf md L.toArray j).all (· < j)) && Region.lexB md (headOps L m).toArray && decide (m ≤ L.length)

theorem mem_deps {j : Nat} {o : Oper} (ho : ops[j]? = some o) {d : Nat} : d ∈ depsOf md ops j ↔ ∃ e ∈ o.after, Region.binds md e = true ∧ e.on = d := by
  unfold depsOf
  rw [ho]
  simp only [List.mem_map, List.mem_filter, Array.mem_toList_iff]
  constructor
  · rintro ⟨e, ⟨h1, h2⟩, h3⟩; exact ⟨e, h1, h2, h3⟩
  · rintro ⟨e, h1, h2, h3⟩; exact ⟨e, ⟨h1, h2⟩, h3⟩
/-- what is listed had all that it waits for listed -/
def Shut (md : Region.Mode) (ops : Array Oper) (listed : Array Bool) : Prop := ∀ j, listed.getD j false = true → ∀ d ∈ depsOf md ops j, listed.getD d false = true
theorem ready_deps {listed : Array Bool} {i : Nat} (h : i ∈ Region.ready md ops listed) : ∀ d ∈ depsOf md ops i, listed.getD d false = true := by
  obtain ⟨_, o, ho, hall⟩ := mem_ready.1 h
  intro d hd
  obtain ⟨e, h1, h2, rfl⟩ := (mem_deps ho).1 hd
  exact hall e h1 h2
theorem Shut.set {listed : Array Bool} (h : Shut md ops listed) {i : Nat} (hi : i ∈ Region.ready md ops listed) : Shut md ops (listed.setIfInBounds i true) := by
  intro j hj d hd
  by_cases hij : i = j
  · subst hij; exact getD_set_true (ready_deps hi d hd)
  · rw [getD_set_ne false hij] at hj; exact getD_set_true (h j hj d hd)
theorem marks_listed {listed : Array Bool} (hS : Shut md ops listed) {m : Nat} (hm : ∀ d ∈ depsOf md ops m, listed.getD d false = true) : ∀ (js M : List Nat), (∀ d ∈ M, d = m ∨ listed.getD d false = true) → ∀ d ∈ js.foldl (markStep md ops) M, d = m ∨ listed.getD d false = true
  | [], M, h => h
  | j :: js, M, h => marks_listed hS hm js _ (by
      intro d hd
      unfold markStep at hd
      split at hd
      · rename_i hc
        rcases List.mem_append.1 hd with hd | hd
        · rcases h j (by simpa using hc) with rfl | hj
          · exact .inr (hm d hd)
          · exact .inr (hS j hj d hd)
        · exact h d hd
      · exact h d hd)
theorem headOps_length (L : List Oper) (m : Nat) : (headOps L m).length = L.length := by
  unfold headOps
  rw [List.length_append, List.length_map, List.length_take, List.length_drop]; omega
theorem headOps_head (L : List Oper) (m i : Nat) (h : i < m) : (headOps L m)[i]? = L[i]? := by
  unfold headOps
  rw [List.getElem?_append]
  by_cases hl : i < (L.take m).length
  · rw [if_pos hl, List.getElem?_take, if_pos h]
  · rw [if_neg hl]
    rw [List.length_take] at hl
    have h2 : L.length ≤ i := by omega
    rw [List.getElem?_eq_none h2, List.getElem?_eq_none]
    rw [List.length_map, List.length_drop]; omega
theorem headOps_tail (L : List Oper) (m i : Nat) (h : m ≤ i) (hm : m ≤ L.length) : (headOps L m)[i]? = (L[i]?).map noop := by
  unfold headOps
  rw [List.getElem?_append, List.length_take, if_neg (by omega), List.getElem?_map, List.getElem?_drop]
  congr 2; omega
theorem ready_head (L : List Oper) (m : Nat) (hm : m ≤ L.length) (listed : Array Bool) : Region.ready md (headOps L m).toArray listed = Region.ready md L.toArray listed := by
  unfold Region.ready
  have hsz : (headOps L m).toArray.size = L.toArray.size := by simp [headOps_length]
  rw [hsz]
  apply List.filter_congr
  intro i _
  have e : ((headOps L m).toArray[i]?).map (·.after) = (L.toArray[i]?).map (·.after) := by
    simp only [List.getElem?_toArray]
    by_cases h : i < m
    · rw [headOps_head L m i h]
    · rw [headOps_tail L m i (by omega) hm]
      cases L[i]? <;> simp [noop]
  have e2 : ∀ (f : Array Edge → Bool) (x y : Option Oper), x.map (·.after) = y.map (·.after) → (x.map fun o => f o.after) = (y.map fun o => f o.after) := by
    intro f x y h
    cases x <;> cases y <;> simp_all
  have e3 := e2 (fun A => A.all fun e => !Region.binds md e || listed.getD e.on false) _ _ e
  rw [e3]
theorem yielded_head (L : List Oper) (m : Nat) (tmps : Array Value) (j : Nat) (hj : j < m) : yielded (headOps L m).toArray tmps j = yielded L.toArray tmps j := by
  unfold yielded
  simp only [List.getElem?_toArray, headOps_head L m j hj]

/-- the first t are listed, and no other -/
def UpTo (L : List Oper) (t : Nat) (listed : Array Bool) : Prop := listed.size = L.length ∧ (∀ j, j < t → listed.getD j false = true) ∧ ∀ j, t ≤ j → j < L.length → listed.getD j true = false
theorem UpTo.set {L : List Oper} {t : Nat} {listed : Array Bool} (h : UpTo L t listed) (ht : t < L.length) : UpTo L (t + 1) (listed.setIfInBounds t true) := by
  obtain ⟨h1, h2, h3⟩ := h
  refine ⟨by simpa using h1, fun j hj => ?_, fun j hj hl => ?_⟩
  · by_cases hjt : j = t
    · subst hjt
      have hlt : j < listed.size := by omega
      simp [hlt]
    · exact getD_set_true (h2 j (by omega))
  · rw [getD_set_ne true (by omega)]; exact h3 j (by omega) hl
section tail
variable {L : List Oper} {m : Nat}
theorem upTo_shut (hd : (List.range L.length).all (fun j => (depsOf md L.toArray j).all (· < j)) = true) {t : Nat} {listed : Array Bool} (h : UpTo L t listed) : Shut md L.toArray listed := by
  intro j hj d hdd
  have hjl : j < L.length := by
    rcases Nat.lt_or_ge j L.length with h' | h'
    · exact h'
    · have := h.1; simp [Array.getElem?_eq_none (show listed.size ≤ j by omega)] at hj
  have hlt := of_decide_eq_true (List.all_eq_true.1 (List.all_eq_true.1 hd j (List.mem_range.2 hjl)) d hdd)
  have hjt : j < t := by
    rcases Nat.lt_or_ge j t with h' | h'
    · exact h'
    · have h3 := h.2.2 j h' hjl
      have hls : j < listed.size := by have := h.1; omega
      simp [hls] at hj h3
      rw [hj] at h3; cases h3
  exact h.2.1 d (by omega)
theorem upTo_ready (hd : (List.range L.length).all (fun j => (depsOf md L.toArray j).all (· < j)) = true) {t : Nat} {listed : Array Bool} (h : UpTo L t listed) (ht : t < L.length) : t ∈ Region.ready md L.toArray listed := by
  obtain ⟨o, ho⟩ : ∃ o, L.toArray[t]? = some o := ⟨_, Array.getElem?_eq_getElem (by simpa using ht)⟩
  refine mem_ready.2 ⟨h.2.2 t (Nat.le_refl _) ht, o, ho, fun e he hb => ?_⟩
  have hdd := (mem_deps (md := md) ho).2 ⟨e, he, hb, rfl⟩
  have hlt := of_decide_eq_true (List.all_eq_true.1 (List.all_eq_true.1 hd t (List.mem_range.2 ht)) _ hdd)
  exact h.2.1 _ hlt
theorem ready_lt {ops : Array Oper} {listed : Array Bool} {i : Nat} (h : i ∈ Region.ready md ops listed) : i < ops.size := by
  obtain ⟨_, o, ho, _⟩ := mem_ready.1 h
  exact (Array.getElem?_eq_some_iff.1 ho).1
/-- one of the tail comes up: all ahead of it are listed -/
theorem tail_ready (h4 : (List.range L.length).all (fun t => decide (t < m) || (List.range t).all (fun j => (marks md L.toArray t).contains j)) = true) {listed : Array Bool} (hS : Shut md L.toArray listed) {i : Nat} (hi : i ∈ Region.ready md L.toArray listed) (him : m ≤ i) : ∀ j, j < i → listed.getD j false = true := by
  intro j hj
  have hil : i < L.length := by have := ready_lt hi; simpa using this
  have h5 := List.all_eq_true.1 h4 i (List.mem_range.2 hil)
  have h6 : (List.range i).all (fun j => (marks md L.toArray i).contains j) = true := by
    rw [Bool.or_eq_true] at h5
    rcases h5 with h5 | h5
    · have := of_decide_eq_true h5; omega
    · exact h5
  have h7 := List.all_eq_true.1 h6 j (List.mem_range.2 hj)
  rcases marks_listed hS (m := i) (ready_deps hi) (List.range (i + 1)).reverse [i] (by simp) j (by simpa [marks] using h7) with h | h
  · omega
  · exact h
theorem upTo_only (h4 : (List.range L.length).all (fun t => decide (t < m) || (List.range t).all (fun j => (marks md L.toArray t).contains j)) = true) (hd : (List.range L.length).all (fun j => (depsOf md L.toArray j).all (· < j)) = true)
    {t : Nat} {listed : Array Bool} (h : UpTo L t listed) (hmt : m ≤ t) {i : Nat} (hi : i ∈ Region.ready md L.toArray listed) : i = t := by
  have hil : i < L.length := by have := ready_lt hi; simpa using this
  have hun := (mem_ready.1 hi).1
  have hls : i < listed.size := by have := h.1; omega
  rcases Nat.lt_trichotomy i t with hlt | he | hgt
  · have := h.2.1 i hlt
    simp [hls] at this hun
    rw [this] at hun; cases hun
  · exact he
  · have h1 := tail_ready h4 (upTo_shut hd h) hi (by omega) t hgt
    have h2 := h.2.2 t (Nat.le_refl _) (by omega)
    have hlt : t < listed.size := by omega
    simp [hlt] at h1 h2
    rw [h1] at h2; cases h2
theorem noop_step {ops : Array Oper} {t : Nat} {o : Oper} (ho : ops[t]? = some (noop o)) {K : Act → Prop} {a : Act} (h : qOpIn F n P ops C t K a) : K a := by
  unfold qOpIn at h
  rw [ho] at h
  obtain ⟨_, h⟩ := h
  split at h
  · obtain ⟨v, _, h⟩ := h; exact h
  · exact h
theorem quiet_end (h4 : (List.range L.length).all (fun t => decide (t < m) || (List.range t).all (fun j => (marks md L.toArray t).contains j)) = true) (hd : (List.range L.length).all (fun j => (depsOf md L.toArray j).all (· < j)) = true) (hmL : m ≤ L.length) {Q0 : Act → Prop} :
    ∀ (fuel t : Nat) (listed : Array Bool) (a : Act), m ≤ t → UpTo L t listed → wpAnyQIn F n P md (headOps L m).toArray C Q0 fuel listed a → Q0 a
  | 0, _, _, _, _, _, h => h.2
  | fuel + 1, t, listed, a, hmt, hU, h => by
    by_cases ht : t < L.length
    · have hr := upTo_ready hd hU ht
      have hq := h.2 t (by rw [ready_head L m hmL]; exact hr)
      have ho : (headOps L m).toArray[t]? = some (noop L[t]) := by
        rw [List.getElem?_toArray, headOps_tail L m t hmt hmL, List.getElem?_eq_getElem ht]; rfl
      exact quiet_end h4 hd hmL fuel (t + 1) _ a (by omega) (hU.set ht) (noop_step ho hq)
    · refine h.1 ?_
      rw [ready_head L m hmL, List.eq_nil_iff_forall_not_mem]
      intro i hi
      have := upTo_only h4 hd hU hmt hi
      have hil : i < L.length := by have := ready_lt hi; simpa using this
      omega
theorem tail_run (h4 : (List.range L.length).all (fun t => decide (t < m) || (List.range t).all (fun j => (marks md L.toArray t).contains j)) = true) (hd : (List.range L.length).all (fun j => (depsOf md L.toArray j).all (· < j)) = true) (hmL : m ≤ L.length) {Q0 : Act → Prop} {Q : Exit → Act → World → Prop} :
    ∀ (fuel t : Nat) (listed : Array Bool) (a0 a : Act) (w : World), m ≤ t → UpTo L t listed → wpAnyQIn F n P md (headOps L m).toArray C Q0 fuel listed a0 → wpListIn F n P L.toArray Q (L.drop t) a w → wpAnyIn F n P md L.toArray Q fuel listed a w := by
  intro fuel
  induction fuel with
  | zero =>
    intro t listed a0 a w hmt hU h hw
    have h0 := h.1
    rw [ready_head L m hmL] at h0
    refine ⟨h0, ?_⟩
    by_cases ht : t < L.length
    · have := upTo_ready hd hU ht; rw [h0] at this; cases this
    · rw [List.drop_eq_nil_of_le (by omega)] at hw; exact hw
  | succ fuel ih =>
    intro t listed a0 a w hmt hU h hw
    by_cases ht : t < L.length
    · have hr := upTo_ready hd hU ht
      refine ⟨fun h0 => (by rw [h0] at hr; cases hr), fun i hi => ?_⟩
      obtain rfl := upTo_only h4 hd hU hmt hi
      have hq := h.2 i (by rw [ready_head L m hmL]; exact hr)
      have ho : (headOps L m).toArray[i]? = some (noop L[i]) := by
        rw [List.getElem?_toArray, headOps_tail L m i hmt hmL, List.getElem?_eq_getElem ht]; rfl
      have hK := noop_step ho hq
      have hoi : L.toArray[i]? = some L[i] := by rw [List.getElem?_toArray]; exact List.getElem?_eq_getElem ht
      rw [List.drop_eq_getElem_cons ht] at hw
      have hstep : ∀ a' w', wpListIn F n P L.toArray Q (L.drop (i + 1)) a' w' → wpAnyIn F n P md L.toArray Q fuel (listed.setIfInBounds i true) a' w' := fun a' w' h' => ih (i + 1) _ a0 a' w' (by omega) (hU.set ht) hK h'
      unfold wpOpIn
      rw [hoi]
      simp only [wpListIn] at hw
      simp only
      split
      · rename_i hg; rw [if_pos hg] at hw; exact Oper.wpIn_mono hstep hw
      · rename_i hg; rw [if_neg hg] at hw; exact ⟨hw.1, hstep _ _ hw.2⟩
    · refine wpAnyIn_done ?_ ?_ _
      · rw [List.eq_nil_iff_forall_not_mem]
        intro i hi
        have := upTo_only h4 hd hU hmt hi
        have hil : i < L.length := by have := ready_lt hi; simpa using this
        omega
      · rw [List.drop_eq_nil_of_le (by omega)] at hw; exact hw

theorem head_run (hB : seqTailB md L m = true) {Q0 : Act → Prop} {Q : Exit → Act → World → Prop}
    (hQ : ∀ a w, C w → Q0 a → wpListIn F n P L.toArray Q (L.drop m) a w) : ∀ (fuel : Nat) (listed : Array Bool) (a : Act) (w : World), C w → listed.size = L.length → (∀ j, m ≤ j → j < L.length → listed.getD j true = false) → Shut md L.toArray listed →
      wpAnyQIn F n P md (headOps L m).toArray C Q0 fuel listed a → wpAnyIn F n P md L.toArray Q fuel listed a w := by
  simp only [seqTailB, Bool.and_eq_true] at hB
  obtain ⟨⟨⟨⟨⟨h1, h3⟩, h4⟩, h5⟩, _⟩, h6⟩ := hB
  have hmL := of_decide_eq_true h6
  intro fuel
  induction fuel with
  | zero =>
    intro listed a w hC hsz hl hS h
    by_cases hall : ∀ j, j < m → listed.getD j false = true
    · exact tail_run h4 h5 hmL 0 m listed a a w (Nat.le_refl _) ⟨hsz, hall, hl⟩ h (hQ a w hC (quiet_end h4 h5 hmL 0 m listed a (Nat.le_refl _) ⟨hsz, hall, hl⟩ h))
    · exfalso
      have h0 := h.1
      rw [ready_head L m hmL] at h0
      apply hall
      intro j
      induction j using Nat.strongRecOn with
      | ind j ih =>
        intro hj
        by_cases hlj : listed.getD j true = false
        · exfalso
          obtain ⟨o, ho⟩ : ∃ o, L.toArray[j]? = some o := ⟨_, Array.getElem?_eq_getElem (by simp; omega)⟩
          have : j ∈ Region.ready md L.toArray listed := mem_ready.2 ⟨hlj, o, ho, fun e he hb => by
            have hdd := (mem_deps (md := md) ho).2 ⟨e, he, hb, rfl⟩
            have hlt := of_decide_eq_true (List.all_eq_true.1 (List.all_eq_true.1 h5 j (List.mem_range.2 (by omega))) _ hdd)
            exact ih e.on hlt (by omega)⟩
          rw [h0] at this; cases this
        · have hlt : j < listed.size := by omega
          simp [hlt] at hlj ⊢
          exact hlj
  | succ fuel ih =>
    intro listed a w hC hsz hl hS h
    by_cases hall : ∀ j, j < m → listed.getD j false = true
    · exact tail_run h4 h5 hmL _ m listed a a w (Nat.le_refl _) ⟨hsz, hall, hl⟩ h (hQ a w hC (quiet_end h4 h5 hmL _ m listed a (Nat.le_refl _) ⟨hsz, hall, hl⟩ h))
    · have hlow : ∀ i ∈ Region.ready md L.toArray listed, i < m := by
        intro i hi
        rcases Nat.lt_or_ge i m with h' | h'
        · exact h'
        · exact absurd (fun j hj => tail_ready h4 hS hi h' j (by omega)) hall
      refine ⟨fun h0 => ?_, fun i hi => ?_⟩
      · exfalso
        apply hall
        intro j
        induction j using Nat.strongRecOn with
        | ind j ihj =>
          intro hj
          by_cases hlj : listed.getD j true = false
          · exfalso
            obtain ⟨o, ho⟩ : ∃ o, L.toArray[j]? = some o := ⟨_, Array.getElem?_eq_getElem (by simp; omega)⟩
            have : j ∈ Region.ready md L.toArray listed := mem_ready.2 ⟨hlj, o, ho, fun e he hb => by
              have hdd := (mem_deps (md := md) ho).2 ⟨e, he, hb, rfl⟩
              have hlt := of_decide_eq_true (List.all_eq_true.1 (List.all_eq_true.1 h5 j (List.mem_range.2 (by omega))) _ hdd)
              exact ihj e.on hlt (by omega)⟩
            rw [h0] at this; cases this
          · have hlt : j < listed.size := by omega
            simp [hlt] at hlj ⊢
            exact hlj
      · have him := hlow i hi
        obtain ⟨_, o, ho, _⟩ := mem_ready.1 hi
        have ho' : L[i]? = some o := by simpa using ho
        have hoN : (headOps L m).toArray[i]? = some o := by rw [List.getElem?_toArray, headOps_head L m i him]; exact ho'
        have hmem : o ∈ L.take m := by
          have : (L.take m)[i]? = some o := by rw [List.getElem?_take, if_pos him]; exact ho'
          exact List.mem_of_getElem? this
        have hnd := List.all_eq_true.1 h1 o hmem
        have hgd := List.all_eq_true.1 h3 o hmem
        have hw : Region.wanted o (yielded (headOps L m).toArray a.tmps) = Region.wanted o (yielded L.toArray a.tmps) := by
          unfold Region.wanted
          cases hog : o.guard with
          | none => rfl
          | some jw =>
            obtain ⟨j, want⟩ := jw
            rw [hog] at hgd
            simp only
            rw [yielded_head L m _ j (of_decide_eq_true hgd)]
        have hq := h.2 i (by rw [ready_head L m hmL]; exact hi)
        have hstep : ∀ a' w', C w' → wpAnyQIn F n P md (headOps L m).toArray C Q0 fuel (listed.setIfInBounds i true) a' → wpAnyIn F n P md L.toArray Q fuel (listed.setIfInBounds i true) a' w' :=
          fun a' w' hC' h' => ih _ a' w' hC' (by simpa using hsz) (fun j h1 h2 => by rw [getD_set_ne true (by omega)]; exact hl j h1 h2) (hS.set hi) h'
        unfold qOpIn at hq
        rw [hoN] at hq
        unfold wpOpIn
        rw [ho]
        obtain ⟨ha, hq⟩ := hq
        simp only
        rw [hw] at hq
        split
        · rename_i hww; rw [if_pos hww] at hq; exact wpIn_quiet_r hnd hC hstep ha hq
        · rename_i hww; rw [if_neg hww] at hq; exact ⟨ha w hC, hstep _ _ hC hq⟩
end tail
theorem quiet_noops {L' : Array Oper} {Q0 : Act → Prop} : ∀ (tl : List Oper) (a : Act), Q0 a → wpQuietIn F n P L' C Q0 (tl.map noop) a
  | [], a, h => h
  | o :: tl, a, h => by
    refine ⟨fun w _ f hf => by simp [Oper.about, noop] at hf, ?_⟩
    have hg : Region.wanted (noop o) (yielded L' a.tmps) = true := rfl
    rw [if_pos hg]
    refine ⟨.bool true, fun w _ => ?_, quiet_noops tl a h⟩
    unfold Oper.quietAtIn
    simp [noop, execOp, Sem.run_pure, Oper.quietUponIn, Act.eval]
theorem quiet_append {L' : Array Oper} {Q0 : Act → Prop} (tl : List Oper) : ∀ (k : List Oper) (a : Act), wpQuietIn F n P L' C Q0 k a → wpQuietIn F n P L' C Q0 (k ++ tl.map noop) a
  | [], a, h => quiet_noops tl a h
  | o :: k, a, h => by
    obtain ⟨h1, h2⟩ := h
    refine ⟨h1, ?_⟩
    split
    · rename_i hg; rw [if_pos hg] at h2; exact Oper.quietIn_mono (fun a => quiet_append tl k a) h2
    · rename_i hg; rw [if_neg hg] at h2; exact quiet_append tl k _ h2
/-- the first m read; then the others, one after the other -/
theorem region_seq_r {id : Nat} {Q : Exit → Act → World → Prop} {a : Act} {w : World} {L : List Oper} (m : Nat) (hm : P.follows .mixedOrders = true) (hB : seqTailB .any L m = true)
    (h : wpQuietIn F n P (headOps L m).toArray (fun w' => ∃ k, w' = w.drewN k) (fun a' => ∀ w', (∃ k, w' = w.drewN k) → wpListIn F n P L.toArray Q (L.drop m) a' w') (L.take m) a) : (Code.region id L.toArray true).wpIn F n P Q a w := by
  have hL := hB
  simp only [seqTailB, Bool.and_eq_true] at hL
  obtain ⟨⟨_, hL⟩, _⟩ := hL
  simp only [Region.lexB, Bool.and_eq_true] at hL
  have hsz : L.toArray.size = (headOps L m).length := by simp [headOps_length]
  refine wpIn_region_any hm ?_
  have hlex := wpAnyQIn_lex (F := F) (n := n) (P := P) (C := fun w' => ∃ k, w' = w.drewN k) (md := .any) hL.1 (headOps L m) 0 (Array.replicate (headOps L m).toArray.size false) a (by simp) (by simpa using hL.2) (quiet_append (L.drop m) (L.take m) a h)
  rw [hsz]
  refine head_run hB (Q0 := fun a' => ∀ w', (∃ k, w' = w.drewN k) → wpListIn F n P L.toArray Q (L.drop m) a' w') (fun a w hC h => h w hC) _ _ a _ ⟨1, rfl⟩ (by simp [headOps_length]) ?_ ?_ (by simpa using hlex)
  · intro j _ hj
    simp [headOps_length, hj]
  · intro j hj
    exfalso
    simp [Array.getElem?_replicate] at hj
    split at hj <;> simp_all
end
end Go.Proofs.YtodgllnmepnpfaaDoor
