/- Activations as functions of their slots: for regions that are walked by an invariant. -/
import Derived.Test.YtfnhdkabfkjodaaRegInv
set_option linter.unusedVariables false
set_option linter.unusedSimpArgs false
namespace Go.Proofs.Ytfnhdkabfkjodaa
open Go.RowKit

/-- the activation of n slots that reads T -/
def actN (n : Nat) (T : Nat → Value) : Act := { tmps := ((List.range n).map T).toArray, defers := [] }
theorem actN_eval (n : Nat) (T : Nat → Value) (k : Nat) : (actN n T).eval (.tmp k) = if k < n then T k else undef := by
  unfold actN Act.eval
  by_cases h : k < n
  · simp [h]
  · simp [h]
def updN (T : Nat → Value) (d : Nat) (v : Value) (k : Nat) : Value := if k = d then v else T k
theorem updN_self (T : Nat → Value) (d : Nat) (v : Value) : updN T d v d = v := if_pos rfl
theorem updN_ne {T : Nat → Value} {d k : Nat} {v : Value} (h : k ≠ d) : updN T d v k = T k := if_neg h
theorem actN_put (n : Nat) (T : Nat → Value) (d : Nat) (v : Value) : (actN n T).put (some d) v = actN n (updN T d v) := by
  unfold actN Act.put
  simp only
  congr 1
  apply Array.toList_inj.1
  rw [Array.toList_setIfInBounds]
  apply List.ext_getElem?
  intro k
  simp only [List.toList_toArray, List.getElem?_set, List.length_map, List.length_range, List.getElem?_map]
  by_cases hk : d = k
  · subst hk
    by_cases h : d < n
    · simp [h, updN]
    · simp [h]
  · by_cases h : k < n
    · simp [h, hk, updN, Ne.symm hk]
    · simp [h, hk]
theorem actN_tmps (n : Nat) (T : Nat → Value) (k : Nat) : (actN n T).tmps.getD k undef = if k < n then T k else undef := by
  unfold actN
  by_cases h : k < n
  · simp [h]
  · simp [h]
theorem actN_at {n : Nat} {T : Nat → Value} {k : Nat} {v : Value} (h : T k = v) (hk : k < n) : (actN n T).tmps[k]? = some v := by
  unfold actN
  simp [hk, h]
theorem actN_set (n : Nat) (T : Nat → Value) (d : Nat) (v : Value) : ({ tmps := (actN n T).tmps.setIfInBounds d v, defers := (actN n T).defers } : Act) = actN n (updN T d v) := actN_put n T d v
/-- the invariant's walk, where what is done has had all that it waits for -/
theorem wp_region_invS {P : Program} {id : Nat} {l : List Oper} {Q : Exit → Act → World → Prop} {a : Act} {w : World} (hm : P.follows .mixedOrders = true) (he : elderB l = true)
    (Inv : (Nat → Prop) → Act → World → Prop)
    (h0 : Inv (fun _ => False) a w.drew)
    (hstep : ∀ (L : Nat → Prop) a w i o, (∀ j, L j → ∀ o e, l[j]? = some o → e ∈ o.after → Region.binds .any e = true → L e.on) → Inv L a w → l[i]? = some o → ¬ L i → (∀ e ∈ o.after, Region.binds .any e = true → L e.on) → ∀ K : Act → World → Prop, (∀ a' w', Inv (fun j => L j ∨ j = i) a' w' → K a' w') →
      if Region.wanted o (yielded l.toArray a.tmps) = true then Oper.wp P o a w K Q else K (a.put o.dst undef) w)
    (hdone : ∀ L a w, Inv L a w → (∀ i, i < l.length → L i) → Q .normal a w) : (Code.region id l.toArray true).wp P Q a w := by
  refine wp_region_inv hm he (fun L a w => (∀ j, L j → ∀ o e, l[j]? = some o → e ∈ o.after → Region.binds .any e = true → L e.on) ∧ Inv L a w) ⟨fun _ h => h.elim, h0⟩ ?_ (fun L a w h => hdone L a w h.2)
  rintro L a w i o ⟨hS, hI⟩ ho hL hd K hK
  refine hstep L a w i o hS hI ho hL hd K fun a' w' h => hK a' w' ⟨?_, h⟩
  rintro j (hj | rfl) o' e ho' he' hb
  · exact .inl (hS j hj o' e ho' he' hb)
  · rw [ho] at ho'
    obtain rfl := Option.some.inj ho'
    exact .inl (hd e he' hb)
/-- an activation, as it is, is such a one -/
theorem actN_of {n : Nat} {a : Act} (hn : a.tmps.size = n) (hd : a.defers = []) : a = actN n (fun k => a.tmps.getD k undef) := by
  obtain ⟨t, d⟩ := a
  simp only at hn hd
  subst hd
  unfold actN
  congr 1
  apply Array.ext
  · simp [hn]
  · intro i h1 h2
    simp [h1]
theorem patch_at (Z : Nat → Value) : ∀ (S : List Nat) (U : Nat → Value) (k : Nat), (S.foldl (fun T s => updN T s (Z s)) U) k = if k ∈ S then Z k else U k
  | [], U, k => by simp
  | s :: S, U, k => by
    rw [List.foldl_cons, patch_at Z S (updN U s (Z s)) k]
    by_cases h : k ∈ S
    · simp [h]
    · by_cases hk : k = s
      · subst hk; simp [h, updN]
      · simp [h, hk, updN]
theorem actN_patch {n : Nat} {U Z : Nat → Value} (S : List Nat) (h : ∀ k, k ∉ S → Z k = U k) : actN n Z = S.foldl (fun a s => a.put (some s) (Z s)) (actN n U) := by
  have key : ∀ (S : List Nat) (U : Nat → Value), S.foldl (fun a s => a.put (some s) (Z s)) (actN n U) = actN n (S.foldl (fun T s => updN T s (Z s)) U) := by
    intro S
    induction S with
    | nil => intro U; rfl
    | cons s S ih => intro U; rw [List.foldl_cons, List.foldl_cons, actN_put, ih]
  rw [key]
  congr 1
  funext k
  rw [patch_at]
  by_cases hk : k ∈ S
  · rw [if_pos hk]
  · rw [if_neg hk]; exact h k hk
/-- what is so in such a region: of each operation that is done, D; or all are done, and D of the last -/
def RegI (n last : Nat) (sl : Nat → Option Nat) (D : (Nat → Value) → World → Nat → Prop) (U : Nat → Value) (R : (Nat → Prop) → World → Prop) (L : Nat → Prop) (x : Act) (w : World) : Prop :=
  ∃ T, x = actN n T ∧ (∀ k, (∀ j, j ≤ last → sl j ≠ some k) → T k = U k) ∧ R L w ∧ ((¬ L last ∧ ∀ j, L j → D T w j) ∨ ((∀ j, j ≤ last → L j) ∧ D T w last))
theorem RegI.next {n last : Nat} {sl : Nat → Option Nat} {D : (Nat → Value) → World → Nat → Prop} {U : Nat → Value} {R : (Nat → Prop) → World → Prop} {L : Nat → Prop} {T : Nat → Value} {w w' : World} {i : Nat} {s : Nat} {v : Value} (hi : i < last) (hs : sl i = some s) (hinj : ∀ j, j ≤ last → sl j = some s → j = i)
    (hL : ¬ L i) (hlast : ¬ L last) (hD : ∀ j, L j → D T w j) (hU : ∀ k, (∀ j, j ≤ last → sl j ≠ some k) → T k = U k) (hR : R (fun j => L j ∨ j = i) w')
    (hup : ∀ j, L j → j ≠ i → D T w j → D (updN T s v) w' j) (hn : D (updN T s v) w' i) : RegI n last sl D U R (fun j => L j ∨ j = i) (actN n (updN T s v)) w' := by
  refine ⟨_, rfl, fun k hk => ?_, hR, .inl ⟨?_, ?_⟩⟩
  · rw [updN_ne (fun e => hk i (by omega) (by rw [hs, e]))]; exact hU k hk
  · rintro (h | h)
    · exact hlast h
    · omega
  · rintro j (h | rfl)
    · exact hup j h (fun e => hL (e ▸ h)) (hD j h)
    · exact hn
/-- of each operation its value, or what X says of it -/
def RD (sl : Nat → Nat) (vals : List Value) (X : Nat → Option ((Nat → Value) → World → Prop)) (T : Nat → Value) (w : World) (j : Nat) : Prop :=
  match X j with
  | some p => p T w
  | none => j < vals.length → T (sl j) = vals.getD j undef
def slO (last : Nat) (sl : Nat → Nat) (j : Nat) : Option Nat := if j < last then some (sl j) else none
theorem slO_not {s0 last k : Nat} (hk : k ∉ List.range' s0 last) : ∀ j, j ≤ last → slO last (fun j => s0 + j) j ≠ some k := by
  intro j _ h
  unfold slO at h
  split at h
  · have e : s0 + j = k := Option.some.inj h
    subst e
    exact hk (List.mem_range'_1.2 (by omega))
  · cases h
theorem RD.val {sl : Nat → Nat} {vals : List Value} {X : Nat → Option ((Nat → Value) → World → Prop)} {T : Nat → Value} {w : World} {j : Nat} (h : RD sl vals X T w j) (hX : X j = none) (hj : j < vals.length) {s : Nat} (hs : sl j = s) {v : Value} (hv : vals.getD j undef = v) : T s = v := by
  unfold RD at h
  rw [hX] at h
  rw [← hs, ← hv]; exact h hj
theorem RD.x {sl : Nat → Nat} {vals : List Value} {X : Nat → Option ((Nat → Value) → World → Prop)} {T : Nat → Value} {w : World} {j : Nat} (h : RD sl vals X T w j) {p : (Nat → Value) → World → Prop} (hX : X j = some p) : p T w := by
  unfold RD at h
  rw [hX] at h
  exact h
theorem RD.of_val {sl : Nat → Nat} {vals : List Value} {X : Nat → Option ((Nat → Value) → World → Prop)} {T : Nat → Value} {w : World} {j : Nat} (hX : X j = none) (h : T (sl j) = vals.getD j undef) : RD sl vals X T w j := by
  unfold RD
  rw [hX]; exact fun _ => h
theorem RD.of_x {sl : Nat → Nat} {vals : List Value} {X : Nat → Option ((Nat → Value) → World → Prop)} {T : Nat → Value} {w : World} {j : Nat} {p : (Nat → Value) → World → Prop} (hX : X j = some p) (h : p T w) : RD sl vals X T w j := by
  unfold RD
  rw [hX]; exact h
/-- one operation done that is not the last: a read, or one that turns the world -/
theorem RegI.step {n last : Nat} {sl : Nat → Nat} {vals : List Value} {X : Nat → Option ((Nat → Value) → World → Prop)} {U : Nat → Value} {R : (Nat → Prop) → World → Prop} {L : Nat → Prop} {T : Nat → Value} {w w' : World} (i : Nat) (v : Value)
    (hinj : ∀ j j', j < last → j' < last → sl j = sl j' → j = j') (hv : vals.length = last)
    (hi : i < last) (hL : ¬ L i) (hlast : ¬ L last) (hD : ∀ j, L j → RD sl vals X T w j) (hU : ∀ k, (∀ j, j ≤ last → slO last sl j ≠ some k) → T k = U k) (hR : R (fun j => L j ∨ j = i) w')
    (hup : ∀ j p, L j → X j = some p → (j < last → updN T (sl i) v (sl j) = T (sl j)) → p T w → p (updN T (sl i) v) w') (hn : RD sl vals X (updN T (sl i) v) w' i) :
    RegI n last (slO last sl) (RD sl vals X) U R (fun j => L j ∨ j = i) (actN n (updN T (sl i) v)) w' := by
  have hne : ∀ j, j < last → j ≠ i → updN T (sl i) v (sl j) = T (sl j) := fun j hj hji => updN_ne fun e => hji (hinj j i hj hi e)
  refine RegI.next hi (s := sl i) (by unfold slO; rw [if_pos hi]) (fun j hj hs => ?_) hL hlast hD hU hR (fun j hj hji hd => ?_) hn
  · unfold slO at hs
    split at hs
    · rename_i h; exact hinj j i h hi (Option.some.inj hs)
    · cases hs
  · cases hX : X j with
    | some p => exact RD.of_x hX (hup j p hj hX (fun h => hne j h hji) (hd.x hX))
    | none =>
      unfold RD at hd ⊢
      rw [hX] at hd ⊢
      intro hjl
      rw [hne j (by omega) hji]; exact hd hjl
end Go.Proofs.Ytfnhdkabfkjodaa
