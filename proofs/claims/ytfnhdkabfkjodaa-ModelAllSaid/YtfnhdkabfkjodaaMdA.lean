/- ModelAll. -/
import Derived.Test.YtfnhdkabfkjodaaMdA0
import Derived.Test.YtfnhdkabfkjodaaKn5
import Derived.Test.YtfnhdkabfkjodaaMd6
import Derived.Deep.RegionHeld3
set_option linter.unusedVariables false
set_option linter.unusedSimpArgs false
namespace Go.Proofs.Ytfnhdkabfkjodaa
open Go.RowKit Go.Maps

/-- block b is a map of n entries that is the function f -/
def MapN {P : Program} {α β : Type} (M : MapTy P α β) (w : World) (b n : Nat) (f : α → Option β) : Prop :=
  ∃ D : DataW Unit, w.ownsMap P M.kt M.R b n D ∧ Maps.size D = n ∧ ∀ a, M.ok a → Maps.has D (M.kl a) = (f a).isSome ∧ D.atKey (M.kl a) (M.vd M.zero) = M.vd ((f a).getD M.zero)
section
variable {P : Program} {α β : Type} {M : MapTy P α β} {w w' : World} {b n : Nat} {f : α → Option β}
theorem MapN.only (h : MapN M w b n f) {l : List Nat} (hO : Only l w w') (hb : b ∉ l) : MapN M w' b n f := by
  obtain ⟨D, h, hs, hf⟩ := h
  have hlt := h.lt
  obtain ⟨es, clock, h1, h2⟩ := h
  exact ⟨D, ⟨es, clock, (hO.block b hlt hb).trans h1, h2⟩, hs, hf⟩
theorem MapN.new (M : MapTy P α β) (w : World) (hb : w.heap.size = b) : MapN M (w.alloc (.map #[] 0)) b 0 (fun _ => none) := by
  subst hb
  exact ⟨.map [], World.ownsMap_made _ _ _ _, rfl, fun a _ => ⟨rfl, rfl⟩⟩
theorem MapN.look (h : MapN M w b n f) {a : α} (ha : M.ok a) : (Instr.lookup M.t (.map (some b)) (M.key a) false).run P w = .ok (M.val ((f a).getD M.zero)) w := by
  obtain ⟨D, h, _, hf⟩ := h
  obtain ⟨v, ps, hrun, hv⟩ := h.lookup M.law M.under (M.hz w) (M.hR M.zero) (M.hkey a ha)
  obtain ⟨h1, h2⟩ := hf a ha
  rw [h2] at hv
  rw [hrun, M.hRi v _ ps hv]
theorem MapN.len (h : MapN M w b n f) (ty : TypeId) : (Builtin.len_ #[M.t] ty #[.map (some b)]).run P w = .ok (.int .i64 (n : Int)) w := by
  obtain ⟨D, h, hs, _⟩ := h
  rw [h.len M.under ty, hs]
theorem MapN.store (h : MapN M w b n f) {a : α} (ha : M.ok a) (hno : f a = none) (v : β) (hN : n < maxLen) :
    ∃ w', (Instr.mapUpdate M.t (.map (some b)) (M.key a) (M.val v)).run P w = .ok () w' ∧ Only [b] w w' ∧ ∀ g : α → Option β, g a = some v → (∀ a', a' ≠ a → g a' = f a') → MapN M w' b (n + 1) g := by
  obtain ⟨D, h, hs, hf⟩ := h
  obtain ⟨w', hrun, hown, hturn⟩ := h.store M.law M.under hN (M.hkey a ha) (M.hR v)
  refine ⟨w', hrun, ?_, fun g hg hgo => ⟨_, hown, ?_, fun a' ha' => ?_⟩⟩
  · exact (Only.refl _ w).grown hturn.grown (fun k hk => .inl (by simp at hk; simp [hk]))
  · rw [Maps.size_put (h.tidy M.law), (hf a ha).1, hno, hs]; rfl
  · by_cases e : a' = a
    · subst e
      rw [Maps.has_put_same h.isMap (M.law.key (M.hkey a' ha)), Maps.atKey_put_same h.isMap (M.law.key (M.hkey a' ha)), hg]
      exact ⟨rfl, rfl⟩
    · have hne : M.kl a' ≠ M.kl a := fun hk => e (M.hinj a' a ha' ha (M.law.inj (M.hkey a' ha') (by rw [hk]; exact M.hkey a ha)))
      rw [Maps.has_put_other hne, Maps.atKey_put_other hne, hgo a' e]
      exact hf a' ha'
end
/-- what the ranks know of the first i merges -/
structure RankF (ms : List Mg) (i : Nat) (f : Int → Option Int) : Prop where
  is_ : ∀ id, (f id).isSome = (idsOf (ms.take i)).contains id
  nz : ∀ id v, f id = some v → v ≠ 0
theorem RankF.next {ms : List Mg} {i : Nat} {f : Int → Option Int} (h : RankF ms i f) {m : Mg} (hm : ms[i]? = some m) : RankF ms (i + 1) (fun id => if id = m.id then some ((i : Int) + 1) else f id) := by
  refine ⟨fun id => ?_, fun id v hv => ?_⟩
  · rw [take_snoc' hm, idsOf_snoc]
    by_cases e : id = m.id
    · rw [if_pos e, Option.isSome_some, eq_comm, List.contains_iff_mem, e]; simp
    · rw [if_neg e, h.is_ id]
      rw [Bool.eq_iff_iff, List.contains_iff_mem, List.contains_iff_mem, List.mem_append]
      simp [e]
  · by_cases e : id = m.id
    · rw [if_pos e] at hv
      have : (i : Int) + 1 = v := by simpa using hv
      omega
    · rw [if_neg e] at hv; exact h.nz id v hv
theorem RankF.no {ms : List Mg} {i : Nat} {f : Int → Option Int} (h : RankF ms i f) {id : Int} (hc : (idsOf (ms.take i)).contains id = false) : f id = none := by
  have := h.is_ id
  rw [hc] at this
  simpa using this
theorem RankF.yes {ms : List Mg} {i : Nat} {f : Int → Option Int} (h : RankF ms i f) {id : Int} (hc : (idsOf (ms.take i)).contains id = true) : (f id).getD 0 ≠ 0 := by
  have := h.is_ id
  rw [hc] at this
  obtain ⟨v, hv⟩ := Option.isSome_iff_exists.1 this
  rw [hv]; exact h.nz id v hv
end Go.Proofs.Ytfnhdkabfkjodaa
