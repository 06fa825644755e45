/- Maps of the call's own as functions: over any program. -/
import Derived.Test.YtgohinklnglgeaaDoorPk1
import Derived.Maps.OwnSet
import Derived.Maps.OwnOps
import Derived.DeepKeys4
set_option linter.unusedVariables false
set_option linter.unusedSimpArgs false
namespace Go.Proofs.YtgohinklnglgeaaDoor
open Go Go.Maps Go.RowKit

/-- how keys and elements of a map are told -/
structure MapTy (P : Program) (α β : Type) where
  t : TypeId
  kt : TypeId
  et : TypeId
  R : Value → Option (DataW Unit × List MemPlace)
  ok : α → Prop
  key : α → Value
  kl : α → Lit
  val : β → Value
  vd : β → DataW Unit
  zero : β
  law : Keyed P kt
  under : P.underlying t = some (.map kt et)
  hkey : ∀ a, ok a → keyOf P kt (key a) = some (kl a)
  hinj : ∀ a b, ok a → ok b → key a = key b → a = b
  hR : ∀ b, R (val b) = some (vd b, [])
  hRi : ∀ v b ps, R v = some (vd b, ps) → v = val b
  hz : ∀ w, (zeroValue et).run P w = .ok (val zero) w

variable {P : Program} {α β : Type}

/-- block b is a map of at most N entries that is the function f -/
def MapIs (M : MapTy P α β) (w : World) (b N : Nat) (f : α → Option β) : Prop :=
  ∃ D : DataW Unit, w.ownsMap P M.kt M.R b N D ∧ ∀ a, M.ok a → Maps.has D (M.kl a) = (f a).isSome ∧ D.atKey (M.kl a) (M.vd M.zero) = M.vd ((f a).getD M.zero)

theorem MapIs.lt {M : MapTy P α β} {w : World} {b N : Nat} {f : α → Option β} (h : MapIs M w b N f) : b < w.heap.size := by
  obtain ⟨D, h, _⟩ := h; exact h.lt
theorem MapIs.only {M : MapTy P α β} {w w' : World} {b N : Nat} {f : α → Option β} (h : MapIs M w b N f) {l : List Nat} (hO : Only l w w') (hb : b ∉ l) : MapIs M w' b N f := by
  obtain ⟨D, h, hf⟩ := h
  have hlt := h.lt
  obtain ⟨es, clock, h1, h2⟩ := h
  exact ⟨D, ⟨es, clock, (hO.block b hlt hb).trans h1, h2⟩, hf⟩
theorem MapIs.new (M : MapTy P α β) (w : World) {b : Nat} (hb : w.heap.size = b) : MapIs M (w.alloc (.map #[] 0)) b 0 (fun _ => none) := by
  subst hb
  refine ⟨.map [], World.ownsMap_made _ _ _ _, fun a _ => ⟨rfl, rfl⟩⟩
theorem MapIs.congr {M : MapTy P α β} {w : World} {b N N' : Nat} {f g : α → Option β} (h : MapIs M w b N f) (hN : N ≤ N') (hfg : ∀ a, M.ok a → f a = g a) : MapIs M w b N' g := by
  obtain ⟨D, h, hf⟩ := h
  exact ⟨D, h.mono hN, fun a ha => by rw [← hfg a ha]; exact hf a ha⟩
theorem MapIs.look {M : MapTy P α β} {w : World} {b N : Nat} {f : α → Option β} (h : MapIs M w b N f) {a : α} (ha : M.ok a) :
    (Instr.lookup M.t (.map (some b)) (M.key a) true).run P w = .ok (.tuple #[M.val ((f a).getD M.zero), .bool (f a).isSome]) w := by
  obtain ⟨D, h, hf⟩ := h
  obtain ⟨v, ps, hrun, hv⟩ := h.look_ok M.law M.under (M.hz w) (M.hR M.zero) (M.hkey a ha)
  obtain ⟨h1, h2⟩ := hf a ha
  rw [h2] at hv
  rw [hrun, h1, M.hRi v _ ps hv]
theorem MapIs.store {M : MapTy P α β} {w : World} {b N : Nat} {f : α → Option β} (h : MapIs M w b N f) {a : α} (ha : M.ok a) (v : β) (hN : N < maxLen) :
    ∃ w', (Instr.mapUpdate M.t (.map (some b)) (M.key a) (M.val v)).run P w = .ok () w' ∧ Only [b] w w' ∧ ∀ g : α → Option β, g a = some v → (∀ a', a' ≠ a → g a' = f a') → MapIs M w' b (N + 1) g := by
  obtain ⟨D, h, hf⟩ := h
  obtain ⟨w', hrun, hown, hturn⟩ := h.store M.law M.under hN (M.hkey a ha) (M.hR v)
  refine ⟨w', hrun, ?_, fun g hg hgo => ⟨_, hown, fun a' ha' => ?_⟩⟩
  · have hgr := hturn.grown
    exact (Only.refl _ w).grown hgr (fun k hk => .inl (by simp at hk; simp [hk]))
  · by_cases e : a' = a
    · subst e
      rw [Maps.has_put_same h.isMap (M.law.key (M.hkey a' ha)), Maps.atKey_put_same h.isMap (M.law.key (M.hkey a' ha)), hg]
      exact ⟨rfl, rfl⟩
    · have hne : M.kl a' ≠ M.kl a := fun hk => e (M.hinj a' a ha' ha (M.law.inj (M.hkey a' ha') (by rw [hk]; exact M.hkey a ha)))
      rw [Maps.has_put_other hne, Maps.atKey_put_other hne, hgo a' e]
      exact hf a' ha'
end Go.Proofs.YtgohinklnglgeaaDoor
