/- strings.Builder: WriteRune. -/
import Derived.Test.YtodgllnmepnpfaaDoorUtfI
import Derived.Test.YtodgllnmepnpfaaDoorAp
import Derived.Lib.MapLaws
set_option linter.unusedVariables false
set_option linter.unusedSimpArgs false
namespace Go.Proofs.YtodgllnmepnpfaaDoor
open Go.RowKit

theorem own_type {w : World} {base : Nat} {e : TypeId} {size : Nat} {v : Value} {n : Nat} {xs : List Value} (h : w.ownsRow base e size v n xs) {k : Nat} (hk : v.ownBlock = some k) {b : Nat} {t : TypeId} {cs : List Value} (hb : Blk w b t cs) (ht : t ≠ e) : b ≠ k := by
  rcases h.2 with ⟨rfl, _⟩ | ⟨g, cap, cur, rfl, _, hg, _⟩
  · simp [Value.ownBlock] at hk
  · have hgk : g = k := by simpa [Value.ownBlock] using hk
    subst hgk
    exact hb.ne (cs' := cur.toList) (Blk.mk' hg rfl) ht
theorem runeCells_bvs (r : Nat) : Lib.runeCells (r : Int) = bvs (Lib.encodeRune (r : Int)) := by
  have h : ∀ x ∈ Lib.encodeRuneZ (r : Int), 0 ≤ x ∧ x ≤ 255 := by
    intro x hx
    unfold Lib.encodeRuneZ at hx
    (repeat' split at hx) <;> simp at hx <;> omega
  unfold Lib.runeCells Lib.encodeRune bvs
  rw [List.map_map]
  apply List.map_congr_left
  intro x hx
  have := h x hx
  simp [bv]
  omega

end Go.Proofs.YtodgllnmepnpfaaDoor
