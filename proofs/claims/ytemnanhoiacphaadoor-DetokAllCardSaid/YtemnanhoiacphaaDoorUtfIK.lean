/- utf.Items: what the iterator hands out, inside a fence. -/
import Derived.Test.YtemnanhoiacphaaDoorPk4
import Derived.Lib.RuneCountTail
import Derived.RangeFuncNested
import Derived.RangeFuncBound
import Derived.RangeFuncCalls
import Derived.RangeFuncLeaves
import Derived.Shelf.Abstract
import Derived.Shelf.RegionOpen
import Derived.OwnWalkIn
import Derived.TacticsInMore
import Derived.LoopNIn
import Derived.LoopIn
set_option linter.unusedVariables false
set_option linter.unusedSimpArgs false
namespace Go.Proofs.YtemnanhoiacphaaDoor
open Go.RowKit Go.Shelf

attribute [local go_sem] Oper.semAt_some

/-- the model's decoding is the reference's Width and read -/
theorem dec_eq (s : ByteArray) (p : Nat) (hp : p < s.size) : (widthS s p ≠ 0 → Utf8.decode s p = (readS s p (widthS s p), widthS s p)) ∧ (0 = widthS s p → Utf8.decode s p = (65533, 1)) := by
  have h := widthP_dec (s.size - p) _ _ _ _ (by omega) (byte_lt' s p) (byte_lt' s (p + 1)) (byte_lt' s (p + 2)) (byte_lt' s (p + 3))
  have e : Utf8.decode s p = Lib.decodeN (s.size - p) (byteAt s p) (byteAt s (p + 1)) (byteAt s (p + 2)) (byteAt s (p + 3)) := Lib.decode_at s p
  rw [e]
  exact ⟨fun h0 => (h.1 h0).1, fun h0 => h.2 h0.symm⟩
theorem dec_le (s : ByteArray) (p : Nat) (hp : p < s.size) : p + (Utf8.decode s p).2 ≤ s.size := by
  by_cases h : widthS s p = 0
  · rw [(dec_eq s p hp).2 h.symm]; exact hp
  · rw [(dec_eq s p hp).1 h]; exact (widthS_fits s p hp h).1

/-- the item at a place -/
def itAt (s : ByteArray) (p : Nat) : It := ⟨p, (Utf8.decode s p).2, (Utf8.decode s p).1, isBad (Utf8.decode s p)⟩
def itemsF (s : ByteArray) : Nat → Nat → List It
  | 0, _ => []
  | f + 1, p => if p < s.size then itAt s p :: itemsF s f (p + (Utf8.decode s p).2) else []
def itemsU (s : ByteArray) : List It := itemsF s s.size 0
theorem firstIt_at (s : ByteArray) (p : Nat) (hp : p < s.size) : firstIt (s.extract p s.size) p = itAt s p := by
  have e : Lib.decodeGo (s.extract p s.size) = Utf8.decode s p := by
    unfold Lib.decodeGo
    rw [if_neg (by simp [ByteArray.size_extract]; omega), Lib.tail_decode, Nat.add_zero]
  unfold firstIt itAt
  rw [e]
theorem itemsF_more (s : ByteArray) : ∀ (f g p : Nat), s.size ≤ p + f → s.size ≤ p + g → itemsF s f p = itemsF s g p
  | 0, 0, p, _, _ => rfl
  | 0, g + 1, p, h, _ => by rw [itemsF, itemsF, if_neg (by omega)]
  | f + 1, 0, p, _, h => by rw [itemsF, itemsF, if_neg (by omega)]
  | f + 1, g + 1, p, h1, h2 => by
    rw [itemsF, itemsF]
    by_cases hp : p < s.size
    · have := Lib.width_pos s p
      rw [if_pos hp, if_pos hp, itemsF_more s f g _ (by omega) (by omega)]
    · rw [if_neg hp, if_neg hp]
theorem itemsF_step {s : ByteArray} {p : Nat} (hp : p < s.size) : itemsF s (s.size - p) p = itAt s p :: itemsF s (s.size - (p + (Utf8.decode s p).2)) (p + (Utf8.decode s p).2) := by
  have e : itemsF s (s.size - p) p = itemsF s (s.size - (p + 1) + 1) p := by congr 1; omega
  have := Lib.width_pos s p
  rw [e, itemsF, if_pos hp, itemsF_more s (s.size - (p + 1)) (s.size - (p + (Utf8.decode s p).2)) _ (by omega) (by omega)]

/-- what a round that goes on keeps: what lay below n₀, and each single item that lay in a box -/
def KpIt (n₀ : Nat) (W W' : World) : Prop := Below n₀ W W' ∧ ∀ (k : Nat) (cs : Array Value), W.heap[k]? = some (.cells cs 104 (0, 0)) → cs.size = 4 → W'.heap[k]? = W.heap[k]?
theorem KpIt.trans {n₀ : Nat} {A B C : World} (h : KpIt n₀ A B) (k : KpIt n₀ B C) : KpIt n₀ A C :=
  ⟨h.1.trans k.1, fun b cs hb hc => (k.2 b cs ((h.2 b cs hb hc).trans hb) hc).trans (h.2 b cs hb hc)⟩
theorem KpIt.put {n₀ : Nat} {w : World} (hn : n₀ ≤ w.heap.size) (W : World) (l : Nat) (o o' : Obj) (hl : w.heap.size ≤ l) (h : W.heap[l]? = some o) (hc : o.isCells = false) (hw : o.isWalk = false) : KpIt n₀ W (W.putObj l o') :=
  ⟨belowK_b hn W l o o' hl h hc hw, fun k cs hk _ => World.putObj_heap_other (fun e => by subst e; rw [h] at hk; cases hk; cases hc)⟩

theorem Tabs.below {w w' : World} {n₀ : Nat} (h : Tabs w) (hB : Below n₀ w w') (h2 : 2 ≤ n₀) : Tabs w' :=
  ⟨fun c hc => (hB.cell (p := ⟨0, c, none⟩) (by show 0 < n₀; omega)).trans (h.1 c hc), fun i hi => ⟨(hB.cell (p := ⟨1, 2 * i, none⟩) (by show 1 < n₀; omega)).trans (h.2 i hi).1, (hB.cell (p := ⟨1, 2 * i + 1, none⟩) (by show 1 < n₀; omega)).trans (h.2 i hi).2⟩⟩
theorem grown_of_only {W W' : World} (h : Only [] W W') : W.grownBy W' none := ⟨h.os, h.tape, h.output, h.size, fun k hk _ => h.block k hk (by simp)⟩

end Go.Proofs.YtemnanhoiacphaaDoor
