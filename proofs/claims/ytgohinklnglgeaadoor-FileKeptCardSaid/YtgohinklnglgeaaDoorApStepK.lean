/- append at a step of a region that draws its order. -/
import Derived.Test.YtgohinklnglgeaaDoorPk1
import Derived.Deep.AppendLies
set_option linter.unusedVariables false
set_option linter.unusedSimpArgs false
namespace Go.Proofs.YtgohinklnglgeaaDoor
open Go.RowKit
theorem step_append_row {P : Program} {w : World} {ops : Array Oper} {o : Oper} {a : Act} {K : Act → World → Prop} {Q : Exit → Act → World → Prop} {E : Prop} (hgd : o.guard = none) (s x : Operand) (t : TypeId)
    (ho : o.op = .call { callee := .builtin .append, args := #[s, x], argTypes := #[t, t] })
    (base e : Nat) (z : Value) (size bytes : Nat) (ht : P.underlying t = some (.slice e)) (hinfo : (P.info? e).map (fun i => (i.zero, i.size, i.bytes)) = some (some z, size, bytes))
    (hzs : z.cells.size = size) (hsz : 0 < size) {v : Value} {n : Nat} {xs : List Value} (hs : a.eval s = v) (hown : w.ownsRow base e size v n xs)
    {B : Nat} {X : Option Addr} {m : Nat} (c : Nat) {ys : List Value} (hx : a.eval x = .slice X m c) (hy : Rd w B size X m ys) (h1 : ∀ u ∈ ys, u.oneCell' = true) (h63 : n + m ≤ maxLen) (hbytes : (n + m) * bytes ≤ 140737488355328) (hbase : base ≤ w.heap.size)
    (h : ∀ v' w', w'.ownsRow base e size v' (n + m) (xs ++ ys) → Only v.ownBlock.toList w w' → (v'.ownBlock = v.ownBlock ∨ v'.ownBlock = some w.heap.size) → K (a.put o.dst v') w') :
    if Region.wanted o (yielded ops a.tmps) = true then Oper.wp P o a w K Q else E := by
  have hw : Region.wanted o (yielded ops a.tmps) = true := by simp [Region.wanted, hgd]
  rw [if_pos hw]
  obtain ⟨v', w', hr, g1, g2, g3, _⟩ := run_append_row (P := P) (w := w) base t o.type e z size bytes ht hinfo hzs hsz hown c hy h1 h63 hbytes hbase
  exact wp_append_run s x t t ho hs hx hr (h v' w' g1 g2 g3)
theorem only_own {w4 W w5 : World} {g n c : Nat} (h : Only (Value.slice (some ⟨g, 0, none⟩) n c).ownBlock.toList W w5) (hg : w4.heap.size ≤ g) (hW : Only [] w4 W) : Only [] w4 w5 :=
  hW.trans' h (by intro x hx; simp [Value.ownBlock] at hx; omega)
theorem only_own' {w4 W w5 w6 : World} {v : Value} {e size n : Nat} {xs : List Value} (hO5 : Only [] w4 w5) (hW : Only [] w5 W) (h : Only v.ownBlock.toList W w6) (hown : w5.ownsRow w4.heap.size e size v n xs) : Only [] w4 w6 :=
  (hO5.trans hW).trans' h (by intro x hx; exact .inr (own_lt hown (by simpa using hx)).1)
end Go.Proofs.YtgohinklnglgeaaDoor
