/- How []Ask (chapter 17) is opened. -/
import Derived.Test.YtemnanhoiacphaaDoorOpenK
import Derived.Deep.Strs
import Derived.Test.YtemnanhoiacphaaDoorRows
set_option linter.unusedVariables false
set_option linter.unusedSimpArgs false
set_option maxRecDepth 100000
namespace Go.Proofs.YtemnanhoiacphaaDoor
open Go.RowKit Go.Deep Go.ChangeShapes Go.WideShapes

theorem trod_slice_of {H : Type} {enc : TypeId × Value → H} {P : Program} {W : World} {t e : TypeId} (ht : P.underlying t = some (.slice e)) {n : Nat} {cs : List Value} {x : DataW H × List MemPlace}
    (h : DataW.trod enc P W 0 (fun _ => true) true n t cs = some x) : ∃ A len cap, cs = [.slice A len cap] ∧ DataW.Trod enc P W 0 (fun _ => true) true t (.slice A len cap) x.1 x.2 := by
  rcases open_slice ht h with ⟨h1, h2⟩ | ⟨a, len', cap', m, _, D, Pl, h1, _⟩
  · subst h1; exact ⟨none, 0, 0, rfl, n, by simpa [Value.cells] using h⟩
  · subst h1; exact ⟨some a, len', cap', rfl, n, by simpa [Value.cells] using h⟩

structure AskD where
  k : Int
  A : Option Addr
  n : Nat
  c : Nat
  l : List Int
  m : Int
instance : Inhabited AskD := ⟨⟨0, none, 0, 0, [], 0⟩⟩
def AskD.enc (a : AskD) : List Value := [.int .i64 a.k, .slice a.A a.n a.c, .int .i64 a.m]
def AskD.ok (W : World) (a : AskD) : Prop := (-9223372036854775808 ≤ a.k ∧ a.k ≤ 9223372036854775807) ∧ (-9223372036854775808 ≤ a.m ∧ a.m ≤ 9223372036854775807) ∧ a.l.length = a.n ∧ Rd W W.heap.size 1 a.A a.n (a.l.map (Value.int .i64)) ∧ a.n ≤ a.c ∧ a.c ≤ maxLen ∧ ∀ x ∈ a.l, (Lit.int .i64 x).wf = true

theorem wf_i64 {n : Int} (h : (Lit.int .i64 n).wf = true) : -9223372036854775808 ≤ n ∧ n ≤ 9223372036854775807 := by
  simpa [Lit.wf, IntKind.min, IntKind.max, IntKind.signed, IntKind.bits] using h

theorem open_asks {H : Type} {enc : TypeId × Value → H} {W : World} {A : Option Addr} {len cap : Nat} {d : DataW H} {p : List MemPlace}
    (h : DataW.Trod enc Tryd.prog W 0 (fun _ => true) true 62 (.slice A len cap) d p) :
    ∃ L : List AskD, L.length = len ∧ Rd W W.heap.size 3 A len (L.flatMap AskD.enc) ∧ len ≤ cap ∧ cap ≤ maxLen ∧ ∀ a ∈ L, a.ok W := by
  obtain ⟨L, h1, h2, h3, h4, h5⟩ := rd_of_trod (α := AskD) (P := Tryd.prog) (e := 68) (size := 3) Tryd.underlying62 (by kernel_rfl) (by omega) AskD.enc (fun _ a => a.ok W) (by
    intro n cs x hl hx
    obtain ⟨y0, y1, y2, m, rfl, _, g0, g1, g2⟩ := trod_struct3 Tryd.underlying68 hx
    obtain ⟨c0, c1, c2, rfl⟩ : ∃ c0 c1 c2, cs = [c0, c1, c2] := by
      match cs, hl with
      | [c0, c1, c2], _ => exact ⟨c0, c1, c2, rfl⟩
    have g0' : DataW.trod enc Tryd.prog W 0 (fun _ => true) true m 3 [c0] = some y0 := g0
    have g1' : DataW.trod enc Tryd.prog W 0 (fun _ => true) true m 27 [c1] = some y1 := g1
    have g2' : DataW.trod enc Tryd.prog W 0 (fun _ => true) true m 3 [c2] = some y2 := g2
    obtain ⟨k, hk, _, w0⟩ := DataW.trod_int Tryd.underlying3 g0'
    obtain ⟨k2, hk2, _, w2⟩ := DataW.trod_int Tryd.underlying3 g2'
    obtain ⟨A1, n1, cp1, hs, hT⟩ := trod_slice_of Tryd.underlying27 g1'
    obtain ⟨l, r1, r2, r3, r4, _, r5⟩ := open_nums Tryd.underlying27 Tryd.underlying3 (by kernel_rfl) hT
    simp only [List.cons.injEq, and_true] at hk hk2 hs
    subst hk hk2 hs
    exact ⟨⟨k, A1, n1, cp1, l, k2⟩, rfl, wf_i64 w0, wf_i64 w2, r1, r2, r3, r4, r5⟩) h
  refine ⟨L, h1, h2, h3, h4, ?_⟩
  intro a ha
  rcases h5 with ⟨_, _, _, _, rfl⟩ | ⟨es, sp, rfl, _, h6, _, h7⟩
  · cases ha
  · obtain ⟨i, hi⟩ := List.mem_iff_getElem?.1 ha
    obtain ⟨_, _, h8⟩ := h7 i a hi
    exact h8
end Go.Proofs.YtemnanhoiacphaaDoor
