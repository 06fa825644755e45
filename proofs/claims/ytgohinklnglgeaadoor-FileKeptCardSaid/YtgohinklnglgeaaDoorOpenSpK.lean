/- How []api.Span, api.Data and utf.Item are opened, with their bulk. -/
import Derived.Test.YtgohinklnglgeaaDoorOpenK
import Derived.Test.YtgohinklnglgeaaDoorPk5
import Derived.Test.YtgohinklnglgeaaDoorBulk
import Derived.Deep.Strs
import Derived.Lib.SmallJoins
import Derived.SizedLaws
import Derived.Test.YtgohinklnglgeaaDoorRows
set_option linter.unusedVariables false
set_option linter.unusedSimpArgs false
namespace Go.Proofs.YtgohinklnglgeaaDoor
open Go.RowKit Go.Deep Go.ChangeShapes Go.WideShapes

def i32ok (n : Int) : Prop := -2147483648 ≤ n ∧ n ≤ 2147483647
theorem wf_i32 {n : Int} (h : (Lit.int .i32 n).wf = true) : i32ok n := by
  simpa [i32ok, Lit.wf, IntKind.min, IntKind.max, IntKind.signed, IntKind.bits] using h
/-- a slice whose cells are given -/
theorem trod_slice_cell {H : Type} {enc : TypeId × Value → H} {P : Program} {W : World} {t e : TypeId} (ht : P.underlying t = some (.slice e)) {n : Nat} {cs : List Value} {x : DataW H × List MemPlace}
    (h : DataW.trod enc P W 0 (fun _ => true) true n t cs = some x) : ∃ A len cap, cs = [.slice A len cap] ∧ DataW.Trod enc P W 0 (fun _ => true) true t (.slice A len cap) x.1 x.2 := by
  rcases open_slice ht h with ⟨h1, h2⟩ | ⟨a, len', cap', m, _, D, Pl, h1, _⟩
  · subst h1; exact ⟨none, 0, 0, rfl, n, by simpa [Value.cells] using h⟩
  · subst h1; exact ⟨some a, len', cap', rfl, n, by simpa [Value.cells] using h⟩

set_option maxRecDepth 100000 in
theorem open_spans {H : Type} {enc : TypeId × Value → H} {W : World} {A : Option Addr} {len cap : Nat} {d : DataW H} {p : List MemPlace}
    (h : DataW.Trod enc Tryd.prog W 0 (fun _ => true) true 36 (.slice A len cap) d p) :
    ∃ L : List Sp, L.length = len ∧ Rd W W.heap.size 2 A len (ses L) ∧ len ≤ cap ∧ cap ≤ maxLen ∧ cap + 1 ≤ Rows.uptoBulk d ∧ Fits Tryd.prog 70 d cap ∧ ∀ x ∈ L, i32ok x.1 ∧ i32ok x.2 := by
  obtain ⟨L, h1, h2, h3, h4, h5⟩ := rd_of_trod (α := Sp) (P := Tryd.prog) (e := 70) (size := 2) Tryd.underlying36 (by kernel_rfl) (by omega) spv (fun _ a => i32ok a.1 ∧ i32ok a.2) (by
    intro n cs x hl hx
    obtain ⟨y0, y1, m, rfl, _, g0, g1⟩ := trod_struct2 Tryd.underlying70 hx
    obtain ⟨c0, c1, rfl⟩ : ∃ c0 c1, cs = [c0, c1] := by
      match cs, hl with
      | [c0, c1], _ => exact ⟨c0, c1, rfl⟩
    have g0' : DataW.trod enc Tryd.prog W 0 (fun _ => true) true m 21 [c0] = some y0 := g0
    have g1' : DataW.trod enc Tryd.prog W 0 (fun _ => true) true m 21 [c1] = some y1 := g1
    obtain ⟨k, hk, _, w0⟩ := DataW.trod_int Tryd.underlying21 g0'
    obtain ⟨k2, hk2, _, w2⟩ := DataW.trod_int Tryd.underlying21 g1'
    simp only [List.cons.injEq, and_true] at hk hk2
    subst hk hk2
    exact ⟨(k, k2), rfl, wf_i32 w0, wf_i32 w2⟩) h
  refine ⟨L, h1, h2, h3, h4, ?_, ?_, ?_⟩
  · rcases h5 with ⟨rfl, _, _, rfl, _⟩ | ⟨es, sp, rfl, _, h6, _⟩
    · exact bulk_pos _
    · have := bulk_slice es sp; omega
  · rcases h5 with ⟨rfl, _, _, rfl, _⟩ | ⟨es, sp, rfl, _, h6, _⟩
    · exact .inl ⟨rfl, rfl⟩
    · exact .inr ⟨es, sp, rfl, h6⟩
  · intro a ha
    rcases h5 with ⟨_, _, _, _, rfl⟩ | ⟨es, sp, rfl, _, h6, _, h7⟩
    · cases ha
    · obtain ⟨i, hi⟩ := List.mem_iff_getElem?.1 ha
      obtain ⟨_, _, h8⟩ := h7 i a hi
      exact h8

theorem sized_field {H : Type} {P : Program} {ts : List TypeId} {ds : List (DataW H)} (h : (DataW.weightsEach P ts ds).all (· ≤ reachBytes) = true) {j : Nat} {t : TypeId} {parts : List (DataW H)} (ht : ts[j]? = some t) (hd : ds[j]? = some (.agg parts))
    {fs : Array Field} (hu : P.underlying t = some (.struct fs)) {i : Nat} {t' e : TypeId} {d : DataW H} {cap : Nat} (ht' : (fs.toList.map (·.type))[i]? = some t') (hd' : parts[i]? = some d) (hu' : P.underlying t' = some (.slice e)) (hf : Fits P e d cap) : cap * P.bytesOf e ≤ 140737488351232 := by
  rcases hf with ⟨_, rfl⟩ | ⟨es, sp, rfl, rfl⟩
  · omega
  · have h1 : (es.length + sp.length) * P.bytesOf e ∈ DataW.weightsEach P (fs.toList.map (·.type)) parts := DataW.weights_mem_each ht' hd' _ (by simp [DataW.weights, hu'])
    have := List.all_eq_true.1 h _ (DataW.weights_mem_each ht hd _ (by simp only [DataW.weights, hu]; exact h1))
    exact of_decide_eq_true this

theorem trod_struct5 {H : Type} {enc : TypeId × Value → H} {P : Program} {w : World} {base : Nat} {spare : Nat → Bool} {held : Bool} {t : TypeId} {f0 f1 f2 f3 f4 : Field} {fuel : Nat} {cs : List Value} {x : DataW H × List MemPlace} (ht : P.underlying t = some (.struct #[f0, f1, f2, f3, f4])) (h : DataW.trod enc P w base spare held fuel t cs = some x) :
    ∃ y0 y1 y2 y3 y4 n, x = (.agg [y0.1, y1.1, y2.1, y3.1, y4.1], y0.2 ++ (y1.2 ++ (y2.2 ++ (y3.2 ++ y4.2)))) ∧ cs.length = P.cellsOf t ∧ DataW.trod enc P w base spare held n f0.type ((cs.drop f0.offset).take (P.cellsOf f0.type)) = some y0 ∧
      DataW.trod enc P w base spare held n f1.type ((cs.drop f1.offset).take (P.cellsOf f1.type)) = some y1 ∧ DataW.trod enc P w base spare held n f2.type ((cs.drop f2.offset).take (P.cellsOf f2.type)) = some y2 ∧
      DataW.trod enc P w base spare held n f3.type ((cs.drop f3.offset).take (P.cellsOf f3.type)) = some y3 ∧ DataW.trod enc P w base spare held n f4.type ((cs.drop f4.offset).take (P.cellsOf f4.type)) = some y4 := by
  obtain ⟨xs, n, _, rfl, hl, hlen, hf⟩ := DataW.trod_struct ht h
  match xs, hlen with
  | [y0, y1, y2, y3, y4], _ => exact ⟨y0, y1, y2, y3, y4, n, by simp, hl, by simpa using hf 0 f0 rfl, by simpa using hf 1 f1 rfl, by simpa using hf 2 f2 rfl, by simpa using hf 3 f3 rfl, by simpa using hf 4 f4 rfl⟩
theorem array4' {α : Type} {cs : Array α} (h : cs.size = 4) : ∃ c0 c1 c2 c3, cs = #[c0, c1, c2, c3] := by
  obtain ⟨l⟩ := cs
  match l, h with
  | [c0, c1, c2, c3], _ => exact ⟨c0, c1, c2, c3, rfl⟩
theorem array5 {α : Type} {cs : Array α} (h : cs.size = 5) : ∃ c0 c1 c2 c3 c4, cs = #[c0, c1, c2, c3, c4] := by
  obtain ⟨l⟩ := cs
  match l, h with
  | [c0, c1, c2, c3, c4], _ => exact ⟨c0, c1, c2, c3, c4, rfl⟩
theorem bulk_agg5 {H : Type} (y0 y1 y2 y3 y4 : DataW H) : Rows.uptoBulk (.agg [y0, y1, y2, y3, y4]) = Rows.uptoBulk y0 + (Rows.uptoBulk y1 + (Rows.uptoBulk y2 + (Rows.uptoBulk y3 + (Rows.uptoBulk y4 + 0)))) + 1 := by
  simp [Rows.uptoBulk, Rows.uptoBulkAll]

set_option maxRecDepth 100000 in
theorem open_data {H : Type} {enc : TypeId × Value → H} {W : World} {r : Reach} {b0 : Nat} {v : Value} {d : DataW H} {p : List MemPlace}
    (hv : Value.okWide Tryd.prog W r b0 38 v) (h : DataW.Trod enc Tryd.prog W 0 (fun _ => true) true 38 v d p) :
    ∃ (X Y A1 A2 A3 : Option Addr) (xn xc yn yc n1 c1 n2 c2 n3 c3 : Nat) (dX dY d1 d2 d3 : DataW H) (pX pY p1 p2 p3 : List MemPlace), v = .agg #[.slice X xn xc, .slice Y yn yc, .slice A1 n1 c1, .slice A2 n2 c2, .slice A3 n3 c3] ∧
      d = .agg [dX, dY, d1, d2, d3] ∧
      DataW.Trod enc Tryd.prog W 0 (fun _ => true) true 34 (.slice X xn xc) dX pX ∧ DataW.Trod enc Tryd.prog W 0 (fun _ => true) true 35 (.slice Y yn yc) dY pY ∧
      DataW.Trod enc Tryd.prog W 0 (fun _ => true) true 36 (.slice A1 n1 c1) d1 p1 ∧ DataW.Trod enc Tryd.prog W 0 (fun _ => true) true 36 (.slice A2 n2 c2) d2 p2 ∧ DataW.Trod enc Tryd.prog W 0 (fun _ => true) true 36 (.slice A3 n3 c3) d3 p3 ∧
      Rows.uptoBulk d = Rows.uptoBulk dX + (Rows.uptoBulk dY + (Rows.uptoBulk d1 + (Rows.uptoBulk d2 + (Rows.uptoBulk d3 + 0)))) + 1 := by
  obtain ⟨cs, rfl, hsz⟩ := okWide_struct Tryd.underlying38 hv
  obtain ⟨c0, c1, c2, c3, c4, rfl⟩ := array5 (hsz.trans (by kernel_rfl))
  obtain ⟨fuel, hf⟩ := h
  obtain ⟨y0, y1, y2, y3, y4, n, hx, _, g0, g1, g2, g3, g4⟩ := trod_struct5 Tryd.underlying38 hf
  have g0' : DataW.trod enc Tryd.prog W 0 (fun _ => true) true n 34 [c0] = some y0 := g0
  have g1' : DataW.trod enc Tryd.prog W 0 (fun _ => true) true n 35 [c1] = some y1 := g1
  have g2' : DataW.trod enc Tryd.prog W 0 (fun _ => true) true n 36 [c2] = some y2 := g2
  have g3' : DataW.trod enc Tryd.prog W 0 (fun _ => true) true n 36 [c3] = some y3 := g3
  have g4' : DataW.trod enc Tryd.prog W 0 (fun _ => true) true n 36 [c4] = some y4 := g4
  obtain ⟨X, xn, xc, e0, t0⟩ := trod_slice_cell Tryd.underlying34 g0'
  obtain ⟨Y, yn, yc, e1, t1⟩ := trod_slice_cell Tryd.underlying35 g1'
  obtain ⟨A1, n1, k1, e2, t2⟩ := trod_slice_cell Tryd.underlying36 g2'
  obtain ⟨A2, n2, k2, e3, t3⟩ := trod_slice_cell Tryd.underlying36 g3'
  obtain ⟨A3, n3, k3, e4, t4⟩ := trod_slice_cell Tryd.underlying36 g4'
  simp only [List.cons.injEq, and_true] at e0 e1 e2 e3 e4
  subst e0 e1 e2 e3 e4
  simp only [Prod.mk.injEq] at hx
  obtain ⟨rfl, _⟩ := hx
  exact ⟨X, Y, A1, A2, A3, xn, xc, yn, yc, n1, k1, n2, k2, n3, k3, _, _, _, _, _, _, _, _, _, _, rfl, rfl, t0, t1, t2, t3, t4, bulk_agg5 _ _ _ _ _⟩
end Go.Proofs.YtgohinklnglgeaaDoor
