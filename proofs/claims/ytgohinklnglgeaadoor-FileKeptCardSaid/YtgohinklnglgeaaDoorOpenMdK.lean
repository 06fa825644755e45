/- How []string and []api.Merge are opened. -/
import Derived.Test.YtgohinklnglgeaaDoorOpenSpK
import Derived.Test.YtgohinklnglgeaaDoorPk8
set_option linter.unusedVariables false
set_option linter.unusedSimpArgs false
namespace Go.Proofs.YtgohinklnglgeaaDoor
open Go.RowKit Go.Deep Go.ChangeShapes Go.WideShapes

theorem trod_struct3 {H : Type} {enc : TypeId × Value → H} {P : Program} {w : World} {base : Nat} {spare : Nat → Bool} {held : Bool} {t : TypeId} {f0 f1 f2 : Field} {fuel : Nat} {cs : List Value} {x : DataW H × List MemPlace} (ht : P.underlying t = some (.struct #[f0, f1, f2])) (h : DataW.trod enc P w base spare held fuel t cs = some x) :
    ∃ y0 y1 y2 n, cs.length = P.cellsOf t ∧ DataW.trod enc P w base spare held n f0.type ((cs.drop f0.offset).take (P.cellsOf f0.type)) = some y0 ∧
      DataW.trod enc P w base spare held n f1.type ((cs.drop f1.offset).take (P.cellsOf f1.type)) = some y1 ∧ DataW.trod enc P w base spare held n f2.type ((cs.drop f2.offset).take (P.cellsOf f2.type)) = some y2 := by
  obtain ⟨xs, n, _, rfl, hl, hlen, hf⟩ := DataW.trod_struct ht h
  match xs, hlen with
  | [y0, y1, y2], _ => exact ⟨y0, y1, y2, n, hl, by simpa using hf 0 f0 rfl, by simpa using hf 1 f1 rfl, by simpa using hf 2 f2 rfl⟩
theorem wf_i64' {n : Int} (h : (Lit.int .i64 n).wf = true) : i64ok n := by
  simpa [i64ok, Lit.wf, IntKind.min, IntKind.max, IntKind.signed, IntKind.bits] using h
theorem wds_flat (l : List ByteArray) : l.flatMap (fun s => [Value.string s]) = wds l := by
  unfold wds
  induction l with
  | nil => rfl
  | cons a l ih => rw [List.flatMap_cons, List.map_cons, ih]; rfl

set_option maxRecDepth 100000 in
theorem open_words {H : Type} {enc : TypeId × Value → H} {W : World} {A : Option Addr} {len cap : Nat} {d : DataW H} {p : List MemPlace}
    (h : DataW.Trod enc Tryd.prog W 0 (fun _ => true) true 34 (.slice A len cap) d p) :
    ∃ L : List ByteArray, L.length = len ∧ Rd W W.heap.size 1 A len (wds L) ∧ len ≤ cap ∧ cap ≤ maxLen ∧ cap + 1 ≤ Rows.uptoBulk d ∧ Fits Tryd.prog 9 d cap ∧ ∀ x ∈ L, x.size ≤ maxLen := by
  obtain ⟨L, h1, h2, h3, h4, h5⟩ := rd_of_trod (α := ByteArray) (P := Tryd.prog) (e := 9) (size := 1) Tryd.underlying34 (by kernel_rfl) (by omega) (fun s => [.string s]) (fun _ a => a.size ≤ maxLen) (by
    intro n cs x hl hx
    obtain ⟨s, rfl, _, hs⟩ := DataW.trod_string Tryd.underlying9 hx
    exact ⟨s, rfl, hs⟩) h
  rw [wds_flat] at h2
  refine ⟨L, h1, h2, h3, h4, ?_, ?_, ?_⟩
  · rcases h5 with ⟨rfl, _, _, rfl, _⟩ | ⟨es, sp, rfl, _, h6, _⟩
    · exact bulk_pos _
    · have := bulk_slice es sp; omega
  · rcases h5 with ⟨rfl, _, _, rfl, _⟩ | ⟨es, sp, rfl, _, h6, _⟩
    · exact .inl ⟨rfl, rfl⟩
    · exact .inr ⟨es, sp, rfl, h6⟩
  · intro a ha
    rcases h5 with ⟨_, _, _, _, rfl⟩ | ⟨es, sp, rfl, _, h6, _, h7⟩
    · cases ha
    · obtain ⟨i, hi⟩ := List.mem_iff_getElem?.1 ha
      obtain ⟨_, _, h8⟩ := h7 i a hi
      exact h8

set_option maxRecDepth 100000 in
theorem open_merges {H : Type} {enc : TypeId × Value → H} {W : World} {A : Option Addr} {len cap : Nat} {d : DataW H} {p : List MemPlace}
    (h : DataW.Trod enc Tryd.prog W 0 (fun _ => true) true 35 (.slice A len cap) d p) :
    ∃ L : List Mg, L.length = len ∧ Rd W W.heap.size 3 A len (mgs L) ∧ len ≤ cap ∧ cap ≤ maxLen ∧ cap + 1 ≤ Rows.uptoBulk d ∧ Fits Tryd.prog 75 d cap ∧ ∀ x ∈ L, x.ok := by
  obtain ⟨L, h1, h2, h3, h4, h5⟩ := rd_of_trod (α := Mg) (P := Tryd.prog) (e := 75) (size := 3) Tryd.underlying35 (by kernel_rfl) (by omega) Mg.enc (fun _ a => a.ok) (by
    intro n cs x hl hx
    obtain ⟨y0, y1, y2, m, _, g0, g1, g2⟩ := trod_struct3 Tryd.underlying75 hx
    obtain ⟨c0, c1, c2, rfl⟩ : ∃ c0 c1 c2, cs = [c0, c1, c2] := by
      match cs, hl with
      | [c0, c1, c2], _ => exact ⟨c0, c1, c2, rfl⟩
    have g0' : DataW.trod enc Tryd.prog W 0 (fun _ => true) true m 3 [c0] = some y0 := g0
    have g1' : DataW.trod enc Tryd.prog W 0 (fun _ => true) true m 3 [c1] = some y1 := g1
    have g2' : DataW.trod enc Tryd.prog W 0 (fun _ => true) true m 3 [c2] = some y2 := g2
    obtain ⟨k, hk, _, w0⟩ := DataW.trod_int Tryd.underlying3 g0'
    obtain ⟨k2, hk2, _, w2⟩ := DataW.trod_int Tryd.underlying3 g1'
    obtain ⟨k3, hk3, _, w3⟩ := DataW.trod_int Tryd.underlying3 g2'
    simp only [List.cons.injEq, and_true] at hk hk2 hk3
    subst hk hk2 hk3
    exact ⟨⟨k, k2, k3⟩, rfl, wf_i64' w0, wf_i64' w2, wf_i64' w3⟩) h
  refine ⟨L, h1, h2, h3, h4, ?_, ?_, ?_⟩
  · rcases h5 with ⟨rfl, _, _, rfl, _⟩ | ⟨es, sp, rfl, _, h6, _⟩
    · exact bulk_pos _
    · have := bulk_slice es sp; omega
  · rcases h5 with ⟨rfl, _, _, rfl, _⟩ | ⟨es, sp, rfl, _, h6, _⟩
    · exact .inl ⟨rfl, rfl⟩
    · exact .inr ⟨es, sp, rfl, h6⟩
  · intro a ha
    rcases h5 with ⟨_, _, _, _, rfl⟩ | ⟨es, sp, rfl, _, h6, _, h7⟩
    · cases ha
    · obtain ⟨i, hi⟩ := List.mem_iff_getElem?.1 ha
      obtain ⟨_, _, h8⟩ := h7 i a hi
      exact h8
end Go.Proofs.YtgohinklnglgeaaDoor
