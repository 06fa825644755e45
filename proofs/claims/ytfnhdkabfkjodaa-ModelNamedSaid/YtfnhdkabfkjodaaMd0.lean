/- A model's data: words, merges; the two maps of chapter 5. -/
import Derived.Test.YtfnhdkabfkjodaaMap
import Derived.Test.YtfnhdkabfkjodaaCls
set_option linter.unusedVariables false
set_option linter.unusedSimpArgs false
namespace Go.Proofs.Ytfnhdkabfkjodaa
open Go.RowKit Go.Maps

/-! ### words -/
def wds (l : List ByteArray) : List Value := l.map Value.string
theorem wds_length (l : List ByteArray) : (wds l).length = l.length := by simp [wds]
theorem wds_one (l : List ByteArray) : ∀ u ∈ wds l, u.oneCell' = true := by
  intro u hu
  simp only [wds, List.mem_map] at hu
  obtain ⟨p, _, rfl⟩ := hu; rfl
theorem wds_get {l : List ByteArray} {i : Nat} {s : ByteArray} (h : l[i]? = some s) : (wds l)[i]? = some (.string s) := by simp [wds, h]
theorem Rd.wd {w : World} {B n : Nat} {A : Option Addr} {l : List ByteArray} (h : Rd w B 1 A n (wds l)) {i : Nat} {s : ByteArray} (hp : l[i]? = some s) : ∃ g o, A = some ⟨g, o, none⟩ ∧ i < n ∧ w.cell? ⟨g, o + i, none⟩ = some (.string s) := by
  have hl : i < l.length := (List.getElem?_eq_some_iff.1 hp).1
  have hn : l.length = n := by have := h.1; rw [wds_length] at this; omega
  obtain ⟨g, o, rfl, _, _, hc⟩ := h.addr (by omega)
  exact ⟨g, o, rfl, by omega, hc i _ (wds_get hp)⟩

/-! ### merges -/
structure Mg where
  l : Int
  r : Int
  id : Int
  deriving DecidableEq, Inhabited
def Mg.enc (m : Mg) : List Value := [.int .i64 m.l, .int .i64 m.r, .int .i64 m.id]
def mgs (l : List Mg) : List Value := l.flatMap Mg.enc
theorem mgs_length (l : List Mg) : (mgs l).length = l.length * 3 := by
  unfold mgs
  induction l with
  | nil => rfl
  | cons a l ih => rw [List.flatMap_cons, List.length_append, ih, List.length_cons]; simp [Mg.enc]; omega
theorem mgs_one (l : List Mg) : ∀ u ∈ mgs l, u.oneCell' = true := by
  intro u hu
  simp only [mgs, List.mem_flatMap] at hu
  obtain ⟨p, _, hp⟩ := hu
  simp [Mg.enc] at hp
  rcases hp with rfl | rfl | rfl <;> rfl
theorem flatMap_cell {α : Type} {enc : α → List Value} {size : Nat} : ∀ (l : List α), (∀ x ∈ l, (enc x).length = size) → ∀ (k : Nat) (x : α) (j : Nat), l[k]? = some x → j < size → (l.flatMap enc)[k * size + j]? = (enc x)[j]?
  | [], _, k, x, j, h, _ => by simp at h
  | a :: l, hs, 0, x, j, h, hj => by
    have : a = x := by simpa using h
    subst this
    rw [List.flatMap_cons, Nat.zero_mul, Nat.zero_add, List.getElem?_append_left (by rw [hs a (List.mem_cons_self ..)]; exact hj)]
  | a :: l, hs, k + 1, x, j, h, hj => by
    have h1 := hs a (List.mem_cons_self ..)
    rw [List.flatMap_cons, List.getElem?_append_right (by rw [h1, Nat.add_mul]; omega), h1, show (k + 1) * size + j - size = k * size + j by rw [Nat.add_mul]; omega]
    exact flatMap_cell l (fun x hx => hs x (List.mem_cons_of_mem _ hx)) k x j (by simpa using h) hj
theorem Rd.mg {w : World} {B n : Nat} {A : Option Addr} {l : List Mg} (h : Rd w B 3 A n (mgs l)) {i : Nat} {m : Mg} (hp : l[i]? = some m) :
    ∃ g o, A = some ⟨g, o, none⟩ ∧ i < n ∧ w.cell? ⟨g, o + i * 3, none⟩ = some (.int .i64 m.l) ∧ w.cell? ⟨g, o + i * 3 + 1, none⟩ = some (.int .i64 m.r) ∧ w.cell? ⟨g, o + i * 3 + 2, none⟩ = some (.int .i64 m.id) := by
  have hl : i < l.length := (List.getElem?_eq_some_iff.1 hp).1
  have hn : l.length = n := by have := h.1; rw [mgs_length] at this; omega
  obtain ⟨g, o, rfl, _, _, hc⟩ := h.addr (by omega)
  have key : ∀ j, j < 3 → (mgs l)[i * 3 + j]? = m.enc[j]? := fun j hj => flatMap_cell (enc := Mg.enc) (size := 3) l (fun _ _ => rfl) i m j hp hj
  refine ⟨g, o, rfl, by omega, ?_, ?_, ?_⟩
  · rw [show o + i * 3 = o + (i * 3 + 0) by omega]; exact hc _ _ (key 0 (by omega))
  · rw [show o + i * 3 + 1 = o + (i * 3 + 1) by omega]; exact hc _ _ (key 1 (by omega))
  · rw [show o + i * 3 + 2 = o + (i * 3 + 2) by omega]; exact hc _ _ (key 2 (by omega))
def i64ok (n : Int) : Prop := -9223372036854775808 ≤ n ∧ n ≤ 9223372036854775807
def Mg.ok (m : Mg) : Prop := i64ok m.l ∧ i64ok m.r ∧ i64ok m.id
theorem wf64 {n : Int} (h : i64ok n) : (Lit.int .i64 n).wf = true := by
  simpa [i64ok, Lit.wf, IntKind.min, IntKind.max, IntKind.signed, IntKind.bits] using h

/-! ### the two maps -/
def numR : Value → Option (DataW Unit × List MemPlace)
  | .int .i64 n => some (.lit (.int .i64 n), [])
  | _ => none
theorem numR_inv {v : Value} {b : Int} {ps : List MemPlace} (h : numR v = some (.lit (.int .i64 b), ps)) : v = .int .i64 b := by
  unfold numR at h
  split at h
  · simp only [Option.some.injEq, Prod.mk.injEq, DataW.lit.injEq, Lit.int.injEq] at h
    rw [h.1.2]
  · cases h
/-- words that were seen -/
noncomputable def seenTy : MapTy Try.prog ByteArray Int where
  t := 126
  kt := 9
  et := 3
  R := numR
  ok s := s.size ≤ maxLen
  key s := .string s
  kl s := .string s.data.toList
  val n := .int .i64 n
  vd n := .lit (.int .i64 n)
  zero := 0
  law := string_keyed (by kernel_rfl)
  under := by kernel_rfl
  hkey a h := by
    have hu : Try.prog.underlying 9 = some .string := by kernel_rfl
    simp [keyOf, mapKey, hu, h]
  hinj a b _ _ h := by injection h
  hR b := rfl
  hRi v b ps h := numR_inv h
  hz w := by kernel_rfl
def pairL : List Value → Option (DataW Unit × List MemPlace)
  | [.int .i64 a, .int .i64 b] => some (.agg [.lit (.int .i64 a), .lit (.int .i64 b)], [])
  | _ => none
def pairR : Value → Option (DataW Unit × List MemPlace)
  | .agg cs => pairL cs.toList
  | _ => none
theorem pairL_inv {cs : List Value} {a b : Int} {ps : List MemPlace} (h : pairL cs = some (.agg [.lit (.int .i64 a), .lit (.int .i64 b)], ps)) : cs = [.int .i64 a, .int .i64 b] := by
  unfold pairL at h
  split at h
  · simp only [Option.some.injEq, Prod.mk.injEq, DataW.agg.injEq, List.cons.injEq, DataW.lit.injEq, Lit.int.injEq] at h
    rw [h.1.1.2, h.1.2.1.2]
  · cases h
theorem pairR_inv {v : Value} {a b : Int} {ps : List MemPlace} (h : pairR v = some (.agg [.lit (.int .i64 a), .lit (.int .i64 b)], ps)) : v = .agg #[.int .i64 a, .int .i64 b] := by
  unfold pairR at h
  split at h
  · have := pairL_inv h
    congr 1
    exact Array.toList_inj.1 this
  · cases h
theorem pair_key (l r : Int) (hl : i64ok l) (hr : i64ok r) : ∃ kl, keyOf Try.prog 106 (.agg #[.int .i64 l, .int .i64 r]) = some kl := by
  have hu : Try.prog.underlying 106 = some (.array 2 3) := by kernel_rfl
  have hi : Try.prog.underlying 3 = some (.int .i64) := by kernel_rfl
  have hk : Try.prog.keyType 106 = true := by kernel_rfl
  have hc : Try.prog.cellsOf 106 = 2 := by kernel_rfl
  have hc1 : Try.prog.cellsOf 3 = 1 := by kernel_rfl
  have hs : decide (0 < Try.prog.types.size) = true := by kernel_rfl
  obtain ⟨n, hn⟩ : ∃ n, Try.prog.types.size = n + 1 := ⟨Try.prog.types.size - 1, by have := of_decide_eq_true hs; omega⟩
  have wl := wf64 hl
  have wr := wf64 hr
  apply Option.isSome_iff_exists.1
  unfold keyOf
  rw [hu]
  simp [hk, hn, Value.formed, hu, hc, Program.keyLits, hi, hc1, Value.cells, List.range, List.range.loop, wl, wr]
/-- two ids' merge -/
noncomputable def pairTy : MapTy Try.prog (Int × Int) (Nat × Int) where
  t := 98
  kt := 106
  et := 104
  R := pairR
  ok p := i64ok p.1 ∧ i64ok p.2
  key p := .agg #[.int .i64 p.1, .int .i64 p.2]
  kl p := (keyOf Try.prog 106 (.agg #[.int .i64 p.1, .int .i64 p.2])).getD (.bool true)
  val v := .agg #[.int .i64 (v.1 : Int), .int .i64 v.2]
  vd v := .agg [.lit (.int .i64 (v.1 : Int)), .lit (.int .i64 v.2)]
  zero := (0, 0)
  law := Keyed.of_law (deep_law_laid (by kernel_rfl) (m := 3) (by omega) (of_decide_eq_true (by kernel_rfl)) (by kernel_rfl) (by kernel_rfl))
  under := by kernel_rfl
  hkey a h := by
    obtain ⟨kl, e⟩ := pair_key a.1 a.2 h.1 h.2
    rw [e]; rfl
  hinj a b _ _ h := by
    injection h with h
    simp at h
    exact Prod.ext h.1 h.2
  hR b := rfl
  hRi v b ps h := pairR_inv h
  hz w := by kernel_rfl
end Go.Proofs.Ytfnhdkabfkjodaa
