/- How arguments that came in are opened: a slice read as data is 'Rd' of a list. Over any program. -/
import Derived.Test.YtgohinklnglgeaaDoorPk1
import Derived.ProofKit
import Derived.OpenShut
import Derived.ShutString
import Derived.ChangeOld
import Derived.Below
import Derived.Deep.Slices
set_option linter.unusedVariables false
set_option linter.unusedSimpArgs false
namespace Go.Proofs.YtgohinklnglgeaaDoor
open Go.RowKit Go.Deep Go.ChangeShapes Go.WideShapes

section
variable {H : Type} {enc : TypeId × Value → H} {P : Program} {W : World}

theorem spot_of_cell {w : World} {a : Addr} {v : Value} (h : w.cell? a = some v) : a.spot = none := by
  unfold World.cell? at h
  split at h
  · split at h
    · cases h
    · rename_i h1; simpa using h1
  · cases h

theorem flatMap_len {α : Type} {encl : α → List Value} {size : Nat} : ∀ (L : List α), (∀ x ∈ L, (encl x).length = size) → (L.flatMap encl).length = L.length * size
  | [], _ => by simp
  | x :: L, h => by
    rw [List.flatMap_cons, List.length_append, flatMap_len L (fun y hy => h y (by simp [hy])), h x (by simp), List.length_cons, Nat.succ_mul]; omega
theorem flatMap_get {α : Type} {encl : α → List Value} {size : Nat} : ∀ (L : List α), (∀ x ∈ L, (encl x).length = size) → ∀ (i j : Nat) (x : α), L[i]? = some x → j < size → (L.flatMap encl)[i * size + j]? = (encl x)[j]?
  | [], _, i, j, x, h, _ => by simp at h
  | y :: L, hl, 0, j, x, h, hj => by
    simp at h; subst h
    rw [List.flatMap_cons, Nat.zero_mul, Nat.zero_add, List.getElem?_append_left (by rw [hl y (by simp)]; exact hj)]
  | y :: L, hl, i + 1, j, x, h, hj => by
    rw [List.flatMap_cons, List.getElem?_append_right (by rw [hl y (by simp), Nat.succ_mul]; omega), hl y (by simp),
      show (i + 1) * size + j - size = i * size + j by rw [Nat.succ_mul]; omega]
    exact flatMap_get L (fun z hz => hl z (by simp [hz])) i j x (by simpa using h) hj

/-- a slice that came in: a list of things, each read off its own cells -/
theorem rd_of_trod {α : Type} [Inhabited α] {t e : TypeId} {size : Nat} (ht : P.underlying t = some (.slice e)) (hc : P.cellsOf e = size) (hsz : 0 < size) (encl : α → List Value) (ok : DataW H → α → Prop)
    (helem : ∀ n cs x, cs.length = size → DataW.trod enc P W 0 (fun _ => true) true n e cs = some x → ∃ y, cs = encl y ∧ ok x.1 y)
    {A : Option Addr} {len cap : Nat} {d : DataW H} {p : List MemPlace} (h : DataW.Trod enc P W 0 (fun _ => true) true t (.slice A len cap) d p) :
    ∃ L : List α, L.length = len ∧ Rd W W.heap.size size A len (L.flatMap encl) ∧ len ≤ cap ∧ cap ≤ maxLen ∧
      ((d = .nil ∧ A = none ∧ len = 0 ∧ cap = 0 ∧ L = []) ∨ ∃ es sp, d = .slice es sp ∧ es.length = len ∧ es.length + sp.length = cap ∧ A.isSome = true ∧ ∀ (i : Nat) x, L[i]? = some x → ∃ y, es[i]? = some y ∧ ok y x) := by
  obtain ⟨fuel, hf⟩ := h
  have hf' : DataW.trod enc P W 0 (fun _ => true) true fuel t [.slice A len cap] = some (d, p) := by simpa [Value.cells] using hf
  rcases open_slice ht hf' with ⟨h1, h2⟩ | ⟨a, len', cap', m, n, D, Pl, h1, _, hl, hm, hmm, h2, hx⟩
  · simp at h1
    obtain ⟨rfl, rfl, rfl⟩ := h1
    obtain ⟨rfl, rfl⟩ := Prod.mk.inj h2
    exact ⟨[], rfl, Rd.zero _ _ _ _, by omega, by simp [maxLen], .inl ⟨rfl, rfl, rfl, rfl, rfl⟩⟩
  · simp at h1
    obtain ⟨rfl, rfl, rfl⟩ := h1
    obtain ⟨rfl, rfl⟩ := Prod.mk.inj h2
    simp only [if_true] at hmm
    subst hmm
    rw [hc] at hx
    obtain ⟨f, hfx⟩ := choose_lt (α := α) (p := fun i y => W.cells? 0 (a.add (i * size)) size = some (encl y) ∧ ok (D i) y) (fun i hi => by
      obtain ⟨cs', g1, g2⟩ := hx i hi
      obtain ⟨_, hlen, _⟩ := World.cells?_some g1
      obtain ⟨y, rfl, hy⟩ := helem n cs' _ hlen g2
      exact ⟨y, g1, hy⟩)
    have hsize : ∀ i, i < m → (encl (f i)).length = size := fun i hi => (World.cells?_some (hfx i hi).1).2.1
    have hall : ∀ x ∈ (List.range len).map f, (encl x).length = size := by
      intro x hx'
      obtain ⟨i, hi, rfl⟩ := List.mem_map.1 hx'
      exact hsize i (by have := List.mem_range.1 hi; omega)
    have hcell : ∀ j u, (((List.range len).map f).flatMap encl)[j]? = some u → W.cell? (a.add j) = some u := by
      intro j u hu
      have hj : j < len * size := by
        have := (List.getElem?_eq_some_iff.1 hu).1
        rwa [flatMap_len _ hall, List.length_map, List.length_range] at this
      have hq : j / size < len := Nat.div_lt_of_lt_mul (by rw [Nat.mul_comm]; exact hj)
      have hr : j % size < size := Nat.mod_lt _ hsz
      have he : j = (j / size) * size + j % size := by rw [Nat.mul_comm]; exact (Nat.div_add_mod j size).symm
      rw [he, flatMap_get _ hall (j / size) (j % size) (f (j / size)) (by simp [hq]) hr] at hu
      have h3 := (World.cells?_some (hfx (j / size) (by omega)).1).2.2 (j % size) hr
      rw [he, ← Addr.add_add, h3]
      exact hu
    refine ⟨(List.range len).map f, by simp, ⟨by rw [flatMap_len _ hall]; simp, fun hn => ⟨a, rfl, ?_, ?_, ?_, hcell⟩⟩, hl, hm, .inr ⟨_, _, rfl, by simp, by simp; omega, rfl, ?_⟩⟩
    all_goals first
      | (intro i x hix
         have hi : i < len := by have := (List.getElem?_eq_some_iff.1 hix).1; simpa using this
         simp [hi] at hix
         subst hix
         exact ⟨D i, by simp [hi], (hfx i (by omega)).2⟩)
      | (have h0 : 0 < (((List.range len).map f).flatMap encl).length := by rw [flatMap_len _ hall]; simp; exact Nat.mul_pos hn hsz
         have h1 := hcell 0 _ (List.getElem?_eq_getElem h0)
         have h2 := World.block_lt_of_cell? W _ h1
         have h3 := spot_of_cell h1
         simp only [Addr.add] at h2 h3
         first | exact h2 | exact h3)

theorem bvs_flat (l : List UInt8) : l.flatMap (fun b => [bv b]) = bvs l := by
  induction l with
  | nil => rfl
  | cons b l ih => simp [bvs] at ih ⊢; exact ih
theorem wf_u8 {n : Int} (h : (Lit.int .u8 n).wf = true) : ∃ b : UInt8, n = (b.toNat : Int) := by
  have hx : 0 ≤ n ∧ n ≤ 255 := by simpa [Lit.wf, IntKind.min, IntKind.max, IntKind.signed, IntKind.bits] using h
  refine ⟨UInt8.ofNat n.toNat, ?_⟩
  simp
  omega

/-- how long a slice that came in is, in bytes -/
def Fits (P : Program) (e : TypeId) (d : DataW H) (cap : Nat) : Prop := (d = .nil ∧ cap = 0) ∨ ∃ es sp, d = .slice es sp ∧ es.length + sp.length = cap
theorem Fits.reach {ts : List TypeId} {ds : List (DataW H)} {t e : TypeId} {d : DataW H} {cap : Nat} (hf : Fits P e d cap) (h : (DataW.weightsEach P ts ds).all (· ≤ reachBytes) = true) {j : Nat} (ht : ts[j]? = some t) (hd : ds[j]? = some d)
    (hu : P.underlying t = some (.slice e)) : cap * P.bytesOf e ≤ 140737488351232 := by
  rcases hf with ⟨_, rfl⟩ | ⟨es, sp, rfl, rfl⟩
  · omega
  · exact sized_slice h ht hd hu

theorem open_bytes {t e : TypeId} (ht : P.underlying t = some (.slice e)) (he : P.underlying e = some (.int .u8)) (hc : P.cellsOf e = 1) {A : Option Addr} {len cap : Nat} {d : DataW H} {p : List MemPlace}
    (h : DataW.Trod enc P W 0 (fun _ => true) true t (.slice A len cap) d p) : ∃ l : List UInt8, l.length = len ∧ Rd W W.heap.size 1 A len (bvs l) ∧ len ≤ cap ∧ cap ≤ maxLen ∧ Fits P e d cap := by
  obtain ⟨L, h1, h2, h3, h4, h5⟩ := rd_of_trod (α := UInt8) ht hc (by omega) (fun b => [bv b]) (fun _ _ => True) (by
    intro n cs x _ hx
    obtain ⟨k, rfl, rfl, hw⟩ := DataW.trod_int he hx
    obtain ⟨b, rfl⟩ := wf_u8 hw
    exact ⟨b, rfl, trivial⟩) h
  rw [bvs_flat] at h2
  refine ⟨L, h1, h2, h3, h4, ?_⟩
  rcases h5 with ⟨rfl, _, _, rfl, _⟩ | ⟨es, sp, rfl, _, h6, _⟩
  · exact .inl ⟨rfl, rfl⟩
  · exact .inr ⟨es, sp, rfl, h6⟩
theorem open_nums {k : IntKind} {t e : TypeId} (ht : P.underlying t = some (.slice e)) (he : P.underlying e = some (.int k)) (hc : P.cellsOf e = 1) {A : Option Addr} {len cap : Nat} {d : DataW H} {p : List MemPlace}
    (h : DataW.Trod enc P W 0 (fun _ => true) true t (.slice A len cap) d p) : ∃ l : List Int, l.length = len ∧ Rd W W.heap.size 1 A len (l.map (Value.int k)) ∧ len ≤ cap ∧ cap ≤ maxLen ∧ Fits P e d cap ∧ ∀ x ∈ l, (Lit.int k x).wf = true := by
  obtain ⟨L, h1, h2, h3, h4, h5⟩ := rd_of_trod (α := Int) ht hc (by omega) (fun b => [Value.int k b]) (fun _ b => (Lit.int k b).wf = true) (by
    intro n cs x _ hx
    obtain ⟨k, rfl, rfl, hw⟩ := DataW.trod_int he hx
    exact ⟨k, rfl, hw⟩) h
  have e : ∀ l : List Int, l.flatMap (fun b => [Value.int k b]) = l.map (Value.int k) := by
    intro l
    induction l with
    | nil => rfl
    | cons b l ih => simp at ih ⊢; exact ih
  rw [e] at h2
  refine ⟨L, h1, h2, h3, h4, ?_, ?_⟩
  · rcases h5 with ⟨rfl, _, _, rfl, _⟩ | ⟨es, sp, rfl, _, h6, _⟩
    · exact .inl ⟨rfl, rfl⟩
    · exact .inr ⟨es, sp, rfl, h6⟩
  · intro x hx
    rcases h5 with ⟨_, _, _, _, rfl⟩ | ⟨es, sp, rfl, _, h6, _, h7⟩
    · cases hx
    · obtain ⟨i, hi⟩ := List.mem_iff_getElem?.1 hx
      obtain ⟨_, _, h8⟩ := h7 i x hi
      exact h8

end
end Go.Proofs.YtgohinklnglgeaaDoor
