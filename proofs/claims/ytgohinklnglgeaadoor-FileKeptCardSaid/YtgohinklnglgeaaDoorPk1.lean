/- Several texts in one: Words for memory, over any program: what a call leaves alone ('Only'), a block known whole ('Blk'), a slice that reads as a list ('Rd'), rows written over ('lay'). Plain lemmas; no program in sight.; append in the words of XWd: onto a row of the call's own, and onto a slice that must grow. Over any program.; 's[:hi]', as a rule for the walk; what a law cuts at a bound. -/
import Derived.WalkKit
import Derived.WalkSpells
import Derived.WalkLawsBesides
import Derived.Deep.QuietTactic
import Derived.BigQuiet
import Derived.Deep.LoopGhost
import Derived.Laws.CopyOwn
import Derived.Laws.AppendOwnNone
import Derived.Maps.AppendAt
import Derived.Deep.DeepCutAuto
import Derived.StillTailTactics
import Derived.Lib.Hide
import Derived.Laws.BytesArg
import Derived.Lib.ConvBytes
import Derived.Lib.AppendStr
import Derived.Outline
set_option linter.unusedVariables false
set_option linter.unusedSimpArgs false
namespace Go.Proofs.YtgohinklnglgeaaDoor
open Go.RowKit

/-! ### 'there is', closed to the walk's simp -/
def Ex {α : Sort _} (p : α → Prop) : Prop := ∃ x, p x
theorem Ex.of {α : Sort _} {p : α → Prop} (x : α) (h : p x) : Ex p := ⟨x, h⟩

/-! ### What a call leaves alone -/
/-- of the blocks that were there all but those of 'l' are as they were -/
structure Only (l : List Nat) (w w' : World) : Prop where
  os : w'.os = w.os
  tape : w'.tape = w.tape
  output : w'.output = w.output
  size : w.heap.size ≤ w'.heap.size
  block : ∀ k, k < w.heap.size → k ∉ l → w'.heap[k]? = w.heap[k]?

section
variable {l l' : List Nat} {a b c w w' : World}
theorem Only.refl (l : List Nat) (w : World) : Only l w w := ⟨rfl, rfl, rfl, Nat.le_refl _, fun _ _ _ => rfl⟩
theorem Only.trans' (h : Only l a b) (k : Only l' b c) (hl : ∀ x ∈ l', x ∈ l ∨ a.heap.size ≤ x) : Only l a c :=
  ⟨k.os.trans h.os, k.tape.trans h.tape, k.output.trans h.output, Nat.le_trans h.size k.size, fun i hi hn =>
    (k.block i (Nat.lt_of_lt_of_le hi h.size) (fun hm => by rcases hl i hm with h1 | h1; exact hn h1; omega)).trans (h.block i hi hn)⟩
theorem Only.trans (h : Only l a b) (k : Only l b c) : Only l a c := h.trans' k fun _ hx => .inl hx
theorem Only.trans0 (h : Only l a b) (k : Only [] b c) : Only l a c := h.trans' k (by simp)
theorem Only.mono (h : Only l a b) (hl : ∀ x ∈ l, x ∈ l' ∨ a.heap.size ≤ x) : Only l' a b := (Only.refl l' a).trans' h hl
theorem Only.drew (h : Only l a w) : Only l a w.drew := ⟨h.os, h.tape, h.output, h.size, h.block⟩
theorem Only.drewN (h : Only l a w) (n : Nat) : Only l a (w.drewN n) := ⟨h.os, h.tape, h.output, h.size, h.block⟩
theorem Only.alloc (h : Only l a w) (o : Obj) : Only l a (w.alloc o) :=
  h.trans0 ⟨rfl, rfl, rfl, by simp, fun k hk _ => Below.heap_alloc _ _ _ hk⟩
theorem Only.setCell (h : Only l a w) {p : Addr} (hp : p.block ∈ l ∨ a.heap.size ≤ p.block) (u : Value) : Only l a (w.setCell p u) :=
  h.trans' (l' := [p.block]) ⟨rfl, rfl, rfl, by simp [World.setCell], fun k _ hk => Below.heap_setCell _ _ _ _ (by simpa using hk)⟩ (by simpa using hp)
theorem Only.setRow (h : Only l a w) {g : Nat} (hp : g ∈ l ∨ a.heap.size ≤ g) (cs : Array Value) : Only l a (w.setRow g cs) :=
  h.trans' (l' := [g]) ⟨rfl, rfl, rfl, by simp [World.setRow], fun k _ hk => setRow_other w g k cs (by simpa using hk)⟩ (by simpa using hp)
theorem Only.grown (h : Only l a w) {row : Option Nat} (hg : w.grownBy w' row) (hr : ∀ k, row = some k → k ∈ l ∨ a.heap.size ≤ k) : Only l a w' :=
  h.trans' (l' := row.toList) ⟨hg.os, hg.tape, hg.output, hg.size, fun k hk hn => hg.block k hk (fun e => hn (by simp [← e]))⟩ (fun x hx => hr x (by simpa using hx))
theorem Only.of_below (h : Below w.heap.size w w') : Only [] w w' := ⟨h.os, h.tape, h.output, h.size, fun k hk _ => h.block k hk⟩
theorem Only.below (h : Only [] w w') : Below w.heap.size w w' := ⟨h.os, h.tape, h.output, h.size, fun k hk => h.block k hk (by simp)⟩
theorem Only.belowB (h : Only l w w') {B : Nat} (hB : B ≤ w.heap.size) (hl : ∀ x ∈ l, B ≤ x) : Below B w w' :=
  ⟨h.os, h.tape, h.output, h.size, fun k hk => h.block k (by omega) (fun hm => by have := hl k hm; omega)⟩
theorem Only.cell (h : Only l w w') {p : Addr} (hp : p.block < w.heap.size) (hn : p.block ∉ l) : w'.cell? p = w.cell? p := World.cell?_of_block (h.block _ hp hn)
theorem Only.cellv (h : Only l w w') {p : Addr} {v : Value} (hv : w.cell? p = some v) (hn : p.block ∉ l) : w'.cell? p = some v := (h.cell (World.block_lt_of_cell? w p hv) hn).trans hv
theorem Only.frozen (h : Only l w w') {p : Addr} (hp : p.block < w.heap.size) (hn : p.block ∉ l) : w'.frozen? p = w.frozen? p := World.frozen?_of_block (h.block _ hp hn)
end

/-! ### A block that is known whole -/
def Blk (w : World) (g : Nat) (t : TypeId) (cs : List Value) : Prop := w.heap[g]? = some (.cells cs.toArray t (0, 0))

section
variable {w w' : World} {g : Nat} {t : TypeId} {cs : List Value}
theorem Blk.lt (h : Blk w g t cs) : g < w.heap.size := (Array.getElem?_eq_some_iff.1 h).1
theorem Blk.cell (h : Blk w g t cs) (i : Nat) : w.cell? ⟨g, i, none⟩ = cs[i]? := by
  rw [cell_of_row w g i cs.toArray t (0, 0) h]; simp
theorem Blk.frozen (h : Blk w g t cs) (i : Nat) : w.frozen? ⟨g, i, none⟩ = false := frozen_of_row w g i cs.toArray t h
theorem Blk.new (w : World) (t : TypeId) (cs : List Value) : Blk (w.alloc (.cells cs.toArray t)) w.heap.size t cs := heap_alloc_new w _
theorem Blk.drew (h : Blk w g t cs) : Blk w.drew g t cs := h
theorem Blk.drewN (h : Blk w g t cs) (n : Nat) : Blk (w.drewN n) g t cs := h
theorem Blk.alloc (h : Blk w g t cs) (o : Obj) : Blk (w.alloc o) g t cs := (Below.heap_alloc w o g h.lt).trans h
theorem Blk.set (h : Blk w g t cs) (i : Nat) (u : Value) : Blk (w.setCell ⟨g, i, none⟩ u) g t (cs.set i u) := by
  unfold Blk at h ⊢
  simp [World.setCell, Array.getElem?_modify, h]
theorem Blk.far (h : Blk w g t cs) {p : Addr} (hp : g ≠ p.block) (u : Value) : Blk (w.setCell p u) g t cs := (Below.heap_setCell w p u g hp).trans h
theorem Blk.setRow (h : Blk w g t cs) (cs' : List Value) : Blk (w.setRow g cs'.toArray) g t cs' := setRow_heap w g _ _ t _ h
theorem Blk.setRow_far (h : Blk w g t cs) {g' : Nat} (hg : g ≠ g') (X : Array Value) : Blk (w.setRow g' X) g t cs := (setRow_other w g' g X hg).trans h
theorem Blk.only {l : List Nat} (h : Blk w g t cs) (hb : Only l w w') (hg : g ∉ l) : Blk w' g t cs := (hb.block g h.lt hg).trans h
theorem Blk.ne {g' : Nat} {t' : TypeId} {cs' : List Value} (h : Blk w g t cs) (h' : Blk w g' t' cs') (hne : t ≠ t') : g ≠ g' := by
  rintro rfl
  unfold Blk at h h'
  rw [h] at h'
  injection h' with h'
  injection h' with _ ht
  exact hne ht
theorem Blk.eq {t' : TypeId} {cs' : List Value} (h : Blk w g t cs) (h' : Blk w g t' cs') : cs = cs' := by
  unfold Blk at h h'
  rw [h] at h'
  injection h' with h'
  injection h' with h1 _
  simpa using congrArg Array.toList h1
end

theorem Blk.mk' {w : World} {g : Nat} {t : TypeId} {A : Array Value} {cs : List Value} (h : w.heap[g]? = some (.cells A t (0, 0))) (hA : A.toList = cs) : Blk w g t cs := by
  unfold Blk; rw [h, ← hA]
theorem Blk.new' (w : World) (t : TypeId) (A : Array Value) {g : Nat} (hg : w.heap.size = g) {cs : List Value} (hA : A.toList = cs) : Blk (w.alloc (.cells A t)) g t cs := by
  subst hg; exact Blk.mk' (heap_alloc_new w _) hA
theorem ret_int {k : IntKind} {a b : Int} (h : a = b) : Ending.returned (.int k a) = .returned (.int k b) := by rw [h]
theorem ret_bool {a b : Bool} (h : a = b) : Ending.returned (.bool a) = .returned (.bool b) := by rw [h]

/-- the world under a name of its own: 'refine name_it (p := fun y => Exit.then _ _ _ _ y) ?_; intro w1 H1' -/
theorem name_it {α : Sort _} {p : α → Prop} {x : α} (h : ∀ y, Hid (y = x) → p y) : p x := h x rfl

/-! ### A slice that reads as a list of cells ('size' cells an element); its block is not among 'l' and lies below B -/
theorem add_block (a : Addr) (n : Nat) : (a.add n).block = a.block := by unfold Addr.add; split <;> rfl
theorem add_add (a : Addr) (i j : Nat) : (a.add i).add j = a.add (i + j) := by
  unfold Addr.add
  by_cases hi : i = 0 <;> by_cases hj : j = 0 <;> simp [hi, hj, Nat.add_assoc]
theorem add_lit (g o j : Nat) : (⟨g, o, none⟩ : Addr).add j = ⟨g, o + j, none⟩ := by unfold Addr.add; split <;> simp_all

def Rd (w : World) (B size : Nat) (A : Option Addr) (n : Nat) (xs : List Value) : Prop :=
  xs.length = n * size ∧ (0 < n → ∃ ad, A = some ad ∧ ad.block < B ∧ ad.block < w.heap.size ∧ ad.spot = none ∧ ∀ j u, xs[j]? = some u → w.cell? (ad.add j) = some u)

section
variable {w w' : World} {B B' size n : Nat} {A : Option Addr} {xs : List Value}
theorem Rd.zero (w : World) (B size : Nat) (A : Option Addr) : Rd w B size A 0 [] := ⟨by simp, fun h => absurd h (by omega)⟩
theorem Rd.at1 {k : Nat} (h : Rd w B 1 A n xs) (hk : k < n) : ∃ g o u, A = some ⟨g, o, none⟩ ∧ g < B ∧ xs[k]? = some u ∧ w.cell? ⟨g, o + k, none⟩ = some u := by
  obtain ⟨ad, e, hb, _, hs, hc⟩ := h.2 (by omega)
  have hl : k < xs.length := by have := h.1; omega
  obtain ⟨g, o, s⟩ := ad
  obtain rfl : s = none := hs
  exact ⟨g, o, xs[k], e, hb, List.getElem?_eq_getElem hl, by rw [← add_lit]; exact hc k _ (List.getElem?_eq_getElem hl)⟩
theorem Rd.addr (h : Rd w B size A n xs) (hn : 0 < n) : ∃ g o, A = some ⟨g, o, none⟩ ∧ g < B ∧ g < w.heap.size ∧ ∀ j u, xs[j]? = some u → w.cell? ⟨g, o + j, none⟩ = some u := by
  obtain ⟨ad, e, hb, hw, hs, hc⟩ := h.2 hn
  obtain ⟨g, o, s⟩ := ad
  obtain rfl : s = none := hs
  exact ⟨g, o, e, hb, hw, fun j u hu => by rw [← add_lit]; exact hc j u hu⟩
theorem Rd.keep (h : Rd w B size A n xs) (hs : w.heap.size ≤ w'.heap.size) (hk : ∀ p : Addr, p.block < B → p.block < w.heap.size → w'.cell? p = w.cell? p) : Rd w' B size A n xs :=
  ⟨h.1, fun hn => by
    obtain ⟨ad, e, hb, hw, hsp, hc⟩ := h.2 hn
    exact ⟨ad, e, hb, by omega, hsp, fun j u hu => (hk _ (by rw [add_block]; exact hb) (by rw [add_block]; exact hw)).trans (hc j u hu)⟩⟩
theorem Rd.more (h : Rd w B size A n xs) (hB : B ≤ B') : Rd w B' size A n xs :=
  ⟨h.1, fun hn => by
    obtain ⟨ad, e, hb, r⟩ := h.2 hn
    exact ⟨ad, e, by omega, r⟩⟩
theorem Rd.only {l : List Nat} (h : Rd w B size A n xs) (hb : Only l w w') (hl : ∀ x ∈ l, B ≤ x) : Rd w' B size A n xs :=
  h.keep hb.size fun p hp hw => hb.cell hw (fun hm => by have := hl _ hm; omega)
/-- the slice's own block is none of those that were written -/
theorem Rd.only' {l : List Nat} (h : Rd w B size A n xs) (hb : Only l w w') (hl : ∀ ad, A = some ad → 0 < n → ad.block ∉ l) : Rd w' B size A n xs :=
  ⟨h.1, fun hn => by
    obtain ⟨ad, e, hB, hw, hsp, hc⟩ := h.2 hn
    exact ⟨ad, e, hB, by have := hb.size; omega, hsp, fun j u hu => (hb.cell (by rw [add_block]; exact hw) (by rw [add_block]; exact hl ad e hn)).trans (hc j u hu)⟩⟩
theorem Rd.drew (h : Rd w B size A n xs) : Rd w.drew B size A n xs := h
theorem Rd.drewN (h : Rd w B size A n xs) (k : Nat) : Rd (w.drewN k) B size A n xs := h
theorem Rd.alloc (h : Rd w B size A n xs) (o : Obj) : Rd (w.alloc o) B size A n xs := h.keep (by simp) fun p _ hw => World.cell?_alloc_lt w o p hw
theorem Rd.setCell (h : Rd w B size A n xs) {p : Addr} (hB : B ≤ p.block) (u : Value) : Rd (w.setCell p u) B size A n xs :=
  h.keep (by simp [World.setCell]) fun q hq _ => World.cell?_setCell_other w p q u (fun e => by subst e; omega)
/-- a cut 's[k:]', as the walk writes its address -/
theorem Rd.cut (h : Rd w B size A n xs) {k cap : Nat} (hk : k ≤ n) (hc : n ≤ cap) :
    Rd w B size (if cap = k then A else A.map (·.add (k * size))) (n - k) (xs.drop (k * size)) := by
  refine ⟨by rw [List.length_drop, h.1, Nat.sub_mul], fun hn => ?_⟩
  obtain ⟨ad, rfl, hb, hw, hs, hcell⟩ := h.2 (by omega)
  rw [if_neg (by omega)]
  refine ⟨ad.add (k * size), rfl, by rw [add_block]; exact hb, by rw [add_block]; exact hw, by unfold Addr.add; split <;> simp_all, fun j u hu => ?_⟩
  rw [add_add]
  exact hcell _ u (by rw [← hu, List.getElem?_drop])
theorem Rd.take (h : Rd w B size A n xs) {k : Nat} (hk : k ≤ n) : Rd w B size A k (xs.take (k * size)) := by
  have hl : k * size ≤ n * size := Nat.mul_le_mul_right _ hk
  refine ⟨by rw [List.length_take, h.1]; omega, fun hn => ?_⟩
  obtain ⟨ad, e, hb, hw, hs, hc⟩ := h.2 (by omega)
  refine ⟨ad, e, hb, hw, hs, fun j u hu => hc j u ?_⟩
  rw [List.getElem?_take] at hu
  split at hu
  · exact hu
  · cases hu
/-- 's[k:k+m]' -/
theorem Rd.sub (h : Rd w B size A n xs) {k m : Nat} (hk : k + m ≤ n) : Rd w B size (A.map (·.add (k * size))) m ((xs.drop (k * size)).take (m * size)) := by
  have hl : (k + m) * size ≤ n * size := Nat.mul_le_mul_right _ hk
  rw [Nat.add_mul] at hl
  refine ⟨by rw [List.length_take, List.length_drop, h.1]; omega, fun hm => ?_⟩
  obtain ⟨ad, rfl, hb, hw, hs, hcell⟩ := h.2 (by omega)
  refine ⟨ad.add (k * size), rfl, by rw [add_block]; exact hb, by rw [add_block]; exact hw, by unfold Addr.add; split <;> simp_all, fun j u hu => ?_⟩
  rw [add_add]
  rw [List.getElem?_take] at hu
  split at hu
  · exact hcell _ u (by rw [← hu, List.getElem?_drop])
  · cases hu
/-- a part of a block that is known whole -/
theorem Rd.of_blk {g o : Nat} {t : TypeId} {cs : List Value} (h : Blk w g t cs) (hgB : g < B) (hl : o + n * size ≤ cs.length) : Rd w B size (some ⟨g, o, none⟩) n ((cs.drop o).take (n * size)) := by
  refine ⟨by rw [List.length_take, List.length_drop]; omega, fun _ => ⟨_, rfl, hgB, h.lt, rfl, fun j u hu => ?_⟩⟩
  rw [add_lit, h.cell]
  rw [List.getElem?_take] at hu
  split at hu
  · rw [← hu, List.getElem?_drop]
  · cases hu
theorem Rd.of_own {base : Nat} {e : TypeId} {c : Nat} (h : w.ownsRow base e size (.slice A n c) n xs) : Rd w w.heap.size size A n xs := by
  refine ⟨h.1, fun hn => ?_⟩
  rcases h.2 with ⟨_, h0⟩ | ⟨g, cap, cur, hv, _, hg, _⟩
  · omega
  · have hA : A = some ⟨g, 0, none⟩ := by injection hv
    subst hA
    have hlt := (Array.getElem?_eq_some_iff.1 hg).1
    exact ⟨_, rfl, hlt, hlt, rfl, h.cells (g := g) rfl⟩
end

/-- 's[k]': the address, as a rule for the walk, and the cells there -/
theorem Rd.index {P : Program} {w : World} {B size n : Nat} {A : Option Addr} {xs : List Value} (h : Rd w B size A n xs) {t e : TypeId} (ht : P.underlying t = some (.slice e)) (hsz : (P.info? e).map (·.size) = some size) {k : Nat} (hk : k < n) :
    ∃ g o, g < B ∧ g < w.heap.size ∧ (∀ (c : Nat) (q : IntKind) (W : World), (Instr.indexAt t (.slice A n c) (.int q (k : Int))).run P W = .ok (.pointer (some ⟨g, o, none⟩)) W) ∧ ∀ j, j < size → w.cell? ⟨g, o + j, none⟩ = xs[k * size + j]? := by
  obtain ⟨g, o, rfl, hb, hw, hc⟩ := h.addr (by omega)
  refine ⟨g, o + k * size, hb, hw, fun c q W => ?_, fun j hj => ?_⟩
  · cases hi : P.info? e with
    | none => simp [hi] at hsz
    | some i =>
      have hs : i.size = size := by simpa [hi] using hsz
      have hk' : (0 : Int) ≤ (k : Int) ∧ (k : Int) < (n : Int) := by omega
      simp [Instr.indexAt, run_underlying ht, asIntOf, sizeOf, typeInfo, hi, hs, hk, add_lit]
  · have hlt : k * size + j < xs.length := by
      rw [h.1]
      calc k * size + j < k * size + size := by omega
        _ = (k + 1) * size := by rw [Nat.succ_mul]
        _ ≤ n * size := Nat.mul_le_mul_right _ hk
    rw [List.getElem?_eq_getElem hlt, Nat.add_assoc]
    exact hc _ _ (List.getElem?_eq_getElem hlt)
theorem Rd.index1 {P : Program} {w : World} {B n : Nat} {A : Option Addr} {xs : List Value} (h : Rd w B 1 A n xs) {t e : TypeId} (ht : P.underlying t = some (.slice e)) (hsz : (P.info? e).map (·.size) = some 1) {k : Nat} (hk : k < n) :
    ∃ g o, g < B ∧ g < w.heap.size ∧ (∀ (c : Nat) (q : IntKind) (W : World), (Instr.indexAt t (.slice A n c) (.int q (k : Int))).run P W = .ok (.pointer (some ⟨g, o, none⟩)) W) ∧ w.cell? ⟨g, o, none⟩ = xs[k]? := by
  obtain ⟨g, o, h1, h2, h3, h4⟩ := h.index ht hsz hk
  exact ⟨g, o, h1, h2, h3, by simpa using h4 0 (by omega)⟩

/-- 's[lo:hi]', as a rule for the walk: the address stays behind a name -/
theorem Rd.slice_lh {P : Program} {w : World} {B size n : Nat} {A : Option Addr} {xs : List Value} (h : Rd w B size A n xs) {t e : TypeId} (ht : P.underlying t = some (.slice e)) (hsz : (P.info? e).map (·.size) = some size) {k m c : Nat} {lo hi : Int} (hlo : lo = (k : Int)) (hhi : hi = ((k + m : Nat) : Int)) (hk : k + m ≤ n) (hc : n ≤ c) :
    ∃ A', (∀ (q r : IntKind) (W : World), (Instr.slice t (.slice A n c) (some (.int q lo)) (some (.int r hi)) none).run P W = .ok (.slice A' m (c - k)) W) ∧ Rd w B size A' m ((xs.drop (k * size)).take (m * size)) := by
  subst hlo hhi
  cases hi : P.info? e with
  | none => simp [hi] at hsz
  | some i =>
    have hs : i.size = size := by simpa [hi] using hsz
    refine ⟨if c = k then A else A.map (·.add (k * size)), fun q r W => ?_, ?_⟩
    · have e1 : ((k : Int) + (m : Int)).toNat = k + m := by omega
      have h2 := fun W => run_sliceBound (P := P) W q (k : Int) (k + m) .sliceB (by omega) (by omega)
      simp [Instr.slice, run_underlying ht, Instr.sliceBounds, run_sliceBound, sizeOf, typeInfo, hi, hs, (by omega : (0 : Int) ≤ ((k : Int) + (m : Int))), (by omega : (k : Int) + (m : Int) ≤ (c : Int)), e1, h2]
    · by_cases h0 : m = 0
      · subst h0
        simp only [Nat.zero_mul, List.take_zero]
        exact Rd.zero _ _ _ _
      · rw [if_neg (by omega)]
        exact h.sub hk
theorem Rd.slice_l {P : Program} {w : World} {B size n : Nat} {A : Option Addr} {xs : List Value} (h : Rd w B size A n xs) {t e : TypeId} (ht : P.underlying t = some (.slice e)) (hsz : (P.info? e).map (·.size) = some size) {k c : Nat} {lo : Int} (hlo : lo = (k : Int)) (hk : k ≤ n) (hc : n ≤ c) :
    ∃ A', (∀ (q : IntKind) (W : World), (Instr.slice t (.slice A n c) (some (.int q lo)) none none).run P W = .ok (.slice A' (n - k) (c - k)) W) ∧ Rd w B size A' (n - k) (xs.drop (k * size)) := by
  subst hlo
  cases hi : P.info? e with
  | none => simp [hi] at hsz
  | some i =>
    have hs : i.size = size := by simpa [hi] using hsz
    refine ⟨if c = k then A else A.map (·.add (k * size)), fun q W => ?_, h.cut hk hc⟩
    simp [Instr.slice, run_underlying ht, Instr.sliceBounds, run_sliceBound, sizeOf, typeInfo, hi, hs, hk]

/-! ### cells laid over a list -/
def lay {α : Type} (L : List α) (off : Nat) (cs : List α) : List α := L.take off ++ cs ++ L.drop (off + cs.length)
theorem length_lay {α : Type} (L : List α) (off : Nat) (cs : List α) (h : off + cs.length ≤ L.length) : (lay L off cs).length = L.length := by simp [lay]; omega
theorem lay_nil {α : Type} (L : List α) (off : Nat) : lay L off [] = L := by simp [lay]
theorem getElem?_lay {α : Type} (L : List α) (off : Nat) (cs : List α) (h : off + cs.length ≤ L.length) (j : Nat) :
    (lay L off cs)[j]? = if off ≤ j ∧ j < off + cs.length then cs[j - off]? else L[j]? := by
  unfold lay
  have hm : min off L.length = off := by omega
  simp only [List.append_assoc, List.getElem?_append, List.length_take, hm, List.getElem?_take, List.getElem?_drop]
  by_cases h1 : j < off
  · rw [if_pos h1, if_pos h1, if_neg (by omega)]
  · rw [if_neg h1]
    by_cases h2 : j - off < cs.length
    · rw [if_pos h2, if_pos (by omega)]
    · rw [if_neg h2, if_neg (by omega)]
      congr 1; omega
theorem map_lay {α β : Type} (f : α → β) (L : List α) (off : Nat) (cs : List α) : (lay L off cs).map f = lay (L.map f) off (cs.map f) := by simp [lay]

/-! ### bytes as cells -/
def bv (b : UInt8) : Value := .int .u8 (b.toNat : Int)
def bvs (l : List UInt8) : List Value := l.map bv
theorem bvs_length (l : List UInt8) : (bvs l).length = l.length := by simp [bvs]
theorem bvs_get {l : List UInt8} {k : Nat} (h : k < l.length) : (bvs l)[k]? = some (.int .u8 ((l[k]).toNat : Int)) := by simp [bvs, bv, h]
theorem bvs_get? (l : List UInt8) (k : Nat) : (bvs l)[k]? = (l[k]?).map bv := by simp [bvs]
theorem bvs_drop (l : List UInt8) (k : Nat) : (bvs l).drop k = bvs (l.drop k) := by simp [bvs]
theorem bvs_take (l : List UInt8) (k : Nat) : (bvs l).take k = bvs (l.take k) := by simp [bvs]
theorem bvs_append (l m : List UInt8) : bvs l ++ bvs m = bvs (l ++ m) := by simp [bvs]
theorem bvs_lay (l m : List UInt8) (o : Nat) : lay (bvs l) o (bvs m) = bvs (lay l o m) := by simp [bvs, map_lay]
theorem bvs_one (l : List UInt8) : ∀ v ∈ bvs l, v.oneCell' = true := by
  intro v hv
  obtain ⟨b, _, rfl⟩ := List.mem_map.1 hv
  rfl
theorem bv_inj {a b : UInt8} (h : bv a = bv b) : a = b := by
  unfold bv at h
  injection h with _ h
  exact UInt8.toNat_inj.1 (by omega)
theorem bvs_inj {l m : List UInt8} (h : bvs l = bvs m) : l = m := by
  unfold bvs at h
  exact List.map_inj_right (fun _ _ => bv_inj) |>.1 h
theorem bvs_replicate (n : Nat) (b : UInt8) : bvs (List.replicate n b) = List.replicate n (bv b) := by simp [bvs]
theorem byte_lt (b : UInt8) : (b.toNat : Int) < 256 := by have := b.toNat_lt; omega

/-! ### copy, wherever it stands: the row behind it is 'lay' -/
theorem run_copy_lay {P : Program} (w : World) (dT sT ty elem : TypeId) (hu : P.underlying dT = some (.slice elem)) (hsz : (P.info? elem).map (·.size) = some 1)
    (dp sp : Option Addr) (dLen dCap sLen sCap : Nat) (g off : Nat) (cur : List Value) (t : TypeId) (hg : Blk w g t cur) (k : Nat) (cs : List Value) (hk : k = min sLen dLen)
    (hd : 0 < k → dp = some ⟨g, off, none⟩) (B : Nat) (hs : Rd w B 1 sp k cs) (hfit : off + k ≤ cur.length) (h1 : ∀ v ∈ cs, v.oneCell' = true) :
    (Builtin.copy_ #[dT, sT] ty #[.slice dp dLen dCap, .slice sp sLen sCap]).run P w = .ok (.int .i64 (k : Int)) (w.setRow g (lay cur off cs).toArray) := by
  have hn : cs.length = k := by have := hs.1; omega
  by_cases h0 : k = 0
  · subst h0
    obtain rfl : cs = [] := List.eq_nil_of_length_eq_zero hn
    rw [lay_nil, setRow_self w g cur.toArray t (0, 0) hg]
    exact run_copy_none w dT sT ty elem dp sp dLen dCap sLen sCap hu hsz (show min sLen dLen = 0 by omega)
  · obtain rfl := hd (by omega)
    obtain ⟨ad, rfl, _, _, _, hc⟩ := hs.2 (by omega)
    have h := run_copy_row (P := P) w dT sT ty elem g off dLen dCap ad sLen sCap cur.toArray t cs hu hsz hg (show cs.length = min sLen dLen by omega) hc (by simp; omega) h1
    rw [h, hn]
    simp [lay, hn]
    rfl
theorem wp_copy_lay {P : Program} {w : World} {o : Oper} {a : Act} {K : Act → World → Prop} {Q : Exit → Act → World → Prop} (d s : Operand) (dT sT : TypeId)
    (ho : o.op = .call { callee := .builtin .copy, args := #[d, s], argTypes := #[dT, sT] }) (elem : TypeId) (hu : P.underlying dT = some (.slice elem)) (hsz : (P.info? elem).map (·.size) = some 1)
    (dp sp : Option Addr) (dLen dCap sLen sCap : Nat) (hd : a.eval d = .slice dp dLen dCap) (hs : a.eval s = .slice sp sLen sCap)
    (g off : Nat) (cur : List Value) (t : TypeId) (hg : Blk w g t cur) (k : Nat) (cs : List Value) (hk : k = min sLen dLen)
    (hdp : 0 < k → dp = some ⟨g, off, none⟩) (B : Nat) (hsp : Rd w B 1 sp k cs) (hfit : off + k ≤ cur.length) (h1 : ∀ v ∈ cs, v.oneCell' = true)
    (h : K (a.put o.dst (.int .i64 (k : Int))) (w.setRow g (lay cur off cs).toArray)) : o.wp P a w K Q := by
  have hrun := run_copy_lay (P := P) w dT sT o.type elem hu hsz dp sp dLen dCap sLen sCap g off cur t hg k cs hk hdp B hsp hfit h1
  unfold Oper.wp
  simp only [execOp, ho, resolve, invoke, builtin, Sem.run_bind, Sem.run_pure, Result.andThen_ok, List.map_toArray, List.map_cons, List.map_nil, hd, hs, hrun]
  exact h
theorem wpList_copy_lay {P : Program} {w : World} {ops : Array Oper} {rest : List Oper} {o : Oper} {a : Act} {Q : Exit → Act → World → Prop} (hgd : o.guard = none) (d s : Operand) (dT sT : TypeId)
    (ho : o.op = .call { callee := .builtin .copy, args := #[d, s], argTypes := #[dT, sT] }) (elem : TypeId) (hu : P.underlying dT = some (.slice elem)) (hsz : (P.info? elem).map (·.size) = some 1)
    (dp sp : Option Addr) (dLen dCap sLen sCap : Nat) (hd : a.eval d = .slice dp dLen dCap) (hs : a.eval s = .slice sp sLen sCap)
    (g off : Nat) (cur : List Value) (t : TypeId) (hg : Blk w g t cur) (k : Nat) (cs : List Value) (hk : k = min sLen dLen)
    (hdp : 0 < k → dp = some ⟨g, off, none⟩) (B : Nat) (hsp : Rd w B 1 sp k cs) (hfit : off + k ≤ cur.length) (h1 : ∀ v ∈ cs, v.oneCell' = true)
    (h : ∀ w', Hid (w' = w.setRow g (lay cur off cs).toArray) → wpList P ops Q rest (a.put o.dst (.int .i64 (k : Int))) w') : wpList P ops Q (o :: rest) a w :=
  wpList_plain hgd fun _ hK => wp_copy_lay d s dT sT ho elem hu hsz dp sp dLen dCap sLen sCap hd hs g off cur t hg k cs hk hdp B hsp hfit h1 (hK _ _ (h _ rfl))

/-! ### whole rows by value -/
theorem run_loadAt_blk {P : Program} {w : World} {g : Nat} {t ty : TypeId} {cs : List Value} (h : Blk w g t cs) {d : TypeDesc} (hu : P.underlying ty = some d) (hd : (match d with | .struct _ | .array _ _ => true | _ => false) = true)
    (hi : (P.info? ty).map (·.size) = some cs.length) : (Instr.loadAt ty (.pointer (some ⟨g, 0, none⟩))).run P w = .ok (.agg cs.toArray) w := by
  simp only [Instr.loadAt, Instr.sureAddr, Sem.run_bind, Sem.run_pure, Result.andThen_ok, run_loadVar_row (P := P) w g t ty cs.toArray (0, 0) d h hu hd (by simpa using hi)]
theorem run_storeAt_blk {P : Program} {w : World} {g : Nat} {t ty : TypeId} {old cs : List Value} (h : Blk w g t old) (hl : old.length = cs.length) (hi : (P.info? ty).map (·.size) = some cs.length) (h1 : ∀ v ∈ cs, v.oneCell' = true) :
    (Instr.storeAt ty (.pointer (some ⟨g, 0, none⟩)) (.agg cs.toArray)).run P w = .ok () (w.setRow g cs.toArray) := by
  simp only [Instr.storeAt, Instr.sureAddr, Sem.run_bind, Sem.run_pure, Result.andThen_ok, run_storeVar_row (P := P) w g t ty old.toArray cs.toArray h (by simpa using hi) (by simpa using hl) (by simpa using h1)]

/-! ### string(bytes) -/
def str (l : List UInt8) : ByteArray := ⟨l.toArray⟩
@[go_sem] theorem str_toList (l : List UInt8) : (str l).toList = l := ByteArray.toList_mk l
theorem str_data (l : List UInt8) : (str l).data.toList = l := by simp [str]
theorem str_size (l : List UInt8) : (str l).size = l.length := by simp [str, ByteArray.size]
theorem str_of (s : ByteArray) : str s.data.toList = s := by simp [str]
theorem run_string_rd {P : Program} {w : World} (src dst e : TypeId) (hs : P.underlying src = some (.slice e)) (he : P.underlying e = some (.int .u8)) (hd : P.underlying dst = some .string)
    {B n : Nat} {A : Option Addr} (c : Nat) {l : List UInt8} (h : Rd w B 1 A n (bvs l)) : (convert src dst (.slice A n c)).run P w = .ok (.string (str l)) w := by
  have hn : l.length = n := by have := h.1; rw [bvs_length] at this; omega
  have e1 : l.map (fun b => UInt8.ofNat ((b.toNat : Int)).toNat) = l := by
    conv => rhs; rw [← List.map_id l]
    apply List.map_congr_left
    intro b _
    simp
  cases A with
  | none =>
    have h0 : n = 0 := by
      rcases Nat.eq_zero_or_pos n with h0 | h0
      · exact h0
      · obtain ⟨ad, e, _⟩ := h.2 h0
        cases e
    obtain rfl : l = [] := List.eq_nil_of_length_eq_zero (by omega)
    rw [run_convert_bytes_nil w src e hs he n c dst hd]
    rfl
  | some ad =>
    have hc : ∀ j u, (bvs l)[j]? = some u → w.cell? (ad.add j) = some u := by
      intro j u hu
      have hj : j < n := by rw [← hn]; have := (List.getElem?_eq_some_iff.1 hu).1; rwa [bvs_length] at this
      obtain ⟨ad', e, _, _, _, hc⟩ := h.2 (by omega)
      injection e with e
      subst e
      exact hc j u hu
    have hl : (loadCells ad n).run P w = .ok ((l.map fun b => (b.toNat : Int)).map (Value.int .u8)).toArray w := by
      have := run_loadCells_list (P := P) w ad (bvs l) hc
      rw [bvs_length, hn] at this
      rw [this, List.map_map]; rfl
    rw [run_convert_bytes_string w src dst e _ n c hs he hd, run_bytesToString w ad n c _ hl, foldl_push_bytes, List.map_map]
    simp only [Function.comp_def]
    rw [e1]
    simp [str, ByteArray.empty, ByteArray.emptyWithCapacity]
    rfl

theorem Rd.whole {w : World} {g size n : Nat} {t : TypeId} {cs : List Value} (h : Blk w g t cs) (hl : cs.length = n * size) : Rd w (g + 1) size (some ⟨g, 0, none⟩) n cs := by
  have hh := Rd.of_blk (B := g + 1) (o := 0) (n := n) (size := size) h (by omega) (by omega)
  rwa [List.drop_zero, List.take_of_length_le (by omega)] at hh
theorem run_string_blk {P : Program} {w : World} (src dst e : TypeId) (hs : P.underlying src = some (.slice e)) (he : P.underlying e = some (.int .u8)) (hd : P.underlying dst = some .string)
    {g n : Nat} {t : TypeId} (c : Nat) {l : List UInt8} (h : Blk w g t (bvs l)) (hn : l.length = n) : (convert src dst (.slice (some ⟨g, 0, none⟩) n c)).run P w = .ok (.string (str l)) w :=
  run_string_rd src dst e hs he hd c (Rd.whole h (by rw [bvs_length, Nat.mul_one, hn]))

/-! ### min, max of natural numbers -/
theorem run_min_nat {P : Program} (ts : Array TypeId) (t : TypeId) (x y m : Nat) (hm : m = min x y) (w : World) : (Builtin.min_ ts t #[.int .i64 (x : Int), .int .i64 (y : Int)]).run P w = .ok (.int .i64 (m : Int)) w := by
  subst hm
  rw [run_min_int2]
  congr 2
  split <;> omega
theorem run_rem_nat {P : Program} (x y : Int) (v : Nat) (hx : 0 ≤ x) (hy : 0 < y) (hv : x % y = (v : Int)) (w : World) : (Op.intDiv .rem .i64 x y).run P w = .ok (.int .i64 (v : Int)) w := by
  have h0 : ¬ y = 0 := by omega
  have h1 : x.tmod y = (v : Int) := by rw [Int.tmod_eq_emod_of_nonneg hx]; exact hv
  simp [Op.intDiv, h0, h1]
/-! ### make: rows of zero values -/
def rep (n : Nat) (z : List Value) : List Value := (List.replicate n z).flatten
theorem rep_length (n : Nat) (z : List Value) : (rep n z).length = n * z.length := by simp [rep]
theorem rep_one (n : Nat) (v : Value) : rep n [v] = List.replicate n v := by
  induction n with
  | zero => rfl
  | succ n ih => simp only [rep, List.replicate_succ, List.flatten_cons] at ih ⊢; rw [ih]; rfl
theorem rep_succ (n : Nat) (z : List Value) : rep (n + 1) z = z ++ rep n z := by simp [rep, List.replicate_succ]
theorem rep_get (z : List Value) (n : Nat) : ∀ j, j < n * z.length → (rep n z)[j]? = z[j % z.length]? := by
  induction n with
  | zero => intro j hj; omega
  | succ n ih =>
    intro j hj
    rw [rep_succ, List.getElem?_append]
    split
    · rename_i h; rw [Nat.mod_eq_of_lt h]
    · rename_i h
      have hp : 0 < z.length := by
        rcases Nat.eq_zero_or_pos z.length with h0 | h0
        · rw [h0] at hj; omega
        · exact h0
      rw [ih _ (by rw [Nat.succ_mul] at hj; omega), Nat.mod_eq_sub_mod (by omega : z.length ≤ j)]
theorem madeCells_rep (z : Array Value) (n : Nat) (hz : 0 < z.size) : madeCells z (n * z.size) = (rep n z.toList).toArray := by
  apply Array.ext
  · simp [madeCells, rep_length]
  · intro j h1 h2
    have hj : j < n * z.size := by simpa [madeCells] using h1
    have hm : j % z.size < z.size := Nat.mod_lt _ hz
    have e := rep_get z.toList n j (by simpa using hj)
    simp only [Array.length_toList, Array.getElem?_toList] at e
    have e2 : (rep n z.toList)[j]? = some ((rep n z.toList)[j]'(by simpa using h2)) := List.getElem?_eq_getElem _
    rw [e2, Array.getElem?_eq_getElem hm] at e
    injection e with e
    simp only [madeCells, Array.getElem_map, Array.getElem_range, List.getElem_toArray]
    rw [e]; simp [hm]
/-- make([]T, n): n a natural number; also where the length is below the capacity -/
theorem run_make_rep {P : Program} (t e : TypeId) (z : Value) (size bytes : Nat) (ht : P.underlying t = some (.slice e)) (hinfo : (P.info? e).map (fun i => (i.zero, i.size, i.bytes)) = some (some z, size, bytes))
    (hzs : z.cells.size = size) (hsz : 0 < size) (kl kc : IntKind) (n c : Nat) (hnc : n ≤ c) (hbytes : bytes * c ≤ 281474976710656) (h63 : c ≤ 9223372036854775807) (w : World) :
    (Instr.makeSlice t (.int kl (n : Int)) (.int kc (c : Int))).run P w = .ok (.slice (some ⟨w.heap.size, 0, none⟩) n c) (w.alloc (.cells (rep c z.cells.toList).toArray e)) := by
  obtain ⟨i, hi, hz, hs, hb⟩ := info_parts hinfo
  subst hs hb
  have hb : (i.bytes : Int) * (c : Int) ≤ 281474976710656 := by
    have h : ((i.bytes * c : Nat) : Int) ≤ 281474976710656 := by omega
    rwa [Int.natCast_mul] at h
  have hr := run_make (P := P) w t e i z ht hi hz kl kc n c (by omega) (by omega) hb (by omega)
  simp only [Int.toNat_natCast] at hr
  rw [hr, ← hzs, madeCells_rep _ _ (by omega)]
theorem run_make_rep1 {P : Program} (t e : TypeId) (z : Value) (bytes : Nat) (ht : P.underlying t = some (.slice e)) (hinfo : (P.info? e).map (fun i => (i.zero, i.size, i.bytes)) = some (some z, 1, bytes))
    (hzs : z.cells = #[z]) (kl kc : IntKind) (n c : Nat) (hnc : n ≤ c) (hbytes : bytes * c ≤ 281474976710656) (h63 : c ≤ 9223372036854775807) (w : World) :
    (Instr.makeSlice t (.int kl (n : Int)) (.int kc (c : Int))).run P w = .ok (.slice (some ⟨w.heap.size, 0, none⟩) n c) (w.alloc (.cells (List.replicate c z).toArray e)) := by
  have h := run_make_rep (P := P) t e z 1 bytes ht hinfo (by rw [hzs]; rfl) (by omega) kl kc n c hnc hbytes h63 w
  rw [h, hzs, ← rep_one]
end Go.Proofs.YtgohinklnglgeaaDoor

set_option linter.unusedVariables false
set_option linter.unusedSimpArgs false
namespace Go.Proofs.YtgohinklnglgeaaDoor
open Go.RowKit

/-- the call of append by its run: an arm behind 'at_builtin' -/
theorem wp_append_run {P : Program} {w : World} {o : Oper} {a : Act} {K : Act → World → Prop} {Q : Exit → Act → World → Prop} (s x : Operand) (t u : TypeId)
    (ho : o.op = .call { callee := .builtin .append, args := #[s, x], argTypes := #[t, u] }) {v1 v2 : Value} (hs : a.eval s = v1) (hx : a.eval x = v2) {v' : Value} {w' : World}
    (hrun : (Builtin.append_ #[t, u] o.type #[v1, v2]).run P w = .ok v' w') (h : K (a.put o.dst v') w') : o.wp P a w K Q := by
  unfold Oper.wp execOp
  simp only [ho, resolve, invoke, builtin, Sem.run_bind, Sem.run_pure, Result.andThen_ok, List.map_toArray, List.map_cons, List.map_nil, hs, hx, hrun]
  exact h
theorem wpList_append_run {P : Program} {w : World} {ops : Array Oper} {rest : List Oper} {o : Oper} {a : Act} {Q : Exit → Act → World → Prop} (hgd : o.guard = none) (s x : Operand) (t u : TypeId)
    (ho : o.op = .call { callee := .builtin .append, args := #[s, x], argTypes := #[t, u] }) {v1 v2 : Value} (hs : a.eval s = v1) (hx : a.eval x = v2) {v' : Value} {w' : World}
    (hrun : (Builtin.append_ #[t, u] o.type #[v1, v2]).run P w = .ok v' w') (h : wpList P ops Q rest (a.put o.dst v') w') : wpList P ops Q (o :: rest) a w :=
  wpList_plain hgd fun _ hK => wp_append_run s x t u ho hs hx hrun (hK _ _ h)

section
variable {P : Program} {w : World}

theorem own_shape {base : Nat} {e : TypeId} {size : Nat} {v : Value} {n : Nat} {xs : List Value} (h : w.ownsRow base e size v n xs) (hn : 0 < n) :
    ∃ g cap sp, v = .slice (some ⟨g, 0, none⟩) n cap ∧ base ≤ g ∧ Blk w g e (xs ++ sp) ∧ sp.length = (cap - n) * size ∧ n ≤ cap ∧ cap ≤ maxLen := by
  rcases h.2 with ⟨_, h0⟩ | ⟨g, cap, cur, hv, hb, hg, hnc, hcm, hcs, htake⟩
  · omega
  · refine ⟨g, cap, cur.toList.drop (n * size), hv, hb, Blk.mk' hg ?_, ?_, hnc, hcm⟩
    · rw [← htake, List.take_append_drop]
    · rw [List.length_drop, Array.length_toList, hcs, Nat.sub_mul]
theorem own_of_blk {base g n cap size : Nat} {e : TypeId} {xs sp : List Value} (h : Blk w g e (xs ++ sp)) (hb : base ≤ g) (hx : xs.length = n * size) (hs : sp.length = (cap - n) * size) (hnc : n ≤ cap) (hcm : cap ≤ maxLen) :
    w.ownsRow base e size (.slice (some ⟨g, 0, none⟩) n cap) n xs :=
  ⟨hx, .inr ⟨g, cap, _, rfl, hb, h, hnc, hcm, by
    rw [List.size_toArray, List.length_append, hx, hs, ← Nat.add_mul]; congr 1; omega, by
    rw [← hx]; simp⟩⟩
theorem own_only {base : Nat} {e : TypeId} {size : Nat} {v : Value} {n : Nat} {xs : List Value} (h : w.ownsRow base e size v n xs) {l : List Nat} {w' : World} (ho : Only l w w') (hl : ∀ k, v.ownBlock = some k → k ∉ l) : w'.ownsRow base e size v n xs := by
  refine ⟨h.1, ?_⟩
  rcases h.2 with hn | ⟨g, cap, cur, rfl, hb, hgg, rest⟩
  · exact .inl hn
  · exact .inr ⟨g, cap, cur, rfl, hb, (ho.block g (Array.getElem?_eq_some_iff.1 hgg).1 (hl g rfl)).trans hgg, rest⟩
theorem own_base {base base' : Nat} {e : TypeId} {size : Nat} {v : Value} {n : Nat} {xs : List Value} (h : w.ownsRow base e size v n xs) (hb : base' ≤ base) : w.ownsRow base' e size v n xs := by
  refine ⟨h.1, ?_⟩
  rcases h.2 with hn | ⟨g, cap, cur, rfl, hb', r⟩
  · exact .inl hn
  · exact .inr ⟨g, cap, cur, rfl, by omega, r⟩
theorem own_lt {base : Nat} {e : TypeId} {size : Nat} {v : Value} {n : Nat} {xs : List Value} (h : w.ownsRow base e size v n xs) {k : Nat} (hk : v.ownBlock = some k) : base ≤ k ∧ k < w.heap.size := h.lt k hk
theorem own_slice {base : Nat} {e : TypeId} {size : Nat} {v : Value} {n : Nat} {xs : List Value} (h : w.ownsRow base e size v n xs) : ∃ A c, v = .slice A n c ∧ n ≤ c ∧ Rd w w.heap.size size A n xs ∧ (∀ ad, A = some ad → v.ownBlock = some ad.block ∧ base ≤ ad.block) := by
  rcases h.2 with ⟨hv, h0⟩ | ⟨g, cap, cur, hv, hb, hg, hnc, _⟩
  · subst h0
    refine ⟨none, 0, hv, by omega, ?_, by simp⟩
    have : xs = [] := List.eq_nil_of_length_eq_zero (by have := h.1; omega)
    subst this
    exact Rd.zero _ _ _ _
  · refine ⟨_, cap, hv, hnc, ?_, ?_⟩
    · rw [hv] at h; exact Rd.of_own h
    · intro ad e; injection e with e; subst e; subst hv; exact ⟨rfl, hb⟩

/-- '[]T{}' owns nothing -/
theorem own_empty (w : World) (base : Nat) (e : TypeId) (size : Nat) {g : Nat} (hg : w.heap.size = g) (hb : base ≤ g) : (w.alloc (.cells #[] e)).ownsRow base e size (.slice (some ⟨g, 0, none⟩) 0 0) 0 [] :=
  own_of_blk (xs := []) (sp := []) (by simpa using Blk.new' w e #[] hg rfl) hb (by simp) (by simp) (by omega) (by omega)

/-- 'append(v, x...)', v the call's own (or nil): from whatever slice -/
theorem run_append_row (base t ty e : Nat) (z : Value) (size bytes : Nat) (ht : P.underlying t = some (.slice e)) (hinfo : (P.info? e).map (fun i => (i.zero, i.size, i.bytes)) = some (some z, size, bytes))
    (hzs : z.cells.size = size) (hsz : 0 < size) {v : Value} {n : Nat} {xs : List Value} (hown : w.ownsRow base e size v n xs)
    {B : Nat} {X : Option Addr} {m : Nat} (c : Nat) {ys : List Value} (hy : Rd w B size X m ys) (h1 : ∀ u ∈ ys, u.oneCell' = true) (h63 : n + m ≤ maxLen) (hbytes : (n + m) * bytes ≤ 140737488355328) (hbase : base ≤ w.heap.size) :
    ∃ v' w', (Builtin.append_ #[t, t] ty #[v, .slice X m c]).run P w = .ok v' w' ∧ w'.ownsRow base e size v' (n + m) (xs ++ ys) ∧ Only v.ownBlock.toList w w' ∧ (v'.ownBlock = v.ownBlock ∨ v'.ownBlock = some w.heap.size) ∧ (v' = .slice none 0 0 ↔ v = .slice none 0 0 ∧ m = 0) := by
  obtain ⟨i, hi, hz, hs, hb⟩ := info_parts hinfo
  have hgr : ∀ {w' : World} {row : Option Nat}, w.grownBy w' row → Only row.toList w w' := fun hg =>
    (Only.refl _ w).grown hg (fun k hk => .inl (by simp [hk]))
  cases X with
  | none =>
    have h0 : m = 0 := by
      rcases Nat.eq_zero_or_pos m with h0 | h0
      · exact h0
      · obtain ⟨ad, e, _⟩ := hy.2 h0
        cases e
    subst h0
    obtain rfl : ys = [] := List.eq_nil_of_length_eq_zero (by have := hy.1; omega)
    have hr : (Builtin.append_ #[t, t] ty #[v, .slice none 0 c]).run P w = .ok v w := by
      rcases hown.2 with ⟨rfl, rfl⟩ | ⟨g, cap, cur, rfl, _, _, hnc, _⟩
      · simp [Builtin.append_, run_underlying ht, sizeOf, typeInfo, hi, Builtin.lenOf, Builtin.firstCells]
      · simp [Builtin.append_, run_underlying ht, sizeOf, typeInfo, hi, Builtin.lenOf, Builtin.firstCells, hnc, storeCells]
    exact ⟨v, w, hr, by simpa using hown, Only.refl _ _, .inl rfl, by simp⟩
  | some ad =>
    have hc : ∀ j u, ys[j]? = some u → w.cell? (ad.add j) = some u := by
      intro j u hu
      rcases Nat.eq_zero_or_pos m with h0 | h0
      · obtain rfl : ys = [] := List.eq_nil_of_length_eq_zero (by have := hy.1; rw [h0] at this; omega)
        simp at hu
      · obtain ⟨ad', e, _, _, _, hc⟩ := hy.2 h0
        injection e with e
        subst e
        exact hc j u hu
    obtain ⟨v', w', hr, ho, hg, hnil, hat⟩ := run_append_own_at (P := P) w base t ty e i z size bytes ht hi hz hs hb hzs hsz v n xs hown ad m c ys hy.1 hc h1 h63 hbytes hbase
    exact ⟨v', w', hr, ho, hgr hg, hat, hnil⟩
/-- the same from a string -/
theorem run_append_row_str (base t u ty e : Nat) (ht : P.underlying t = some (.slice e)) (hu : P.underlying u = some .string) (hinfo : (P.info? e).map (fun i => (i.zero, i.size, i.bytes)) = some (some (.int .u8 0), 1, 1))
    {v : Value} {n : Nat} {l : List UInt8} (hown : w.ownsRow base e 1 v n (bvs l)) (s : ByteArray) (hbytes : n + s.size ≤ 140737488355328) (hbase : base ≤ w.heap.size) :
    ∃ v' w', (Builtin.append_ #[t, u] ty #[v, .string s]).run P w = .ok v' w' ∧ w'.ownsRow base e 1 v' (n + s.size) (bvs (l ++ s.data.toList)) ∧ Only v.ownBlock.toList w w' ∧ (v' = .slice none 0 0 ↔ v = .slice none 0 0 ∧ s.size = 0) := by
  obtain ⟨i, hi, hz, hs, hb⟩ := info_parts hinfo
  obtain ⟨v', w', hr, ho, hg, hnil⟩ := Lib.run_append_own_string (P := P) w base t u ty e i ht hu hi hz hs hb v n (bvs l) hown s (by simp only [maxLen]; omega) hbytes hbase
  refine ⟨v', w', hr, ?_, (Only.refl _ w).grown hg (fun k hk => .inl (by simp [hk])), hnil⟩
  rw [← bvs_append]
  exact ho

/-- 'append(x[:n:n], y...)': new memory, whatever x -/
theorem run_append_new (t ty e : Nat) (z : Value) (size bytes : Nat) (ht : P.underlying t = some (.slice e)) (hinfo : (P.info? e).map (fun i => (i.zero, i.size, i.bytes)) = some (some z, size, bytes))
    (hzs : z.cells.size = size) (hsz : 0 < size) {A : Option Addr} {n c m : Nat} {xs : List Value} {B0 : Nat} (hx : Rd w B0 size A n xs) (hc : c < n + m) (hAc : A = none → c = 0)
    {B : Nat} {X : Option Addr} (c2 : Nat) {ys : List Value} (hy : Rd w B size X m ys) (hm : 0 < m) (hbytes : (n + m) * bytes ≤ 140737488355328) (h63 : n + m ≤ maxLen) :
    ∃ cap w', (Builtin.append_ #[t, t] ty #[.slice A n c, .slice X m c2]).run P w = .ok (.slice (some ⟨w.heap.size, 0, none⟩) (n + m) cap) w' ∧ w'.ownsRow w.heap.size e size (.slice (some ⟨w.heap.size, 0, none⟩) (n + m) cap) (n + m) (xs ++ ys) ∧ Only [] w w' := by
  obtain ⟨i, hi, hz, hs, hb⟩ := info_parts hinfo
  subst hs hb
  obtain ⟨ad, rfl, _, _, _, hcy⟩ := hy.2 hm
  have hlen : (xs ++ ys).length = (n + m) * i.size := by rw [List.length_append, hx.1, hy.1, Nat.add_mul]
  have h63' : ((n + m : Nat) : Int) ≤ 9223372036854775807 := by simp only [maxLen] at h63; omega
  have hge := grownCap_ge w (n + m) c e
  have hcm : grownCap w (n + m) c e ≤ maxLen := grownCap_le_maxLen w (n + m) c e h63
  have key : ∀ cur : Array Value, cur = xs.toArray ++ ys.toArray ++ Builtin.zeroCells z.cells (grownCap w (n + m) c e - (n + m)) →
      (w.drew.alloc (.cells cur e)).ownsRow w.heap.size e i.size (.slice (some ⟨w.heap.size, 0, none⟩) (n + m) (grownCap w (n + m) c e)) (n + m) (xs ++ ys) := by
    rintro _ rfl
    refine ⟨hlen, .inr ⟨w.heap.size, _, _, rfl, Nat.le_refl _, heap_alloc_new w.drew _, hge, hcm, ?_, ?_⟩⟩
    · simp only [Array.size_append, List.size_toArray, size_zeroCells, hzs, hx.1, hy.1, ← Nat.add_mul]
      congr 1
      omega
    · simp only [Array.toList_append, List.append_assoc]
      rw [← List.append_assoc, ← hlen]
      exact List.take_left
  cases A with
  | none =>
    have h0 : n = 0 := by
      rcases Nat.eq_zero_or_pos n with h0 | h0
      · exact h0
      · obtain ⟨ad, e, _⟩ := hx.2 h0
        cases e
    have hc0 := hAc rfl
    subst h0 hc0
    obtain rfl : xs = [] := List.eq_nil_of_length_eq_zero (by have := hx.1; omega)
    have hr := run_append_nil (P := P) w t ty e i z ht hi hz ad m c2 ys hy.1 hcy hm (by omega) (by simp only [Nat.zero_add] at hbytes; omega)
    refine ⟨grownCap w m 0 e, _, by rw [hr, Nat.zero_add], ?_, ((Only.refl _ _).drew).alloc _⟩
    have hk := key (ys.toArray ++ Builtin.zeroCells z.cells (grownCap w m 0 e - m)) (by simp [Nat.zero_add])
    simp only [Nat.zero_add] at hk ⊢
    exact hk
  | some ad0 =>
    have hcx : ∀ j u, xs[j]? = some u → w.cell? (ad0.add j) = some u := by
      intro j u hu
      rcases Nat.eq_zero_or_pos n with h0 | h0
      · obtain rfl : xs = [] := List.eq_nil_of_length_eq_zero (by have := hx.1; rw [h0] at this; omega)
        simp at hu
      · obtain ⟨ad', e, _, _, _, hc⟩ := hx.2 h0
        injection e with e
        subst e
        exact hc j u hu
    have hr := run_append_grow (P := P) w t ty e i z ht hi hz ad0 n c xs hx.1 hcx ad m c2 ys hy.1 hcy hc h63' (growslice_fits hc hbytes)
    exact ⟨_, _, hr, key _ rfl, ((Only.refl _ _).drew).alloc _⟩
end
end Go.Proofs.YtgohinklnglgeaaDoor

set_option linter.unusedVariables false
set_option linter.unusedSimpArgs false
namespace Go.Proofs.YtgohinklnglgeaaDoor
open Go.RowKit
theorem run_slice_h {P : Program} {t e : TypeId} (ht : P.underlying t = some (.slice e)) {size : Nat} (hsz : (P.info? e).map (·.size) = some size) {A : Option Addr} {n c m : Nat} {hi : Int} (hhi : hi = (m : Int)) (hm : m ≤ c) :
    ∀ (r : IntKind) (W : World), (Instr.slice t (.slice A n c) none (some (.int r hi)) none).run P W = .ok (.slice A m c) W := by
  subst hhi
  intro r W
  cases hi : P.info? e with
  | none => simp [hi] at hsz
  | some i =>
    have h2 := run_sliceBound (P := P) W r (m : Int) c .sliceAcap (by omega) (by omega)
    simp [Instr.slice, run_underlying ht, Instr.sliceBounds, run_sliceBound, sizeOf, typeInfo, hi, h2, Addr.add]
/-- a list cut at k -/
theorem Rd.cutTo {w : World} {B n : Nat} {A : Option Addr} {l : List UInt8} (hr : Rd w B 1 A n (bvs l)) (hl : l.length = n) (k : Nat) : ∃ n' l', List.length l' = n' ∧ Rd w B 1 A n' (bvs l') ∧ n' ≤ n ∧ n' ≤ k ∧ (0 < n → 0 < k → 0 < n') ∧ l' = l.take k ∧ ((n ≤ k ∧ n' = n) ∨ (k < n ∧ n' = k)) := by
  by_cases h : n ≤ k
  · exact ⟨n, l, hl, hr, Nat.le_refl _, h, fun h _ => h, (List.take_of_length_le (by omega)).symm, .inl ⟨h, rfl⟩⟩
  · have h2 := hr.take (k := k) (by omega)
    rw [Nat.mul_one, bvs_take] at h2
    exact ⟨k, l.take k, by rw [List.length_take, hl]; omega, h2, by omega, Nat.le_refl _, fun _ h => h, rfl, .inr ⟨by omega, rfl⟩⟩
theorem Rd.on {w w' : World} {B size n : Nat} {A : Option Addr} {xs : List Value} (h : Rd w B size A n xs) (hO : Only [] w w') (hB : B ≤ w.heap.size) : Rd w' w'.heap.size size A n xs := (h.only hO (by simp)).more (Nat.le_trans hB hO.size)
theorem Only.ofDrew {l : List Nat} {a w : World} (h : Only l a.drew w) : Only l a w := ⟨h.os, h.tape, h.output, h.size, h.block⟩
/-- 's[lo:]': the address, and its block -/
theorem Rd.slice_lb {P : Program} {w : World} {B size n : Nat} {A : Option Addr} {xs : List Value} (h : Rd w B size A n xs) {t e : TypeId} (ht : P.underlying t = some (.slice e)) (hsz : (P.info? e).map (·.size) = some size) {k c : Nat} {lo : Int} (hlo : lo = (k : Int)) (hk : k ≤ n) (hc : n ≤ c) :
    ∃ A', (∀ (q : IntKind) (W : World), (Instr.slice t (.slice A n c) (some (.int q lo)) none none).run P W = .ok (.slice A' (n - k) (c - k)) W) ∧ Rd w B size A' (n - k) (xs.drop (k * size)) ∧ ∀ ad, A' = some ad → ∃ ad0, A = some ad0 ∧ ad0.block = ad.block := by
  subst hlo
  cases hi : P.info? e with
  | none => simp [hi] at hsz
  | some i =>
    have hs : i.size = size := by simpa [hi] using hsz
    refine ⟨if c = k then A else A.map (·.add (k * size)), fun q W => ?_, h.cut hk hc, ?_⟩
    · simp [Instr.slice, run_underlying ht, Instr.sliceBounds, run_sliceBound, sizeOf, typeInfo, hi, hs, hk]
    · intro ad e
      by_cases h : c = k
      · rw [if_pos h] at e; exact ⟨ad, e, rfl⟩
      · rw [if_neg h] at e
        cases A with
        | none => simp at e
        | some a => simp at e; subst e; exact ⟨a, rfl, (add_block _ _).symm⟩
end Go.Proofs.YtgohinklnglgeaaDoor
