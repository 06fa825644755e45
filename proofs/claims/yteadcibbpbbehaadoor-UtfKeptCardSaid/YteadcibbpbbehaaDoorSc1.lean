/- utf.Scanner: take. -/
import Derived.Test.YteadcibbpbbehaaDoorUtfE
import Derived.Test.YteadcibbpbbehaaDoorSc0
import Derived.ScopeJumps
import Derived.WalkMore
set_option linter.unusedVariables false
set_option linter.unusedSimpArgs false
namespace Go.Proofs.YteadcibbpbbehaaDoor
open Go.RowKit

/-- as Q; by a goto to a label: what holds there -/
def _root_.Go.Exit.jumps (J : Nat → Act → World → Prop) (Q : Exit → Act → World → Prop) : Exit → Act → World → Prop
  | .goto l, a, w => J l a w
  | e, a, w => Q e a w

/-- a scope with labels; its code begins with two pieces and the label l0 -/
theorem wp_scope_look {P : Program} {a : Act} {w : World} {Q : Exit → Act → World → Prop} {A1 A2 R : Code} (l0 : Nat) (J : Nat → Nat → Act → World → Prop)
    (hf0 : findLabel (A1.seq (A2.seq ((Code.label l0).seq R))) l0 = some (Code.skip.seq R))
    (first : A1.wp P (Exit.then (fun a w => A2.wp P (Exit.then (fun a w => ∃ m, J l0 m a w) (fun _ _ _ => False)) a w) (fun _ _ _ => False)) a w)
    (pass0 : ∀ m a w, J l0 m a w → R.wp P (Exit.jumps (fun l' a' w' => ∃ m', J l' m' a' w' ∧ m' < m) Q) a w)
    (pass : ∀ l m a w, J l m a w → l ≠ l0 → ∃ rest, findLabel (A1.seq (A2.seq ((Code.label l0).seq R))) l = some rest ∧ rest.wp P (Exit.jumps (fun l' a' w' => ∃ m', J l' m' a' w' ∧ m' < m) Q) a w) :
    (Code.scope (A1.seq (A2.seq ((Code.label l0).seq R)))).wp P Q a w := by
  have hpass : ∀ l m a w, J l m a w → ∃ rest, findLabel (A1.seq (A2.seq ((Code.label l0).seq R))) l = some rest ∧ rest.wp P (Exit.jumps (fun l' a' w' => ∃ m', J l' m' a' w' ∧ m' < m) Q) a w := by
    intro l m a w hJ
    by_cases hl : l = l0
    · subst hl
      exact ⟨_, hf0, wp_seq (wp_skip (pass0 m a w hJ))⟩
    · exact pass l m a w hJ hl
  have hfirst : (A1.seq (A2.seq ((Code.label l0).seq R))).wp P (Exit.jumps (fun l' a' w' => ∃ m', J l' m' a' w') Q) a w := by
    refine wp_seq (wp_mono first ?_)
    intro e a1 w1 h1
    cases e <;> first | exact h1.elim | skip
    refine wp_seq (wp_mono h1 ?_)
    intro e a2 w2 h2
    cases e <;> first | exact h2.elim | skip
    obtain ⟨m, h2⟩ := h2
    refine wp_seq (wp_label ?_)
    refine wp_mono (pass0 m a2 w2 h2) ?_
    intro e a3 w3 h3
    cases e <;> first | exact h3 | (obtain ⟨m', h3, _⟩ := h3; exact ⟨m', h3⟩)
  generalize (A1.seq (A2.seq ((Code.label l0).seq R))) = c at hpass hfirst ⊢
  intro b k cs
  have hg : ∀ l rest, findLabel c l = some rest → gotoIn l (.inScope c :: k) = some (.code rest :: .inScope c :: k) := fun l rest hf => by simp [gotoIn, hf]
  have key : ∀ n l rest a w, J l n a w → findLabel c l = some rest → ∃ e a' w', Q e a' w' ∧ Arrives P (lone (b.at a (.code rest :: .inScope c :: k)) cs w) b k cs e a' w' := by
    intro n
    induction n using Nat.strongRecOn with
    | _ n ih =>
      intro l rest a w hJ hf
      obtain ⟨rest', hf', hp⟩ := hpass l n a w hJ
      rw [hf] at hf'
      cases hf'
      obtain ⟨e, a₁, w₁, hq, harr⟩ := hp b (.inScope c :: k) cs
      cases e with
      | normal => exact ⟨.normal, a₁, w₁, hq, Steps.trans harr (.one step_inScope)⟩
      | exit id => exact ⟨.exit id, a₁, w₁, hq, fun k' hk => harr k' (by simp [exitTo, hk])⟩
      | goto l' =>
        obtain ⟨m', hJ', hlt⟩ := hq
        obtain ⟨rest2, hf2, _⟩ := hpass l' m' a₁ w₁ hJ'
        obtain ⟨e₂, a₂, w₂, hq₂, harr₂⟩ := ih m' hlt l' rest2 a₁ w₁ hJ' hf2
        exact ⟨e₂, a₂, w₂, hq₂, .of_steps (harr _ (hg l' rest2 hf2)) harr₂⟩
      | ret => exact ⟨_, a₁, w₁, hq, harr⟩
      | panic ch => exact ⟨_, a₁, w₁, hq, harr⟩
      | outgrown => exact ⟨_, a₁, w₁, hq, harr⟩
  obtain ⟨e, a₁, w₁, hq, harr⟩ := hfirst b (.inScope c :: k) cs
  cases e with
  | normal => exact ⟨.normal, a₁, w₁, hq, .head step_scope (Steps.trans harr (.one step_inScope))⟩
  | exit id => exact ⟨.exit id, a₁, w₁, hq, fun k' hk => .head step_scope (harr k' (by simp [exitTo, hk]))⟩
  | goto l' =>
    obtain ⟨m', hq⟩ := hq
    obtain ⟨rest2, hf2, _⟩ := hpass l' m' a₁ w₁ hq
    obtain ⟨e₂, a₂, w₂, hq₂, harr₂⟩ := key m' l' rest2 a₁ w₁ hq hf2
    exact ⟨e₂, a₂, w₂, hq₂, .of_steps (.head step_scope (harr _ (hg l' rest2 hf2))) harr₂⟩
  | ret => exact ⟨_, a₁, w₁, hq, .of_steps (.one step_scope) harr⟩
  | panic ch => exact ⟨_, a₁, w₁, hq, .of_steps (.one step_scope) harr⟩
  | outgrown => exact ⟨_, a₁, w₁, hq, .of_steps (.one step_scope) harr⟩

/-- the bytes from a place on -/
def from_ (s : ByteArray) (p : Nat) : List UInt8 := s.data.toList.drop p
theorem from_len (s : ByteArray) (p : Nat) : (from_ s p).length = s.size - p := by unfold from_; rw [List.length_drop, ← Lib.size_eq]
theorem from_str (s : ByteArray) (p : Nat) : str (from_ s p) = s.extract p s.size := by
  apply ByteArray.ext
  rw [ByteArray.data_extract]
  apply Array.toList_inj.1
  rw [Array.toList_extract]
  show s.data.toList.drop p = ((s.data.toList).drop p).take (s.size - p)
  rw [List.take_of_length_le (by rw [List.length_drop, ← Lib.size_eq]; omega)]
theorem from_drop (s : ByteArray) (p n : Nat) : (bvs (from_ s p)).drop (n * 1) = bvs (from_ s (p + n)) := by
  unfold from_ bvs
  rw [Nat.mul_one, ← List.map_drop, List.drop_drop]
/-- an item further on -/
def It.by_ (x : It) (d : Nat) : It := ⟨x.at_ + d, x.n, x.r, x.bad⟩
def movedL (d : Nat) (l : List It) : List It := l.map (·.by_ d)
theorem firstIt_by (s : ByteArray) (p d : Nat) (hp : p < s.size) : firstIt (s.extract p s.size) (p + d) = (itAt s p).by_ d := by
  rw [← firstIt_at s p hp]; rfl

/-- what a take holds at its first label -/
def TkL (w : World) (b bi d N : Nat) (all : Bool) (s : ByteArray) (T : List It × Nat) (m : Nat) (a : Act) (W : World) : Prop :=
  ∃ (p : Nat) (l : List It) (v : Value) (A : Option Addr) (c : Nat), (∃ u2 u3 u7 u8 u9 u10 u11 u12 u13 u14 u15 u16 u17 u18 u19 u20 u21 u22 u23 u24 u25 u26 u27 u28 u29 u30 u31 u32 u33 u34 u35 u36 u37 u38 u39 u40 u41 u42 u43 u44 u45 u46 u47 u48 u49 u50 u51 u52 u53 u54 u55 u56 u57 u58 u59 u60 u61 : Value, a = { tmps := #[.pointer (some ⟨b, 0, none⟩), .bool all, u2, u3, .slice none 0 0, v, .pointer (some ⟨bi, 0, none⟩), u7, u8, u9, u10, u11, u12, u13, u14, u15, u16, u17, u18, u19, u20, u21, u22, u23, u24, u25, u26, u27, u28, u29, u30, u31, u32, u33, u34, u35, u36, u37, u38, u39, u40, u41, u42, u43, u44, u45, u46, u47, u48, u49, u50, u51, u52, u53, u54, u55, u56, u57, u58, u59, u60, u61], defers := [] }) ∧
    m = s.size - p + 1 ∧ p ≤ s.size ∧ (l ++ movedL d (scanS all s p).1 = movedL d T.1 ∧ (scanS all s p).2 = T.2 ∧ l.length + (s.size - p) ≤ s.size) ∧ W.ownsRow w.heap.size 33 4 v l.length (l.flatMap It.enc) ∧ s.size - p ≤ c ∧
    Blk W b 70 [.slice A (s.size - p) c, .int .i64 (N : Int)] ∧ Rd W w.heap.size 1 A (s.size - p) (bvs (from_ s p)) ∧ (∀ ad, A = some ad → ad.block ≠ b) ∧ (∃ e0 e1 e2 e3, Blk W bi 33 [e0, e1, e2, e3]) ∧ (∀ k, v.ownBlock = some k → k ≠ bi) ∧ Only [b] w W ∧ (l = [] → v = .slice none 0 0)
/-- and at its second -/
def TkD (w : World) (b bi d N : Nat) (all : Bool) (s : ByteArray) (T : List It × Nat) (a : Act) (W : World) : Prop :=
  ∃ (v : Value) (A : Option Addr) (c : Nat), (∃ u2 u3 u7 u8 u9 u10 u11 u12 u13 u14 u15 u16 u17 u18 u19 u20 u21 u22 u23 u24 u25 u26 u27 u28 u29 u30 u31 u32 u33 u34 u35 u36 u37 u38 u39 u40 u41 u42 u43 u44 u45 u46 u47 u48 u49 u50 u51 u52 u53 u54 u55 u56 u57 u58 u59 u60 u61 : Value, a = { tmps := #[.pointer (some ⟨b, 0, none⟩), .bool all, u2, u3, .slice none 0 0, v, .pointer (some ⟨bi, 0, none⟩), u7, u8, u9, u10, u11, u12, u13, u14, u15, u16, u17, u18, u19, u20, u21, u22, u23, u24, u25, u26, u27, u28, u29, u30, u31, u32, u33, u34, u35, u36, u37, u38, u39, u40, u41, u42, u43, u44, u45, u46, u47, u48, u49, u50, u51, u52, u53, u54, u55, u56, u57, u58, u59, u60, u61], defers := [] }) ∧
    T.2 ≤ s.size ∧ W.ownsRow w.heap.size 33 4 v (movedL d T.1).length ((movedL d T.1).flatMap It.enc) ∧ s.size - T.2 ≤ c ∧
    Blk W b 70 [.slice A (s.size - T.2) c, .int .i64 (N : Int)] ∧ Rd W w.heap.size 1 A (s.size - T.2) (bvs (from_ s T.2)) ∧ (∀ ad, A = some ad → ad.block ≠ b) ∧ Only [b] w W
def TkJ (w : World) (b bi d N : Nat) (all : Bool) (s : ByteArray) (T : List It × Nat) (l m : Nat) (a : Act) (W : World) : Prop :=
  (l = 1 ∧ TkL w b bi d N all s T m a W) ∨ (l = 0 ∧ m = 0 ∧ TkD w b bi d N all s T a W)
/-- a scanner: what it holds, how many were put -/
def ScanAt (w : World) (b : Nat) (h : List UInt8) (put : Nat) : Prop := ∃ A c, Blk w b 70 [.slice A h.length c, .int .i64 (put : Int)] ∧ w.ownsRow (b + 1) 5 1 (.slice A h.length c) h.length (bvs h)
def TkPost (w : World) (b d : Nat) (s : ByteArray) (T : List It × Nat) (e : Ending) (w' : World) : Prop :=
  ∃ v, e = .returned v ∧ w'.ownsRow w.heap.size 33 4 v (movedL d T.1).length ((movedL d T.1).flatMap It.enc) ∧ ScanAt w' b (from_ s T.2) (d + s.size) ∧ Only [b] w w'

def TkPostN (w : World) (b d N : Nat) (s : ByteArray) (T : List It × Nat) (e : Ending) (w' : World) : Prop :=
  ∃ v, e = .returned v ∧ w'.ownsRow w.heap.size 33 4 v (movedL d T.1).length ((movedL d T.1).flatMap It.enc) ∧ ScanAt w' b (from_ s T.2) N ∧ Only [b] w w'

/-! ### the pieces of the text of take -/
noncomputable def sq1 : Code → Code | .seq a _ => a | c => c
noncomputable def sq2 : Code → Code | .seq _ b => b | c => c
noncomputable def unscope : Code → Code | .scope c => c | c => c
noncomputable def tkScope : Code := unscope (sq2 (Tryd.f40.body.getD .skip))
noncomputable def tkR : Code := sq2 (sq2 (sq2 tkScope))
noncomputable def tkR5 : Code := sq1 (sq2 (sq2 tkR))
noncomputable def tkR6 : Code := sq1 (sq2 (sq2 (sq2 tkR)))
noncomputable def tkR7 : Code := sq1 (sq2 (sq2 (sq2 (sq2 tkR))))
end Go.Proofs.YteadcibbpbbehaaDoor
