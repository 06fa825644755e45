/- ModelKept's region of five appends: what is so of each operation that is done. -/
import Derived.Test.YtfnhdkabfkjodaaRegInv
import Derived.Test.YtfnhdkabfkjodaaMd2
set_option linter.unusedVariables false
set_option linter.unusedSimpArgs false
namespace Go.Proofs.Ytfnhdkabfkjodaa
open Go.RowKit

def actK (V P : Value) (T : Nat → Value) : Act := { tmps := #[V, P, .bool false, T 3, undef, undef, undef, undef, undef, undef, undef, undef, V, .bool false, undef, T 15, T 16, T 17, T 18, T 19, T 20, T 21, T 22, T 23, T 24, T 25, T 26, T 27, T 28, T 29, T 30, T 31, T 32, T 33, T 34, T 35, undef, undef, undef, undef, undef, undef, undef, undef, undef, undef, undef, undef, undef, undef, undef, undef, undef, undef, undef, undef, undef, undef, undef, undef, undef, undef, undef, undef, undef, undef, undef, undef, undef, undef, undef, undef, undef, undef, undef, undef, undef, undef, undef, undef, undef, undef, undef, undef, undef, undef, undef, undef, undef, undef, undef], defers := [] }
def upd (T : Nat → Value) (d : Nat) (v : Value) (k : Nat) : Value := bif Nat.beq k d then v else T k
theorem upd_ne {T : Nat → Value} {d k : Nat} {v : Value} (h : k ≠ d) : upd T d v k = T k := by
  unfold upd
  have : Nat.beq k d = false := by cases e : Nat.beq k d; rfl; exact absurd (Nat.eq_of_beq_eq_true e) h
  rw [this]; rfl
def slK (j : Nat) : Nat := if j < 21 then 15 + j else 3
def KD (B h : Nat) (A0 A1 A2 A3 A4 : Option Addr) (n0 n1 n2 n3 n4 c0 c1 c2 c3 c4 : Nat) (ws : List ByteArray) (ms : List Mg) (a b d : List Sp) (T : Nat → Value) (w : World) : Nat → Prop
  | 0 => ∃ g, T 15 = .slice (some ⟨g, 0, none⟩) 0 0 ∧ B ≤ g ∧ Blk w g 9 []
  | 1 => T 16 = .pointer (some ⟨h, 0, none⟩)
  | 2 => T 17 = .slice A0 n0 c0
  | 3 => w.ownsRow B 9 1 (T 18) n0 (wds ws)
  | 4 => ∃ g, T 19 = .slice (some ⟨g, 0, none⟩) 0 0 ∧ B ≤ g ∧ Blk w g 38 []
  | 5 => T 20 = .pointer (some ⟨h, 1, none⟩)
  | 6 => T 21 = .slice A1 n1 c1
  | 7 => w.ownsRow B 38 3 (T 22) n1 (mgs ms)
  | 8 => ∃ g, T 23 = .slice (some ⟨g, 0, none⟩) 0 0 ∧ B ≤ g ∧ Blk w g 67 []
  | 9 => T 24 = .pointer (some ⟨h, 2, none⟩)
  | 10 => T 25 = .slice A2 n2 c2
  | 11 => w.ownsRow B 67 2 (T 26) n2 (ses a)
  | 12 => ∃ g, T 27 = .slice (some ⟨g, 0, none⟩) 0 0 ∧ B ≤ g ∧ Blk w g 67 []
  | 13 => T 28 = .pointer (some ⟨h, 3, none⟩)
  | 14 => T 29 = .slice A3 n3 c3
  | 15 => w.ownsRow B 67 2 (T 30) n3 (ses b)
  | 16 => ∃ g, T 31 = .slice (some ⟨g, 0, none⟩) 0 0 ∧ B ≤ g ∧ Blk w g 67 []
  | 17 => T 32 = .pointer (some ⟨h, 4, none⟩)
  | 18 => T 33 = .slice A4 n4 c4
  | 19 => w.ownsRow B 67 2 (T 34) n4 (ses d)
  | 20 => ∃ u0 u1 u2 u3 u4, T 35 = .agg #[u0, u1, u2, u3, u4] ∧ w.ownsRow B 9 1 u0 n0 (wds ws) ∧ w.ownsRow B 38 3 u1 n1 (mgs ms) ∧ w.ownsRow B 67 2 u2 n2 (ses a) ∧ w.ownsRow B 67 2 u3 n3 (ses b) ∧ w.ownsRow B 67 2 u4 n4 (ses d)
  | 21 => ∃ g u0 u1 u2 u3 u4, T 3 = .pointer (some ⟨g, 0, none⟩) ∧ B ≤ g ∧ Blk w g 26 [u0, u1, u2, u3, u4]
  | 22 => ∃ g u0 u1 u2 u3 u4, T 3 = .pointer (some ⟨g, 0, none⟩) ∧ B ≤ g ∧ Blk w g 26 [u0, u1, u2, u3, u4] ∧ w.ownsRow B 9 1 u0 n0 (wds ws) ∧ w.ownsRow B 38 3 u1 n1 (mgs ms) ∧ w.ownsRow B 67 2 u2 n2 (ses a) ∧ w.ownsRow B 67 2 u3 n3 (ses b) ∧ w.ownsRow B 67 2 u4 n4 (ses d)
  | _ => True
theorem KD.up {B h : Nat} {A0 A1 A2 A3 A4 : Option Addr} {n0 n1 n2 n3 n4 c0 c1 c2 c3 c4 : Nat} {ws : List ByteArray} {ms : List Mg} {a b d : List Sp} {T T' : Nat → Value} {w w' : World} {j : Nat} (k : KD B h A0 A1 A2 A3 A4 n0 n1 n2 n3 n4 c0 c1 c2 c3 c4 ws ms a b d T w j) (hO : Only [] w w') (hT : j < 23 → T' (slK j) = T (slK j)) : KD B h A0 A1 A2 A3 A4 n0 n1 n2 n3 n4 c0 c1 c2 c3 c4 ws ms a b d T' w' j := by
  by_cases hj : j < 23
  · replace hT := hT hj
    have : j = 0 ∨ j = 1 ∨ j = 2 ∨ j = 3 ∨ j = 4 ∨ j = 5 ∨ j = 6 ∨ j = 7 ∨ j = 8 ∨ j = 9 ∨ j = 10 ∨ j = 11 ∨ j = 12 ∨ j = 13 ∨ j = 14 ∨ j = 15 ∨ j = 16 ∨ j = 17 ∨ j = 18 ∨ j = 19 ∨ j = 20 ∨ j = 21 ∨ j = 22 := by omega
    rcases this with rfl | rfl | rfl | rfl | rfl | rfl | rfl | rfl | rfl | rfl | rfl | rfl | rfl | rfl | rfl | rfl | rfl | rfl | rfl | rfl | rfl | rfl | rfl
    · obtain ⟨g, e, h1, h2⟩ := k; exact ⟨g, (show T' 15 = T 15 from hT).trans e, h1, h2.only hO (by simp)⟩
    · exact (show T' 16 = T 16 from hT).trans k
    · exact (show T' 17 = T 17 from hT).trans k
    · show w'.ownsRow _ _ _ (T' 18) _ _; rw [show T' 18 = T 18 from hT]; exact own_only k hO (by simp)
    · obtain ⟨g, e, h1, h2⟩ := k; exact ⟨g, (show T' 19 = T 19 from hT).trans e, h1, h2.only hO (by simp)⟩
    · exact (show T' 20 = T 20 from hT).trans k
    · exact (show T' 21 = T 21 from hT).trans k
    · show w'.ownsRow _ _ _ (T' 22) _ _; rw [show T' 22 = T 22 from hT]; exact own_only k hO (by simp)
    · obtain ⟨g, e, h1, h2⟩ := k; exact ⟨g, (show T' 23 = T 23 from hT).trans e, h1, h2.only hO (by simp)⟩
    · exact (show T' 24 = T 24 from hT).trans k
    · exact (show T' 25 = T 25 from hT).trans k
    · show w'.ownsRow _ _ _ (T' 26) _ _; rw [show T' 26 = T 26 from hT]; exact own_only k hO (by simp)
    · obtain ⟨g, e, h1, h2⟩ := k; exact ⟨g, (show T' 27 = T 27 from hT).trans e, h1, h2.only hO (by simp)⟩
    · exact (show T' 28 = T 28 from hT).trans k
    · exact (show T' 29 = T 29 from hT).trans k
    · show w'.ownsRow _ _ _ (T' 30) _ _; rw [show T' 30 = T 30 from hT]; exact own_only k hO (by simp)
    · obtain ⟨g, e, h1, h2⟩ := k; exact ⟨g, (show T' 31 = T 31 from hT).trans e, h1, h2.only hO (by simp)⟩
    · exact (show T' 32 = T 32 from hT).trans k
    · exact (show T' 33 = T 33 from hT).trans k
    · show w'.ownsRow _ _ _ (T' 34) _ _; rw [show T' 34 = T 34 from hT]; exact own_only k hO (by simp)
    · obtain ⟨u0, u1, u2, u3, u4, e, h0, h1, h2, h3, h4⟩ := k; exact ⟨u0, u1, u2, u3, u4, (show T' 35 = T 35 from hT).trans e, own_only h0 hO (by simp), own_only h1 hO (by simp), own_only h2 hO (by simp), own_only h3 hO (by simp), own_only h4 hO (by simp)⟩
    · obtain ⟨g, u0, u1, u2, u3, u4, e, h0, h1⟩ := k; exact ⟨g, u0, u1, u2, u3, u4, (show T' 3 = T 3 from hT).trans e, h0, h1.only hO (by simp)⟩
    · obtain ⟨g, u0, u1, u2, u3, u4, e, hg, hb, h0, h1, h2, h3, h4⟩ := k; exact ⟨g, u0, u1, u2, u3, u4, (show T' 3 = T 3 from hT).trans e, hg, hb.only hO (by simp), own_only h0 hO (by simp), own_only h1 hO (by simp), own_only h2 hO (by simp), own_only h3 hO (by simp), own_only h4 hO (by simp)⟩
  · obtain ⟨m, rfl⟩ : ∃ m, j = m + 23 := ⟨j - 23, by omega⟩
    exact trivial
theorem lt23 {i : Nat} (h : i < 23) : i = 0 ∨ i = 1 ∨ i = 2 ∨ i = 3 ∨ i = 4 ∨ i = 5 ∨ i = 6 ∨ i = 7 ∨ i = 8 ∨ i = 9 ∨ i = 10 ∨ i = 11 ∨ i = 12 ∨ i = 13 ∨ i = 14 ∨ i = 15 ∨ i = 16 ∨ i = 17 ∨ i = 18 ∨ i = 19 ∨ i = 20 ∨ i = 21 ∨ i = 22 := by omega
/-- the invariant -/
def KI (V P : Value) (W2 : World) (B h : Nat) (A0 A1 A2 A3 A4 : Option Addr) (n0 n1 n2 n3 n4 c0 c1 c2 c3 c4 : Nat) (ws : List ByteArray) (ms : List Mg) (a b d : List Sp) (L : Nat → Prop) (x : Act) (w : World) : Prop := ∃ T, x = actK V P T ∧ Only [] W2 w ∧ ((¬ L 22 ∧ ∀ j, L j → KD B h A0 A1 A2 A3 A4 n0 n1 n2 n3 n4 c0 c1 c2 c3 c4 ws ms a b d T w j) ∨ ((∀ j, j < 23 → L j) ∧ KD B h A0 A1 A2 A3 A4 n0 n1 n2 n3 n4 c0 c1 c2 c3 c4 ws ms a b d T w 22))
theorem KI.next {V P : Value} {W2 : World} {B h : Nat} {A0 A1 A2 A3 A4 : Option Addr} {n0 n1 n2 n3 n4 c0 c1 c2 c3 c4 : Nat} {ws : List ByteArray} {ms : List Mg} {a b d : List Sp} {L : Nat → Prop} {T : Nat → Value} {w w' : World} (i : Nat) (v : Value) {x : Act} (hi : i < 22) (hL : ¬ L i) (h21 : ¬ L 22) (hO : Only [] W2 w) (hD : ∀ j, L j → KD B h A0 A1 A2 A3 A4 n0 n1 n2 n3 n4 c0 c1 c2 c3 c4 ws ms a b d T w j) (hO' : Only [] w w')
    (hx : x = actK V P (upd T (slK i) v)) (hn : KD B h A0 A1 A2 A3 A4 n0 n1 n2 n3 n4 c0 c1 c2 c3 c4 ws ms a b d (upd T (slK i) v) w' i) : KI V P W2 B h A0 A1 A2 A3 A4 n0 n1 n2 n3 n4 c0 c1 c2 c3 c4 ws ms a b d (fun j => L j ∨ j = i) x w' := by
  refine ⟨_, hx, hO.trans hO', .inl ⟨?_, ?_⟩⟩
  · intro h22
    rcases h22 with h22 | h22
    · exact h21 h22
    · omega
  · intro j hj
    rcases hj with hj | rfl
    · refine (hD j hj).up hO' fun hj23 => upd_ne ?_
      have h1 : j ≠ i := fun e => hL (e ▸ hj)
      have h2 : ¬ (j = 22 ∧ i = 21) := fun ⟨e1, e2⟩ => h21 (e1 ▸ hj)
      unfold slK
      split <;> split <;> omega
    · exact hn
end Go.Proofs.Ytfnhdkabfkjodaa
