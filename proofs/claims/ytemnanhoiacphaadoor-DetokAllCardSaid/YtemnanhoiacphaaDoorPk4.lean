/- Several texts in one: Chapter 2 in plain numbers: the reference's Width, read, Begins against the model's own decoding and FullRune.; The reference of chapter 2: Complete, Items, Tail.; utf.Tail. -/
import Derived.Test.YtemnanhoiacphaaDoorPk3
import Derived.Lib.TrimUEq
import Derived.Test.YtemnanhoiacphaaDoorPk1
set_option linter.unusedVariables false
set_option linter.unusedSimpArgs false
namespace Go.Proofs.YtemnanhoiacphaaDoor
open Go.RowKit

def widthP (m b0 b1 b2 b3 : Nat) : Nat := if b0 < 128 then 1 else if needN b0 = 0 ∨ fitsP (needN b0) m b0 b1 b2 b3 < needN b0 then 0 else needN b0
theorem secondN_iff (c d : Nat) : secondN c d = true ↔ secLo c ≤ d ∧ d ≤ secHi c := by unfold secondN; simp
theorem contN_iff (d : Nat) : contN d = true ↔ 128 ≤ d ∧ d ≤ 191 := by unfold contN; simp

theorem fitsP_1 {most m b0 b1 b2 b3 : Nat} (h : ¬ (1 < most ∧ 1 < m ∧ secondN b0 b1 = true)) : fitsP most m b0 b1 b2 b3 = 1 := by unfold fitsP; rw [if_neg h]
theorem fitsP_2 {most m b0 b1 b2 b3 : Nat} (h : 1 < most ∧ 1 < m ∧ secondN b0 b1 = true) (h2 : ¬ (2 < most ∧ 2 < m ∧ contN b2 = true)) : fitsP most m b0 b1 b2 b3 = 2 := by unfold fitsP; rw [if_pos h, if_neg h2]
theorem fitsP_3 {most m b0 b1 b2 b3 : Nat} (h : 1 < most ∧ 1 < m ∧ secondN b0 b1 = true) (h2 : 2 < most ∧ 2 < m ∧ contN b2 = true) (h3 : ¬ (3 < most ∧ 3 < m ∧ contN b3 = true)) : fitsP most m b0 b1 b2 b3 = 3 := by unfold fitsP; rw [if_pos h, if_pos h2, if_neg h3]
theorem fitsP_4 {most m b0 b1 b2 b3 : Nat} (h : 1 < most ∧ 1 < m ∧ secondN b0 b1 = true) (h2 : 2 < most ∧ 2 < m ∧ contN b2 = true) (h3 : 3 < most ∧ 3 < m ∧ contN b3 = true) : fitsP most m b0 b1 b2 b3 = 4 := by unfold fitsP; rw [if_pos h, if_pos h2, if_pos h3]
theorem widthP_yes {m b0 b1 b2 b3 n : Nat} (c1 : ¬ b0 < 128) (en : needN b0 = n) (hn : n ≠ 0) (hf : fitsP n m b0 b1 b2 b3 = n) : widthP m b0 b1 b2 b3 = n := by unfold widthP; rw [if_neg c1, en, hf, if_neg (by omega)]
theorem widthP_no {m b0 b1 b2 b3 n k : Nat} (c1 : ¬ b0 < 128) (en : needN b0 = n) (hf : fitsP n m b0 b1 b2 b3 = k) (hk : k < n) : widthP m b0 b1 b2 b3 = 0 := by unfold widthP; rw [if_neg c1, en, hf, if_pos (by omega)]
theorem no_of {a b : Prop} {c : Bool} {q : Prop} (h : c = true ↔ q) (hn : ¬ (a ∧ q)) : ¬ (b ∧ a ∧ c = true) := fun x => hn ⟨x.2.1, h.1 x.2.2⟩

set_option maxHeartbeats 4000000 in
theorem widthP_dec (m b0 b1 b2 b3 : Nat) (hm : 1 ≤ m) (h0 : b0 < 256) (h1 : b1 < 256) (h2 : b2 < 256) (h3 : b3 < 256) :
    (widthP m b0 b1 b2 b3 ≠ 0 → Lib.decodeN m b0 b1 b2 b3 = (readP (widthP m b0 b1 b2 b3) b0 b1 b2 b3, widthP m b0 b1 b2 b3) ∧ widthP m b0 b1 b2 b3 ≤ m) ∧
    (widthP m b0 b1 b2 b3 = 0 → Lib.decodeN m b0 b1 b2 b3 = (65533, 1)) := by
  by_cases c1 : b0 < 128
  · have e : widthP m b0 b1 b2 b3 = 1 := by unfold widthP; rw [if_pos c1]
    rw [e]
    exact ⟨fun _ => ⟨by unfold Lib.decodeN; rw [if_pos c1]; rfl, hm⟩, fun h => by cases h⟩
  by_cases c2 : 194 ≤ b0 ∧ b0 ≤ 223
  · have en : needN b0 = 2 := by unfold needN; rw [if_pos c2]
    have es : secondN b0 b1 = true ↔ 128 ≤ b1 ∧ b1 ≤ 191 := by rw [secondN_iff]; unfold secLo secHi; (repeat' split) <;> omega
    by_cases hf : 1 < m ∧ 128 ≤ b1 ∧ b1 ≤ 191
    · have e : widthP m b0 b1 b2 b3 = 2 := by
        exact widthP_yes c1 en (by omega) (fitsP_2 ⟨by omega, hf.1, es.2 hf.2⟩ (by omega))
      rw [e]
      refine ⟨fun _ => ⟨?_, by omega⟩, fun h => by cases h⟩
      unfold Lib.decodeN readP
      rw [if_neg c1, if_pos (by omega), if_pos (by omega), if_neg (by omega), if_pos rfl]
    · have e : widthP m b0 b1 b2 b3 = 0 := by
        exact widthP_no c1 en (fitsP_1 (no_of es hf)) (by omega)
      rw [e]
      refine ⟨fun h => absurd rfl h, fun _ => ?_⟩
      unfold Lib.decodeN
      rw [if_neg c1, if_neg (by omega), if_neg (by omega), if_neg (by omega)]
  by_cases c3 : 224 ≤ b0 ∧ b0 ≤ 239
  · have en : needN b0 = 3 := by unfold needN; rw [if_neg c2, if_pos c3]
    by_cases hf : 1 < m ∧ (secLo b0 ≤ b1 ∧ b1 ≤ secHi b0) ∧ 2 < m ∧ 128 ≤ b2 ∧ b2 ≤ 191
    · have e : widthP m b0 b1 b2 b3 = 3 := by
        exact widthP_yes c1 en (by omega) (fitsP_3 ⟨by omega, hf.1, (secondN_iff _ _).2 hf.2.1⟩ ⟨by omega, hf.2.2.1, (contN_iff _).2 hf.2.2.2⟩ (by omega))
      rw [e]
      refine ⟨fun _ => ⟨?_, by omega⟩, fun h => by cases h⟩
      obtain ⟨g1, g2, g3, g4⟩ := hf
      unfold secLo secHi at g2
      unfold Lib.decodeN readP
      rw [if_neg c1, if_neg (by omega), if_pos (by (repeat' split at g2) <;> omega), if_pos (by (repeat' split at g2) <;> omega), if_neg (by omega), if_neg (by omega), if_pos rfl]
    · have e : widthP m b0 b1 b2 b3 = 0 := by
        by_cases k1 : 1 < m ∧ secondN b0 b1 = true
        · exact widthP_no c1 en (fitsP_2 ⟨by omega, k1⟩ (fun x => hf ⟨k1.1, (secondN_iff _ _).1 k1.2, x.2.1, (contN_iff _).1 x.2.2⟩)) (by omega)
        · exact widthP_no c1 en (fitsP_1 (fun x => k1 x.2)) (by omega)
      rw [e]
      refine ⟨fun h => absurd rfl h, fun _ => ?_⟩
      unfold secLo secHi at hf
      unfold Lib.decodeN
      rw [if_neg c1, if_neg (by omega)]
      by_cases k : (1 < m ∧ b1 / 64 = 2) ∧ (2 < m ∧ b2 / 64 = 2)
      · rw [if_pos (by omega), if_neg]
        (repeat' split at hf) <;> omega
      · rw [if_neg (by omega), if_neg (by omega)]
  by_cases c4 : 240 ≤ b0 ∧ b0 ≤ 244
  · have en : needN b0 = 4 := by unfold needN; rw [if_neg c2, if_neg c3, if_pos c4]
    by_cases hf : 1 < m ∧ (secLo b0 ≤ b1 ∧ b1 ≤ secHi b0) ∧ 2 < m ∧ (128 ≤ b2 ∧ b2 ≤ 191) ∧ 3 < m ∧ 128 ≤ b3 ∧ b3 ≤ 191
    · have e : widthP m b0 b1 b2 b3 = 4 := by
        exact widthP_yes c1 en (by omega) (fitsP_4 ⟨by omega, hf.1, (secondN_iff _ _).2 hf.2.1⟩ ⟨by omega, hf.2.2.1, (contN_iff _).2 hf.2.2.2.1⟩ ⟨by omega, hf.2.2.2.2.1, (contN_iff _).2 hf.2.2.2.2.2⟩)
      rw [e]
      refine ⟨fun _ => ⟨?_, by omega⟩, fun h => by cases h⟩
      obtain ⟨g1, g2, g3, g4, g5, g6⟩ := hf
      unfold secLo secHi at g2
      unfold Lib.decodeN readP
      rw [if_neg c1, if_neg (by omega), if_neg (by omega), if_pos (by (repeat' split at g2) <;> omega), if_pos (by (repeat' split at g2) <;> omega), if_neg (by omega), if_neg (by omega), if_neg (by omega)]
    · have e : widthP m b0 b1 b2 b3 = 0 := by
        by_cases k1 : 1 < m ∧ secondN b0 b1 = true
        · by_cases k2 : 2 < m ∧ contN b2 = true
          · exact widthP_no c1 en (fitsP_3 ⟨by omega, k1⟩ ⟨by omega, k2⟩ (fun x => hf ⟨k1.1, (secondN_iff _ _).1 k1.2, k2.1, (contN_iff _).1 k2.2, x.2.1, (contN_iff _).1 x.2.2⟩)) (by omega)
          · exact widthP_no c1 en (fitsP_2 ⟨by omega, k1⟩ (fun x => k2 x.2)) (by omega)
        · exact widthP_no c1 en (fitsP_1 (fun x => k1 x.2)) (by omega)
      rw [e]
      refine ⟨fun h => absurd rfl h, fun _ => ?_⟩
      unfold secLo secHi at hf
      unfold Lib.decodeN
      rw [if_neg c1, if_neg (by omega), if_neg (by omega)]
      by_cases k : (1 < m ∧ b1 / 64 = 2) ∧ (2 < m ∧ b2 / 64 = 2) ∧ (3 < m ∧ b3 / 64 = 2)
      · rw [if_pos (by omega), if_neg]
        (repeat' split at hf) <;> omega
      · rw [if_neg (by omega)]
  have en : needN b0 = 0 := by unfold needN; rw [if_neg c2, if_neg c3, if_neg c4]
  have e : widthP m b0 b1 b2 b3 = 0 := by unfold widthP; rw [if_neg c1, en, if_pos (.inl rfl)]
  rw [e]
  refine ⟨fun h => absurd rfl h, fun _ => ?_⟩
  unfold Lib.decodeN
  rw [if_neg c1]
  by_cases k : b0 / 32 = 6 ∧ (1 < m ∧ b1 / 64 = 2)
  · rw [if_pos k, if_neg (by omega)]
  · rw [if_neg k, if_neg (by omega)]
    by_cases k2 : b0 / 8 = 30 ∧ (1 < m ∧ b1 / 64 = 2) ∧ (2 < m ∧ b2 / 64 = 2) ∧ (3 < m ∧ b3 / 64 = 2)
    · rw [if_pos k2, if_neg (by omega)]
    · rw [if_neg k2]

theorem lead_lo : ∀ x : Fin 256, 194 ≤ x.val → x.val ≤ 244 → Lib.accLo (Lib.firstT x.val / 16) = secLo x.val := by decide +kernel
theorem lead_hi : ∀ x : Fin 256, 194 ≤ x.val → x.val ≤ 244 → Lib.accHi (Lib.firstT x.val / 16) = secHi x.val := by decide +kernel
theorem lead_sz : ∀ x : Fin 256, 194 ≤ x.val → x.val ≤ 244 → Lib.firstT x.val % 8 = needN x.val := by decide +kernel
set_option maxHeartbeats 4000000 in
/-- FullRune says no just where what is left is the beginning of a sequence -/
theorem fullN_iff (m b0 b1 b2 b3 : Nat) (hm : 1 ≤ m) (h0 : b0 < 256) (h1 : b1 < 256) (h2 : b2 < 256) (h3 : b3 < 256) :
    fullN m b0 b1 b2 = false ↔ needN b0 ≠ 0 ∧ fitsP (needN b0 - 1) m b0 b1 b2 b3 = m := by
  by_cases c1 : b0 < 128
  · have en : needN b0 = 0 := by unfold needN; (repeat' split) <;> omega
    have e : fullN m b0 b1 b2 = true := by unfold fullN Lib.firstT; rw [if_neg (by omega), if_pos c1, if_pos (by omega)]
    simp [en, e]
  by_cases c5 : b0 < 194 ∨ 244 < b0
  · have en : needN b0 = 0 := by unfold needN; (repeat' split) <;> omega
    have ef : Lib.firstT b0 = 241 := by unfold Lib.firstT; (repeat' split) <;> omega
    have e : fullN m b0 b1 b2 = true := by unfold fullN; rw [if_neg (by omega), ef, if_pos (by omega)]
    simp [en, e]
  have hlo : Lib.accLo (Lib.firstT b0 / 16) = secLo b0 := lead_lo ⟨b0, h0⟩ (show 194 ≤ b0 by omega) (show b0 ≤ 244 by omega)
  have hhi : Lib.accHi (Lib.firstT b0 / 16) = secHi b0 := lead_hi ⟨b0, h0⟩ (show 194 ≤ b0 by omega) (show b0 ≤ 244 by omega)
  have hsz : Lib.firstT b0 % 8 = needN b0 := lead_sz ⟨b0, h0⟩ (show 194 ≤ b0 by omega) (show b0 ≤ 244 by omega)
  have hn2 : 2 ≤ needN b0 ∧ needN b0 ≤ 4 := by unfold needN; (repeat' split) <;> omega
  unfold fullN
  rw [if_neg (by omega), hlo, hhi, hsz]
  generalize needN b0 = n at hn2 ⊢
  by_cases k : n ≤ m
  · rw [if_pos k]
    constructor
    · intro h; cases h
    · rintro ⟨_, h⟩
      exfalso
      unfold fitsP at h
      (repeat' split at h) <;> omega
  · rw [if_neg k]
    have hs : secondN b0 b1 = true ↔ ¬ (b1 < secLo b0 ∨ secHi b0 < b1) := by rw [secondN_iff]; omega
    have hc : contN b2 = true ↔ ¬ (b2 < 128 ∨ 191 < b2) := by rw [contN_iff]; omega
    by_cases m1 : m = 1
    · subst m1
      rw [if_neg (by omega), if_neg (by omega), fitsP_1 (by omega)]
      simp; omega
    · by_cases k1 : b1 < secLo b0 ∨ secHi b0 < b1
      · rw [if_pos ⟨by omega, k1⟩]
        rw [fitsP_1 (fun x => (hs.1 x.2.2) k1)]
        simp; omega
      · rw [if_neg (by omega)]
        by_cases m2 : m = 2
        · subst m2
          rw [if_neg (by omega), fitsP_2 ⟨by omega, by omega, hs.2 k1⟩ (by omega)]
          simp; omega
        · obtain rfl : m = 3 := by omega
          by_cases k2 : b2 < 128 ∨ 191 < b2
          · rw [if_pos ⟨by omega, k2⟩, fitsP_2 ⟨by omega, by omega, hs.2 k1⟩ (fun x => (hc.1 x.2.2) k2)]
            simp
          · rw [if_neg (by omega), fitsP_3 ⟨by omega, by omega, hs.2 k1⟩ ⟨by omega, by omega, hc.2 k2⟩ (by omega)]
            simp; omega
end Go.Proofs.YtemnanhoiacphaaDoor

set_option linter.unusedVariables false
set_option linter.unusedSimpArgs false
namespace Go.Proofs.YtemnanhoiacphaaDoor
open Go.RowKit

theorem encs_one (l : List It) : ∀ u ∈ l.flatMap It.enc, u.oneCell' = true := by
  intro u hu
  simp only [List.mem_flatMap] at hu
  obtain ⟨p, _, hp⟩ := hu
  simp [It.enc] at hp
  rcases hp with rfl | rfl | rfl | rfl <;> rfl
theorem encs_length (l : List It) : (l.flatMap It.enc).length = l.length * 4 := by
  induction l with
  | nil => rfl
  | cons a l ih => rw [List.flatMap_cons, List.length_append, ih, List.length_cons]; simp [It.enc]; omega

/-- an item appended to a row of items of the call's own -/
theorem app_it (P : Program) (t e : TypeId) (ht : P.underlying t = some (.slice e)) (hinfo : (P.info? e).map (fun i => (i.zero, i.size, i.bytes)) = some (some (.agg #[.int .i64 0, .int .i64 0, .int .i32 0, .bool false]), 4, 24))
    {w : World} {base : Nat} {v : Value} {l : List It} (hown : w.ownsRow base e 4 v l.length (l.flatMap It.enc)) (hb : base ≤ w.heap.size) (x : It) (hl : l.length + 1 ≤ 5000000) :
    ∃ v' w', (Builtin.append_ #[t, t] t #[v, .slice (some ⟨w.heap.size, 0, none⟩) 1 1]).run P (w.alloc (.cells x.enc.toArray e)) = .ok v' w' ∧
      w'.ownsRow base e 4 v' (l ++ [x]).length ((l ++ [x]).flatMap It.enc) ∧ Only v.ownBlock.toList w w' ∧ (v'.ownBlock = v.ownBlock ∨ ∃ k, v'.ownBlock = some k ∧ w.heap.size ≤ k) := by
  have hO := (Only.refl [] w).alloc (.cells x.enc.toArray e)
  have hown2 : (w.alloc (.cells x.enc.toArray e)).ownsRow base e 4 v l.length (l.flatMap It.enc) := own_only hown hO (by simp)
  have hy : Rd (w.alloc (.cells x.enc.toArray e)) (w.heap.size + 1) 4 (some ⟨w.heap.size, 0, none⟩) 1 x.enc := Rd.whole (t := e) (Blk.new' _ _ _ rfl rfl) rfl
  obtain ⟨v', w', hrun, hown', hO', hat, _⟩ := run_append_row (P := P) base t t e (.agg #[.int .i64 0, .int .i64 0, .int .i32 0, .bool false]) 4 24 ht hinfo rfl (by omega) hown2 1 hy (fun u hu => encs_one [x] u (by simpa using hu)) (by simp only [maxLen]; omega) (by omega) (by simp; omega)
  refine ⟨v', w', hrun, ?_, ((Only.refl v.ownBlock.toList w).alloc _).trans hO', ?_⟩
  · rw [List.length_append, List.flatMap_append]; simpa using hown'
  · rcases hat with h | h
    · exact .inl h
    · exact .inr ⟨_, h, by simp⟩

/-- the reference's Complete, from a place on; f: a bound on the rounds -/
def complF (s : ByteArray) : Nat → Nat → List It × Nat
  | 0, p => ([], p)
  | f + 1, p =>
    if p < s.size then
      if widthS s p ≠ 0 then (⟨p, widthS s p, readS s p (widthS s p), false⟩ :: (complF s f (p + widthS s p)).1, (complF s f (p + widthS s p)).2)
      else if beginsS s p = s.size - p then ([], p)
      else (⟨p, 1, 65533, true⟩ :: (complF s f (p + 1)).1, (complF s f (p + 1)).2)
    else ([], p)
def complS (s : ByteArray) : List It × Nat := complF s s.size 0

theorem widthS_P (s : ByteArray) (p : Nat) : widthS s p = widthP (s.size - p) (byteAt s p) (byteAt s (p + 1)) (byteAt s (p + 2)) (byteAt s (p + 3)) := rfl
theorem widthS_fits (s : ByteArray) (p : Nat) (hp : p < s.size) (h : widthS s p ≠ 0) : p + widthS s p ≤ s.size ∧ 1 ≤ widthS s p ∧ widthS s p ≤ 4 := by
  have h1 := ((widthP_dec (s.size - p) _ _ _ _ (by omega) (byte_lt' s p) (byte_lt' s (p + 1)) (byte_lt' s (p + 2)) (byte_lt' s (p + 3))).1 (by rw [← widthS_P]; exact h)).2
  rw [← widthS_P] at h1
  have h2 : widthS s p ≤ 4 := by unfold widthS; have := needN_le (byteAt s p); (repeat' split) <;> omega
  omega
theorem complF_more (s : ByteArray) : ∀ (f g p : Nat), s.size ≤ p + f → s.size ≤ p + g → complF s f p = complF s g p
  | 0, 0, p, _, _ => rfl
  | 0, g + 1, p, h, _ => by rw [complF, complF, if_neg (by omega)]
  | f + 1, 0, p, _, h => by rw [complF, complF, if_neg (by omega)]
  | f + 1, g + 1, p, h1, h2 => by
    rw [complF, complF]
    by_cases hp : p < s.size
    · rw [if_pos hp, if_pos hp]
      by_cases hw : widthS s p ≠ 0
      · have := widthS_fits s p hp hw
        rw [if_pos hw, if_pos hw, complF_more s f g _ (by omega) (by omega)]
      · rw [if_neg hw, if_neg hw, complF_more s f g _ (by omega) (by omega)]
    · rw [if_neg hp, if_neg hp]

theorem complF_good {s : ByteArray} {p k : Nat} (hp : p < s.size) (hk : k = widthS s p) (h0 : k ≠ 0) : complF s (s.size - p) p = (⟨p, k, readS s p k, false⟩ :: (complF s (s.size - (p + k)) (p + k)).1, (complF s (s.size - (p + k)) (p + k)).2) := by
  have e : complF s (s.size - p) p = complF s (s.size - (p + 1) + 1) p := by congr 1; omega
  have := widthS_fits s p hp (by rw [← hk]; exact h0)
  rw [e, complF, if_pos hp, ← hk, if_pos h0, complF_more s (s.size - (p + 1)) (s.size - (p + k)) (p + k) (by omega) (by omega)]
theorem complF_held {s : ByteArray} {p : Nat} (hp : p < s.size) (hk : 0 = widthS s p) (hb : beginsS s p = s.size - p) : complF s (s.size - p) p = ([], p) := by
  have e : complF s (s.size - p) p = complF s (s.size - (p + 1) + 1) p := by congr 1; omega
  rw [e, complF, if_pos hp, ← hk, if_neg (by simp), if_pos hb]
theorem complF_bad {s : ByteArray} {p : Nat} (hp : p < s.size) (hk : 0 = widthS s p) (hb : beginsS s p ≠ s.size - p) : complF s (s.size - p) p = (⟨p, 1, 65533, true⟩ :: (complF s (s.size - (p + 1)) (p + 1)).1, (complF s (s.size - (p + 1)) (p + 1)).2) := by
  have e : complF s (s.size - p) p = complF s (s.size - (p + 1) + 1) p := by congr 1; omega
  rw [e, complF, if_pos hp, ← hk, if_neg (by simp), if_neg hb]

set_option maxRecDepth 100000 in
set_option maxHeartbeats 4000000 in
theorem complete_any (s : ByteArray) (hs : s.size ≤ 1048576) (w : World) :
    Calls Tryd.prog 72 #[.string s] w fun e w' => ∃ v, e = .returned (.tuple #[v, .int .i64 ((complS s).2 : Int)]) ∧ w'.ownsRow w.heap.size 171 4 v (complS s).1.length ((complS s).1.flatMap It.enc) ∧ Only [] w w' ∧ (complS s).2 ≤ s.size := by
  go_enter Tryd.func72, Tryd.ntmps72
  go_wp2_with (fail)
  go_loopw [5, 4] (fun vp v wr => ∃ (p : Nat) (l : List It), vp = .int .i64 (p : Int) ∧ p ≤ s.size ∧ l.length ≤ p ∧ wr.ownsRow w.heap.size 171 4 v l.length (l.flatMap It.enc) ∧ l ++ (complF s (s.size - p) p).1 = (complS s).1 ∧ (complF s (s.size - p) p).2 = (complS s).2 ∧ Only [] w wr) (fun vp _ _ => s.size - (intOf vp).toNat)
  case atStart => exact ⟨0, [], rfl, by omega, by simp, ⟨rfl, .inl ⟨rfl, rfl⟩⟩, by simp [complS], by simp [complS], .refl _ _⟩
  case round =>
    obtain ⟨p, l, rfl, hp, hlp, hown, hq1, hq2, hO⟩ := hrel
    have Hq1 := Lib.hid hq1
    have Hq2 := Lib.hid hq2
    clear hq1 hq2
    by_cases hlt : p < s.size
    · go_wp2_with (fail)
      refine (width_any s p hlt (by omega) _).mono ?_
      rintro e w2 ⟨rfl, rfl⟩
      have hwf := widthS_fits s p hlt
      obtain ⟨k, hk⟩ : ∃ k, k = widthS s p := ⟨_, rfl⟩
      rw [← hk] at hwf ⊢
      have Hk := Lib.hid hk
      clear hk
      by_cases h0 : k = 0
      · subst h0
        clear hwf
        go_wp2_with (fail)
        refine (begins_any s p hlt (by omega) _).mono ?_
        rintro e w3 ⟨rfl, rfl⟩
        obtain ⟨b, hb⟩ : ∃ b, b = beginsS s p := ⟨_, rfl⟩
        rw [← hb]
        have Hb := Lib.hid hb
        clear hb
        by_cases hh : b = s.size - p
        · have hh' : (b : Int) = (s.size : Int) - (p : Int) := by omega
          have Hh := Lib.hid hh
          have Hh' := Lib.hid hh'
          have ht : ((b : Int) == (s.size : Int) - (p : Int)) = true := by simp; exact hh'
          clear hh hh'
          go_wp2_with (fail)
          go_ret2
          rw [← Hq1.out, ← Hq2.out, complF_held hlt Hk.out (by rw [← Hb.out]; exact Hh.out), List.append_nil]
          exact ⟨_, rfl, hown, hO, hp⟩
        · have ht : ((b : Int) == (s.size : Int) - (p : Int)) = false := by simp; omega
          have Hh := Lib.hid hh
          clear hh
          obtain ⟨v', w', hrun, hown', hO', hat⟩ := app_it Tryd.prog 135 171 Tryd.underlying135 (by kernel_rfl) hown hO.size ⟨p, 1, 65533, true⟩ (by omega)
          have hOw : Only [] w w' := hO.trans' hO' (by intro x hx; exact .inr (own_lt hown (by simpa using hx)).1)
          have Hrun := Lib.hid hrun
          have Hown := Lib.hid hown'
          clear hrun hown' hO' hat hown
          go_wp2_with ((at_builtin; refine wpList_append_run (o := ⟨some 43, _, _, _, _, _⟩) (by rfl) (.tmp 39) (.tmp 42) 135 135 (by rfl) (by rfl) (by rfl) Hrun.out ?_))
          go_roundw
          case rel =>
            have e := complF_bad hlt Hk.out (by rw [← Hb.out]; exact Hh.out)
            exact ⟨p + 1, l ++ [⟨p, 1, 65533, true⟩], by go_num, by omega, by simp; omega, Hown.out, by rw [← Hq1.out, e, List.append_assoc]; rfl, by rw [← Hq2.out, e], hOw⟩
          case measure => simp [intOf]; omega
      · obtain ⟨f1, f2, f3⟩ := hwf h0
        have h0' : (0 : Int) < (k : Int) := by omega
        clear hwf
        go_wp2_with (fail)
        refine (read_any s p k ⟨f2, f3⟩ f1 (by omega) _).mono ?_
        rintro e w3 ⟨rfl, rfl⟩
        obtain ⟨v', w', hrun, hown', hO', hat⟩ := app_it Tryd.prog 135 171 Tryd.underlying135 (by kernel_rfl) hown hO.size ⟨p, k, readS s p k, false⟩ (by omega)
        have hOw : Only [] w w' := hO.trans' hO' (by intro x hx; exact .inr (own_lt hown (by simpa using hx)).1)
        have Hrun := Lib.hid hrun
        have Hown := Lib.hid hown'
        clear hrun hown' hO' hat hown
        go_wp2_with ((at_builtin; refine wpList_append_run (o := ⟨some 25, _, _, _, _, _⟩) (by rfl) (.tmp 16) (.tmp 24) 135 135 (by rfl) (by rfl) (by rfl) Hrun.out ?_))
        go_roundw
        case rel =>
          have e := complF_good hlt Hk.out h0
          exact ⟨p + k, l ++ [⟨p, k, readS s p k, false⟩], by go_num, by omega, by simp; omega, Hown.out, by rw [← Hq1.out, e, List.append_assoc]; rfl, by rw [← Hq2.out, e], hOw⟩
        case measure => simp [intOf]; omega
    · obtain rfl : p = s.size := by omega
      have he : complF s (s.size - s.size) s.size = ([], s.size) := by rw [Nat.sub_self]; rfl
      have He := Lib.hid he
      clear he
      go_wp2_with (fail)
      go_ret2
      rw [← Hq1.out, ← Hq2.out, He.out, List.append_nil]
      exact ⟨_, rfl, hown, hO, Nat.le_refl _⟩

/-- bytes of which none is a rune -/
def badsF (s : ByteArray) : Nat → Nat → List It
  | 0, _ => []
  | f + 1, p => if p < s.size then ⟨p, 1, 65533, true⟩ :: badsF s f (p + 1) else []
theorem badsF_step {s : ByteArray} {p : Nat} (hp : p < s.size) : badsF s (s.size - p) p = ⟨p, 1, 65533, true⟩ :: badsF s (s.size - (p + 1)) (p + 1) := by
  have e : s.size - p = s.size - (p + 1) + 1 := by omega
  rw [e, badsF, if_pos hp]
def refItems (s : ByteArray) : List It := (complS s).1 ++ badsF s (s.size - (complS s).2) (complS s).2

/-- a list of items is no longer than the bytes behind it -/
theorem complF_len (s : ByteArray) : ∀ (f p : Nat), p ≤ s.size → p + (complF s f p).1.length ≤ (complF s f p).2 ∧ (complF s f p).2 ≤ s.size
  | 0, p, h => by simp [complF]; exact h
  | f + 1, p, h => by
    rw [complF]
    by_cases hp : p < s.size
    · rw [if_pos hp]
      by_cases hw : widthS s p ≠ 0
      · have h1 := widthS_fits s p hp hw
        rw [if_pos hw]
        have := complF_len s f (p + widthS s p) (by omega)
        simp only [List.length_cons]
        omega
      · rw [if_neg hw]
        by_cases hb : beginsS s p = s.size - p
        · rw [if_pos hb]; simp; omega
        · rw [if_neg hb]
          have := complF_len s f (p + 1) (by omega)
          simp only [List.length_cons]
          omega
    · rw [if_neg hp]; simp; omega

set_option maxRecDepth 100000 in
set_option maxHeartbeats 4000000 in
theorem refTail_any (s : ByteArray) (hs : s.size ≤ 1048576) (w : World) :
    Calls Tryd.prog 55 #[.string s] w fun e w' => e = .returned (.int .i64 ((s.size - (complS s).2 : Nat) : Int)) ∧ Only [] w w' := by
  obtain ⟨R, hR⟩ : ∃ R, R = s.size - (complS s).2 := ⟨_, rfl⟩
  rw [← hR]
  have HR := Lib.hid hR
  clear hR
  go_enter Tryd.func55, Tryd.ntmps55
  go_wp2_with (fail)
  refine (complete_any s hs w).mono ?_
  rintro e w1 ⟨v0, rfl, hown0, hO0, hle⟩
  obtain ⟨a, ha⟩ : ∃ a, a = (complS s).2 := ⟨_, rfl⟩
  rw [← ha] at hle ⊢
  have Ha := Lib.hid ha
  clear ha hown0
  go_wp2_with (fail)
  go_ret
  exact ⟨ret_int (by rw [HR.out, ← Ha.out]; omega), hO0⟩

set_option maxRecDepth 100000 in
set_option maxHeartbeats 4000000 in
theorem beginning_any (s : ByteArray) (w : World) (hT : Tabs w) :
    Calls Tryd.prog 45 #[.string s] w fun e w' => e = .returned (.bool (beginsGo s)) ∧ Only [] w w' := by
  by_cases h0 : s.size = 0
  · have hse : s = ByteArray.mk #[] := by
      obtain ⟨⟨l⟩⟩ := s
      have : l = [] := List.eq_nil_of_length_eq_zero h0
      rw [this]
    subst hse
    go_enter Tryd.func45, Tryd.ntmps45
    go_wp2_with (fail)
    go_ret
    exact ⟨rfl, .refl _ _⟩
  · have hne : s.toList.isEmpty = false := by
      rw [Lib.toList_data]
      cases h : s.data.toList with
      | nil => exact absurd (by rw [Lib.size_eq, h]; rfl) h0
      | cons _ _ => rfl
    have hres : beginsGo s = !fullGo s := by unfold beginsGo; rw [decide_eq_true h0, Bool.true_and]
    rw [hres]
    clear hres
    go_enter Tryd.func45, Tryd.ntmps45
    go_wp2_with (fail)
    refine (full_any s w hT).mono ?_
    rintro e w2 ⟨rfl, hO⟩
    go_wp2_with (fail)
    go_ret
    exact ⟨rfl, hO⟩
end Go.Proofs.YtemnanhoiacphaaDoor

set_option linter.unusedVariables false
set_option linter.unusedSimpArgs false
namespace Go.Proofs.YtemnanhoiacphaaDoor
open Go.RowKit

def tailFrom (s : ByteArray) : Nat → Nat
  | 0 => 0
  | n + 1 => if beginsGo (s.extract (s.size - (n + 1)) s.size) = true then n + 1 else tailFrom s n
def tailU (s : ByteArray) : Nat := tailFrom s (min 3 s.size)

set_option maxRecDepth 100000 in
set_option maxHeartbeats 4000000 in
theorem tail_any (s : ByteArray) (hs : s.size ≤ 140737488351232) (w : World) (hT : Tabs w) :
    Calls Tryd.prog 18 #[.string s] w fun e w' => e = .returned (.int .i64 (tailU s : Int)) ∧ Only [] w w' := by
  obtain ⟨R, hR⟩ : ∃ R, R = tailU s := ⟨_, rfl⟩
  rw [← hR]
  have HR := Lib.hid hR
  clear hR
  go_enter Tryd.func18, Tryd.ntmps18
  go_wp2_with (fail)
  go_loopw [3] (fun vn wr => ∃ n : Nat, vn = .int .i64 (n : Int) ∧ n ≤ 3 ∧ n ≤ s.size ∧ tailFrom s n = tailU s ∧ Only [] w wr) (fun vn _ => (intOf vn).toNat)
  case atStart => exact ⟨min 3 s.size, by apply congrArg (Value.int .i64); (try split) <;> omega, by omega, by omega, rfl, .refl _ _⟩
  case round =>
    obtain ⟨n, rfl, h3, hns, hq, hO⟩ := hrel
    have Hq := Lib.hid hq
    clear hq
    cases n with
    | zero =>
      go_wp2_with (fail)
      go_ret
      exact ⟨ret_int (by rw [HR.out, ← Hq.out]; rfl), hO⟩
    | succ n =>
      obtain ⟨q, hq⟩ : ∃ q, q = s.size - (n + 1) := ⟨_, rfl⟩
      have hq' : (s.size : Int) - ((n + 1 : Nat) : Int) = (q : Int) := by omega
      have hq2 : q ≤ s.size := by omega
      obtain ⟨m, hm⟩ : ∃ m, m = n + 1 := ⟨_, rfl⟩
      rw [← hm] at hq'
      rw [← hm]
      have hm0 : 0 < m := by omega
      have Hm := Lib.hid hm
      have Hqq := Lib.hid hq
      clear hq hm
      go_wp2_with (fail)
      refine (beginning_any _ _ (hT.only hO (by simp) (by simp))).mono ?_
      rintro e w2 ⟨rfl, hO2⟩
      obtain ⟨b, hb⟩ : ∃ b, b = beginsGo (s.extract q s.size) := ⟨_, rfl⟩
      rw [← hb]
      have Hb := Lib.hid hb
      clear hb
      cases b with
      | true =>
        go_wp2_with (fail)
        go_ret
        exact ⟨ret_int (by rw [HR.out, ← Hq.out, tailFrom, ← Hqq.out, if_pos Hb.out.symm, Hm.out]), hO.trans hO2⟩
      | false =>
        go_wp2_with (fail)
        go_roundw
        case rel => exact ⟨n, by have := Hm.out; go_num, by omega, by omega, by rw [← Hq.out, tailFrom, ← Hqq.out, if_neg (by rw [← Hb.out]; simp)], hO.trans hO2⟩
        case measure => simp [intOf]; omega

/-! ### the plain law: what is held -/
def Held (s : ByteArray) (q : Nat) : Prop := q < s.size ∧ beginsS s q = s.size - q
theorem get_extract (s : ByteArray) (q i : Nat) : ((s.extract q s.size).get! i).toNat = byteAt s (q + i) := by
  unfold byteAt
  rw [← Lib.getD_get!', ← Lib.getD_get!']
  have e : (s.extract q s.size).data.toList = s.data.toList.drop q := by
    rw [ByteArray.data_extract, Array.toList_extract]
    show ((s.data.toList).drop q).take (s.size - q) = _
    exact List.take_of_length_le (by rw [List.length_drop, ← Lib.size_eq]; omega)
  rw [e, Lib.getD_dropU]
theorem begins_held (s : ByteArray) (q : Nat) (hq : q < s.size) : beginsGo (s.extract q s.size) = true ↔ Held s q := by
  have hsz : (s.extract q s.size).size = s.size - q := by simp [ByteArray.size_extract]
  have hf := fullN_iff (s.size - q) (byteAt s q) (byteAt s (q + 1)) (byteAt s (q + 2)) (byteAt s (q + 3)) (by omega) (byte_lt' _ _) (byte_lt' _ _) (byte_lt' _ _) (byte_lt' _ _)
  have e : beginsGo (s.extract q s.size) = !fullN (s.size - q) (byteAt s q) (byteAt s (q + 1)) (byteAt s (q + 2)) := by
    unfold beginsGo fullGo
    rw [hsz, decide_eq_true (by omega), Bool.true_and, get_extract, get_extract, get_extract, Nat.add_zero]
  rw [e, Bool.not_eq_true', hf]
  unfold Held beginsS
  constructor
  · rintro ⟨h1, h2⟩
    exact ⟨hq, by rw [if_neg h1]; exact h2⟩
  · rintro ⟨_, h2⟩
    by_cases h1 : needN (byteAt s q) = 0
    · rw [if_pos h1] at h2; omega
    · rw [if_neg h1] at h2; exact ⟨h1, h2⟩
theorem Held.parts {s : ByteArray} {q : Nat} (h : Held s q) : needN (byteAt s q) ≠ 0 ∧ fitsS s q (needN (byteAt s q) - 1) = s.size - q := by
  obtain ⟨h1, h2⟩ := h
  unfold beginsS at h2
  by_cases h3 : needN (byteAt s q) = 0
  · rw [if_pos h3] at h2; omega
  · rw [if_neg h3] at h2; exact ⟨h3, h2⟩
theorem need_lead {c : Nat} (h : needN c ≠ 0) : 194 ≤ c := by
  unfold needN at h; (repeat' split at h) <;> omega
theorem need_two {c : Nat} (h : needN c ≠ 0) : 2 ≤ needN c := by
  unfold needN at h ⊢; (repeat' split) <;> simp_all
theorem sec_cont {c d : Nat} (h : secondN c d = true) : 128 ≤ d ∧ d ≤ 191 := by
  have := (secondN_iff c d).1 h
  unfold secLo secHi at this
  (repeat' split at this) <;> omega
/-- what fits says of the bytes behind the first -/
theorem fits_bytes (most m b0 b1 b2 b3 : Nat) :
    (2 ≤ fitsP most m b0 b1 b2 b3 → 1 < most ∧ 1 < m ∧ 128 ≤ b1 ∧ b1 ≤ 191) ∧ (3 ≤ fitsP most m b0 b1 b2 b3 → 2 < most ∧ 2 < m ∧ 128 ≤ b2 ∧ b2 ≤ 191) ∧ (4 ≤ fitsP most m b0 b1 b2 b3 → 3 < most ∧ 3 < m ∧ 128 ≤ b3 ∧ b3 ≤ 191) ∧ fitsP most m b0 b1 b2 b3 ≤ 4 ∧ 1 ≤ fitsP most m b0 b1 b2 b3 := by
  unfold fitsP
  by_cases h1 : 1 < most ∧ 1 < m ∧ secondN b0 b1 = true
  · have k1 := sec_cont h1.2.2
    rw [if_pos h1]
    by_cases h2 : 2 < most ∧ 2 < m ∧ contN b2 = true
    · have k2 := (contN_iff _).1 h2.2.2
      rw [if_pos h2]
      by_cases h3 : 3 < most ∧ 3 < m ∧ contN b3 = true
      · have k3 := (contN_iff _).1 h3.2.2
        rw [if_pos h3]; omega
      · rw [if_neg h3]; omega
    · rw [if_neg h2]; omega
  · rw [if_neg h1]; omega
theorem Held.cont {s : ByteArray} {q : Nat} (h : Held s q) : s.size - q ≤ 3 ∧ ∀ i, q < i → i < s.size → 128 ≤ byteAt s i ∧ byteAt s i ≤ 191 := by
  obtain ⟨h1, h2⟩ := h.parts
  have hq := h.1
  have hb := fits_bytes (needN (byteAt s q) - 1) (s.size - q) (byteAt s q) (byteAt s (q + 1)) (byteAt s (q + 2)) (byteAt s (q + 3))
  have hn := needN_le (byteAt s q)
  have h2' : fitsP (needN (byteAt s q) - 1) (s.size - q) (byteAt s q) (byteAt s (q + 1)) (byteAt s (q + 2)) (byteAt s (q + 3)) = s.size - q := h2
  rw [h2'] at hb
  refine ⟨by omega, fun i h3 h4 => ?_⟩
  rcases (show i = q + 1 ∨ i = q + 2 ∨ i = q + 3 by omega) with rfl | rfl | rfl
  · have := hb.1 (by omega); omega
  · have := hb.2.1 (by omega); omega
  · have := hb.2.2.1 (by omega); omega
theorem Held.width {s : ByteArray} {q : Nat} (h : Held s q) : 0 = widthS s q := by
  obtain ⟨h1, h2⟩ := h.parts
  have h3 := need_lead h1
  have h4 := need_two h1
  have hc := h.cont
  have hq := h.1
  unfold widthS
  rw [if_neg (by omega), if_pos]
  refine .inr ?_
  have hb := fits_bytes (needN (byteAt s q)) (s.size - q) (byteAt s q) (byteAt s (q + 1)) (byteAt s (q + 2)) (byteAt s (q + 3))
  have hb2 := fits_bytes (needN (byteAt s q) - 1) (s.size - q) (byteAt s q) (byteAt s (q + 1)) (byteAt s (q + 2)) (byteAt s (q + 3))
  have h2' : fitsP (needN (byteAt s q) - 1) (s.size - q) (byteAt s q) (byteAt s (q + 1)) (byteAt s (q + 2)) (byteAt s (q + 3)) = s.size - q := h2
  rw [h2'] at hb2
  show fitsP (needN (byteAt s q)) (s.size - q) (byteAt s q) (byteAt s (q + 1)) (byteAt s (q + 2)) (byteAt s (q + 3)) < needN (byteAt s q)
  generalize fitsP (needN (byteAt s q)) (s.size - q) (byteAt s q) (byteAt s (q + 1)) (byteAt s (q + 2)) (byteAt s (q + 3)) = k at hb ⊢
  generalize needN (byteAt s q) = n at h1 h4 hb hb2 ⊢
  generalize s.size - q = m at hb hb2 ⊢
  omega
theorem width_cont {s : ByteArray} {p : Nat} (hk : widthS s p ≠ 0) : ∀ i, p < i → i < p + widthS s p → 128 ≤ byteAt s i ∧ byteAt s i ≤ 191 := by
  intro i h1 h2
  unfold widthS at hk h2
  by_cases c : byteAt s p < 128
  · rw [if_pos c] at h2; omega
  · rw [if_neg c] at hk h2
    by_cases c2 : needN (byteAt s p) = 0 ∨ fitsS s p (needN (byteAt s p)) < needN (byteAt s p)
    · rw [if_pos c2] at hk; omega
    · rw [if_neg c2] at h2
      have hb := fits_bytes (needN (byteAt s p)) (s.size - p) (byteAt s p) (byteAt s (p + 1)) (byteAt s (p + 2)) (byteAt s (p + 3))
      have hn := needN_le (byteAt s p)
      have c3 : ¬ fitsP (needN (byteAt s p)) (s.size - p) (byteAt s p) (byteAt s (p + 1)) (byteAt s (p + 2)) (byteAt s (p + 3)) < needN (byteAt s p) := fun h => c2 (.inr h)
      rcases (show i = p + 1 ∨ i = p + 2 ∨ i = p + 3 by omega) with rfl | rfl | rfl
      · have := hb.1 (by omega); omega
      · have := hb.2.1 (by omega); omega
      · have := hb.2.2.1 (by omega); omega
theorem Held.end_ {s : ByteArray} {q : Nat} (h : Held s q) : ∀ (d p : Nat), p + d = q → (complF s (s.size - p) p).2 = q := by
  intro d
  induction d using Nat.strongRecOn with
  | ind d ih =>
    intro p hp
    have hq := h.1
    have hlead := need_lead h.parts.1
    by_cases h0 : d = 0
    · subst h0
      obtain rfl : p = q := by omega
      rw [complF_held hq h.width h.2]
    · by_cases hk : widthS s p = 0
      · by_cases hb : beginsS s p = s.size - p
        · exfalso
          have := (show Held s p from ⟨by omega, hb⟩).cont.2 q (by omega) hq
          omega
        · rw [complF_bad (by omega) hk.symm hb]
          exact ih (d - 1) (by omega) (p + 1) (by omega)
      · have hw := widthS_fits s p (by omega) hk
        rw [complF_good (by omega) rfl hk]
        by_cases hle : p + widthS s p ≤ q
        · exact ih (d - widthS s p) (by omega) _ (by omega)
        · exfalso
          have := width_cont hk q (by omega) (by omega)
          omega
theorem no_held {s : ByteArray} (hn : ∀ q, ¬ Held s q) : ∀ (d p : Nat), p + d = s.size → (complF s (s.size - p) p).2 = s.size := by
  intro d
  induction d using Nat.strongRecOn with
  | ind d ih =>
    intro p hp
    by_cases h0 : d = 0
    · subst h0
      obtain rfl : p = s.size := by omega
      rw [Nat.sub_self]; rfl
    · by_cases hk : widthS s p = 0
      · by_cases hb : beginsS s p = s.size - p
        · exact absurd ⟨by omega, hb⟩ (hn p)
        · rw [complF_bad (by omega) hk.symm hb]
          exact ih (d - 1) (by omega) (p + 1) (by omega)
      · have hw := widthS_fits s p (by omega) hk
        rw [complF_good (by omega) rfl hk]
        exact ih (d - widthS s p) (by omega) _ (by omega)
theorem tailFrom_none {s : ByteArray} (hn : ∀ q, ¬ Held s q) : ∀ n, n ≤ s.size → tailFrom s n = 0
  | 0, _ => rfl
  | n + 1, h => by rw [tailFrom, if_neg (by rw [begins_held s _ (by omega)]; exact hn _)]; exact tailFrom_none hn n (by omega)
theorem tailFrom_held {s : ByteArray} {q : Nat} (h : Held s q) : ∀ n, n ≤ s.size → s.size - q ≤ n → tailFrom s n = s.size - q
  | 0, _, h2 => by have := h.1; omega
  | n + 1, h1, h2 => by
    have hq := h.1
    rw [tailFrom]
    by_cases hk : s.size - (n + 1) = q
    · rw [if_pos (by rw [begins_held s _ (by omega), hk]; exact h)]; omega
    · rw [if_neg]
      · exact tailFrom_held h n (by omega) (by omega)
      · rw [begins_held s _ (by omega)]
        intro h'
        have e1 := h.end_ q 0 (by omega)
        have e2 := h'.end_ (s.size - (n + 1)) 0 (by omega)
        omega
/-- utf.Tail tells what the reference's Complete holds -/
theorem tailU_eq (s : ByteArray) : tailU s = s.size - (complS s).2 := by
  unfold tailU complS
  by_cases hx : ∃ q, Held s q
  · obtain ⟨q, h⟩ := hx
    have h1 := h.end_ q 0 (by omega)
    rw [Nat.sub_zero] at h1
    rw [h1, tailFrom_held h _ (by omega) (by have := h.cont.1; have := h.1; omega)]
  · have hn : ∀ q, ¬ Held s q := fun q h => hx ⟨q, h⟩
    have h1 := no_held hn s.size 0 (by omega)
    rw [Nat.sub_zero] at h1
    rw [h1, tailFrom_none hn _ (by omega), Nat.sub_self]
end Go.Proofs.YtemnanhoiacphaaDoor
