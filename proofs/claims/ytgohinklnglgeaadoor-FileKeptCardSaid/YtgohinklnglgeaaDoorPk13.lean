/- Several texts in one: Chapter 6, plain: a file that is taken is what is saved of its data, and the other way.; Chapter 6: what a refused file's row means, plain: a fault's place.; Chapter 6, plain: loadE case by case; a turned bit.; Chapter 6: Load.; Chapter 6: bytes behind bytes; the document's spans, Save.; Chapter 6: the document's Save. -/
import Derived.Test.YtgohinklnglgeaaDoorPk10
import Derived.Test.YtgohinklnglgeaaDoorPk12
import Derived.Test.YtgohinklnglgeaaDoorPk2
import Derived.Test.YtgohinklnglgeaaDoorPk11
import Derived.Deep.RegionHeld3
import Derived.Test.YtgohinklnglgeaaDoorApStepK
import Derived.Deep.RegionLaw
import Derived.Deep.DeepCutAuto
import Derived.Deep.CutBlock
import Derived.Lib.SlBytesConst
set_option linter.unusedVariables false
set_option linter.unusedSimpArgs false
namespace Go.Proofs.YtgohinklnglgeaaDoor

/-- some bytes stand at a place -/
def Std (f : List UInt8) (i : Nat) (l : List UInt8) : Prop := ∃ p q, f = p ++ l ++ q ∧ p.length = i
theorem Std.app {f : List UInt8} {i : Nat} {l m : List UInt8} : Std f i (l ++ m) ↔ Std f i l ∧ Std f (i + l.length) m := by
  constructor
  · rintro ⟨p, q, rfl, rfl⟩
    exact ⟨⟨p, m ++ q, by simp, rfl⟩, ⟨p ++ l, q, by simp, by simp⟩⟩
  · rintro ⟨⟨p, q, h1, rfl⟩, ⟨p', q', h2, h3⟩⟩
    refine ⟨p, q', ?_, rfl⟩
    have e : p ++ l ++ q = p' ++ (m ++ q') := by rw [← h1, h2, List.append_assoc]
    have := (List.append_inj e (by rw [List.length_append, h3])).1
    rw [h2, ← this]; simp
theorem Std.nil {f : List UInt8} {i : Nat} (h : i ≤ f.length) : Std f i [] := ⟨f.take i, f.drop i, by simp, by simp; omega⟩
theorem Std.le {f : List UInt8} {i : Nat} {l : List UInt8} (h : Std f i l) : i + l.length ≤ f.length := by
  obtain ⟨p, q, rfl, rfl⟩ := h; simp
theorem Std.more {f : List UInt8} {i : Nat} {l : List UInt8} (h : Std f i l) (r : List UInt8) : Std (f ++ r) i l := by
  obtain ⟨p, q, rfl, rfl⟩ := h; exact ⟨p, q ++ r, by simp, rfl⟩
theorem Std.all {f l : List UInt8} (h : Std f 0 l) (hl : l.length = f.length) : f = l := by
  obtain ⟨p, q, rfl, hp⟩ := h
  obtain rfl := List.eq_nil_of_length_eq_zero hp
  obtain rfl : q = [] := List.eq_nil_of_length_eq_zero (by rw [List.length_append, List.length_append] at hl; simp only [List.length_nil] at hl; omega)
  simp
theorem Std.of {p l q : List UInt8} {i : Nat} (h : p.length = i) : Std (p ++ l ++ q) i l := ⟨p, q, rfl, h⟩
theorem Std.drop {f : List UInt8} {i : Nat} {l : List UInt8} (h : Std f i l) : (f.drop i).take l.length = l := by
  obtain ⟨p, q, rfl, rfl⟩ := h; simp
theorem Std.mk {f : List UInt8} {i k : Nat} (h : i + k ≤ f.length) : Std f i ((f.drop i).take k) :=
  ⟨f.take i, (f.drop i).drop k, by rw [List.append_assoc, List.take_append_drop, List.take_append_drop], by simp; omega⟩
theorem be4_of (l : List UInt8) (h : l.length = 4) : be4 (beN l) = l := by
  match l, h with
  | [a, b, c, d], _ =>
    have ha := a.toNat_lt; have hb := b.toNat_lt; have hc := c.toNat_lt; have hd := d.toNat_lt
    simp only [beN, List.foldl_cons, List.foldl_nil, be4, List.cons.injEq, and_true]
    refine ⟨?_, ?_, ?_, ?_⟩ <;> (apply UInt8.toNat_inj.1; simp only [UInt8.toNat_ofNat']; omega)
/-- a step of the reader: what it takes, how that is written -/
structure Step {α : Type} (g : List UInt8 → RS → α × RS) (ok : α → Prop) (enc : α → List UInt8) : Prop where
  iff : ∀ f i x j, i ≤ f.length → (g f ⟨i, none⟩ = (x, ⟨j, none⟩) ↔ ok x ∧ j = i + (enc x).length ∧ Std f i (enc x))
  stick : ∀ f s, s.bad.isSome = true → (g f s).2 = s
theorem Step.bad {α : Type} {g : List UInt8 → RS → α × RS} {ok : α → Prop} {enc : α → List UInt8} (h : Step g ok enc) {f : List UInt8} {s : RS} (hb : (g f s).2.bad = none) : s.bad = none := by
  cases hs : s.bad with
  | none => rfl
  | some x => rw [h.stick f s (by rw [hs]; rfl)] at hb; rw [hs] at hb; cases hb
theorem Step.read {α : Type} {g : List UInt8 → RS → α × RS} {ok : α → Prop} {enc : α → List UInt8} (h : Step g ok enc) {f : List UInt8} {s : RS} (hi : s.at_ ≤ f.length) (hb : (g f s).2.bad = none) :
    s.bad = none ∧ ok (g f s).1 ∧ (g f s).2.at_ = s.at_ + (enc (g f s).1).length ∧ Std f s.at_ (enc (g f s).1) := by
  have h0 := h.bad hb
  obtain ⟨i, b⟩ := s
  simp only at h0 hi; subst h0
  obtain ⟨x, j, b⟩ : ∃ x, x = g f ⟨i, none⟩ := ⟨_, rfl⟩
  have h1 := (h.iff f i (g f ⟨i, none⟩).1 (g f ⟨i, none⟩).2.at_ hi).1 (by
    rcases hg : g f ⟨i, none⟩ with ⟨x, j, b⟩
    rw [hg] at hb; simp only at hb; subst hb; rfl)
  exact ⟨rfl, h1⟩
theorem Step.go {α : Type} {g : List UInt8 → RS → α × RS} {ok : α → Prop} {enc : α → List UInt8} (h : Step g ok enc) {f : List UInt8} {i : Nat} {x : α} (hx : ok x) (hs : Std f i (enc x)) : g f ⟨i, none⟩ = (x, ⟨i + (enc x).length, none⟩) :=
  (h.iff f i x _ (by have := hs.le; omega)).2 ⟨hx, rfl, hs⟩
theorem numStep (m y : Nat) (hm : m < 4294967296) : Step (fun f s => numS f m y s) (fun v => v ≤ m) be4 where
  stick f s h := by rw [numS_stick f m y s h]
  iff f i x j hi := by
    constructor
    · intro h
      have hg : ∀ G, G = getVal f (i : Int) → (if G.2.2 ≠ 0 then (0, RS.refuse ⟨i, none⟩ f.length 10) else if m < G.1 then (0, RS.refuse ⟨i, none⟩ i y) else (G.1, ⟨G.2.1, none⟩)) = (x, (⟨j, none⟩ : RS)) := by rintro G rfl; exact h
      by_cases h4 : f.length < i + 4
      · have e : getVal f (i : Int) = (0, 0, 10) := by unfold getVal; rw [if_neg (by omega), if_pos (by omega)]
        have := hg _ e.symm
        rw [if_pos (by simp)] at this
        simp [RS.refuse] at this
      · have e : getVal f (i : Int) = (numAt f i, i + 4, 0) := by unfold getVal; rw [if_neg (by omega), if_neg (by omega), Int.toNat_natCast]
        have := hg _ e.symm
        rw [if_neg (by simp)] at this
        simp only at this
        by_cases hk : m < numAt f i
        · rw [if_pos hk] at this; simp [RS.refuse] at this
        · rw [if_neg hk] at this
          simp only [Prod.mk.injEq, RS.mk.injEq, and_true] at this
          obtain ⟨rfl, rfl⟩ := this
          refine ⟨by omega, by rw [be4_length], ?_⟩
          have := Std.mk (f := f) (i := i) (k := 4) (by omega)
          unfold numAt
          rw [be4_of _ (by simp; omega)]
          exact this
    · rintro ⟨h1, rfl, p, q, rfl, rfl⟩
      have e := getVal_behind p q x p.length (by omega) rfl
      show (if (getVal _ (p.length : Int)).2.2 ≠ 0 then _ else if m < (getVal _ (p.length : Int)).1 then _ else ((getVal _ (p.length : Int)).1, (⟨(getVal _ (p.length : Int)).2.1, none⟩ : RS))) = _
      rw [e, if_neg (by simp), if_neg (by omega), be4_length]
/-- k steps -/
def encs {α : Type} (enc : α → List UInt8) (l : List α) : List UInt8 := l.flatMap enc
theorem encs_snoc {α : Type} (enc : α → List UInt8) (l : List α) (x : α) : encs enc (l ++ [x]) = encs enc l ++ enc x := by simp [encs]
theorem many_read {α : Type} {g : List UInt8 → RS → α × RS} {ok : α → Prop} {enc : α → List UInt8} (h : Step g ok enc) {f : List UInt8} {s : RS} (hi : s.at_ ≤ f.length) : ∀ k, (manyS (g f) s k).2.bad = none →
    s.bad = none ∧ (∀ x ∈ (manyS (g f) s k).1.map Prod.snd, ok x) ∧ (manyS (g f) s k).2.at_ = s.at_ + (encs enc ((manyS (g f) s k).1.map Prod.snd)).length ∧ Std f s.at_ (encs enc ((manyS (g f) s k).1.map Prod.snd))
  | 0, hb => ⟨hb, by simp [manyS], by simp [manyS, encs], Std.nil hi⟩
  | k + 1, hb => by
    have hb' : (g f (manyS (g f) s k).2).2.bad = none := hb
    obtain ⟨i1, i2, i3, i4⟩ := many_read h hi k (h.bad hb')
    have hle := i4.le
    obtain ⟨j1, j2, j3, j4⟩ := h.read (by rw [i3]; exact hle) hb'
    have e : (manyS (g f) s (k + 1)).1.map Prod.snd = (manyS (g f) s k).1.map Prod.snd ++ [(g f (manyS (g f) s k).2).1] := by simp [manyS]
    rw [e, encs_snoc]
    refine ⟨i1, ?_, ?_, ?_⟩
    · intro x hx
      rcases List.mem_append.1 hx with hx | hx
      · exact i2 x hx
      · rw [List.mem_singleton.1 hx]; exact j2
    · show (g f (manyS (g f) s k).2).2.at_ = _
      rw [j3, i3, List.length_append, Nat.add_assoc]
    · rw [Std.app]; exact ⟨i4, by rw [← i3]; exact j4⟩
theorem many_go {α : Type} {g : List UInt8 → RS → α × RS} {ok : α → Prop} {enc : α → List UInt8} (h : Step g ok enc) {f : List UInt8} {i : Nat} (xs : List α) (hx : ∀ x ∈ xs, ok x) (hs : Std f i (encs enc xs)) : ∀ k, k ≤ xs.length →
    (manyS (g f) ⟨i, none⟩ k).1.map Prod.snd = xs.take k ∧ (manyS (g f) ⟨i, none⟩ k).2 = ⟨i + (encs enc (xs.take k)).length, none⟩
  | 0, _ => ⟨by simp [manyS], by simp [manyS, encs]⟩
  | k + 1, hk => by
    obtain ⟨h1, h2⟩ := many_go h xs hx hs k (by omega)
    have hx1 : ok xs[k] := hx _ (List.getElem_mem _)
    have et : xs.take (k + 1) = xs.take k ++ [xs[k]] := by rw [List.take_add_one, List.getElem?_eq_getElem (by omega)]; rfl
    have hs1 : Std f (i + (encs enc (xs.take k)).length) (enc xs[k]) := by
      have e : xs = xs.take k ++ [xs[k]] ++ xs.drop (k + 1) := by rw [← et, List.take_append_drop]
      have hs' : Std f i (encs enc (xs.take k) ++ (enc xs[k] ++ encs enc (xs.drop (k + 1)))) := by
        have e2 : encs enc (xs.take k) ++ (enc xs[k] ++ encs enc (xs.drop (k + 1))) = encs enc (xs.take k ++ [xs[k]] ++ xs.drop (k + 1)) := by unfold encs; rw [List.flatMap_append, List.flatMap_append, List.append_assoc]; congr 2; simp
        rw [e2, ← e]; exact hs
      exact (Std.app.1 (Std.app.1 hs').2).1
    have hg : g f (manyS (g f) ⟨i, none⟩ k).2 = (xs[k], ⟨i + (encs enc (xs.take k)).length + (enc xs[k]).length, none⟩) := by rw [h2]; exact h.go hx1 hs1
    constructor
    · simp only [manyS, List.map_append, List.map_cons, List.map_nil, h1, hg, et]
    · show (g f (manyS (g f) ⟨i, none⟩ k).2).2 = _
      rw [hg, et, encs_snoc, List.length_append, Nat.add_assoc]
/-- words, merges, spans -/
def wEnc (s : ByteArray) : List UInt8 := be4 s.size ++ s.data.toList
def wOk (s : ByteArray) : Prop := 2 ≤ s.size ∧ s.size ≤ 256
def mEnc (m : Mg) : List UInt8 := be4 m.l.toNat ++ (be4 m.r.toNat ++ be4 m.id.toNat)
def nOk (n : Int) : Prop := 0 ≤ n ∧ n ≤ 2147483647
def mOk (m : Mg) : Prop := nOk m.l ∧ nOk m.r ∧ nOk m.id
def sEnc (p : Sp) : List UInt8 := be4 p.1.toNat ++ be4 p.2.toNat
def sOk (p : Sp) : Prop := (0 ≤ p.1 ∧ p.1 ≤ 1114111) ∧ (0 ≤ p.2 ∧ p.2 ≤ 1114111)
theorem wEnc_length (s : ByteArray) : (wEnc s).length = 4 + s.size := by unfold wEnc; rw [List.length_append, be4_length, Array.length_toList]; rfl
theorem mEnc_length (m : Mg) : (mEnc m).length = 12 := rfl
theorem sEnc_length (m : Sp) : (sEnc m).length = 8 := rfl
theorem wordStep : Step wordS wOk wEnc where
  stick f s h := by rw [wordS_stick f s h]
  iff f i x j hi := by
    have hN := numStep 256 21 (by omega)
    constructor
    · intro h
      unfold wordS at h
      split at h
      · rename_i hb
        simp only [Prod.mk.injEq] at h
        rw [h.2] at hb; cases hb
      · rename_i hb
        have hb' : (numS f 256 21 ⟨i, none⟩).2.bad = none := by simpa using hb
        obtain ⟨-, h1, h2, h3⟩ := hN.read (f := f) (s := ⟨i, none⟩) hi hb'
        simp only at h1 h2 h3
        split at h
        · simp only [Prod.mk.injEq] at h
          have := h.2
          unfold RS.refuse at this; rw [hb'] at this; simp at this
        · rename_i hn2
          split at h
          · simp only [Prod.mk.injEq] at h
            have := h.2
            unfold RS.refuse at this; rw [hb'] at this; simp at this
          · rename_i hfit
            simp only [Prod.mk.injEq, RS.mk.injEq, and_true] at h
            obtain ⟨rfl, rfl⟩ := h
            have hz : (str (List.take (numS f 256 21 ⟨i, none⟩).1 (List.drop (numS f 256 21 ⟨i, none⟩).2.at_ f))).size = (numS f 256 21 ⟨i, none⟩).1 := by
              rw [str_size, List.length_take, List.length_drop]; omega
            refine ⟨⟨by rw [hz]; omega, by rw [hz]; exact h1⟩, ?_, ?_⟩
            · rw [wEnc_length, hz, h2, be4_length, Nat.add_assoc]
            · unfold wEnc
              rw [Std.app, hz]
              refine ⟨h3, ?_⟩
              rw [str_data, ← h2]
              exact Std.mk (by omega)
    · rintro ⟨⟨h1, h1'⟩, rfl, hs⟩
      unfold wEnc at hs
      rw [Std.app] at hs
      have hle := hs.2.le
      rw [be4_length] at hle
      have e := hN.go (f := f) (i := i) (x := x.size) h1' hs.1
      rw [be4_length] at e
      have hd := hs.2.drop
      rw [be4_length, Array.length_toList] at hd
      rw [Array.length_toList] at hle
      have hle2 : i + 4 + x.size ≤ f.length := hle
      change numS f 256 21 ⟨i, none⟩ = _ at e
      unfold wordS
      rw [e]
      simp only [Option.isSome_none, Bool.false_eq_true, if_false]
      rw [if_neg (by omega), if_neg (by omega), wEnc_length]
      have hd2 : (f.drop (i + 4)).take x.size = x.data.toList := hd
      rw [hd2, str_of, Nat.add_assoc]
theorem mergeStep : Step mergeS mOk mEnc where
  stick f s h := by rw [mergeS_stick f s h]
  iff f i x j hi := by
    have hN := numStep 2147483647 24 (by omega)
    constructor
    · intro h
      have hb : (numS f 2147483647 24 (numS f 2147483647 24 (numS f 2147483647 24 ⟨i, none⟩).2).2).2.bad = none := by
        have := congrArg (fun z => z.2.bad) h; exact this
      have b2 := hN.bad hb
      have b1 := hN.bad b2
      obtain ⟨-, p1, p2, p3⟩ := hN.read (f := f) (s := ⟨i, none⟩) hi b1
      have hle1 := p3.le
      obtain ⟨-, q1, q2, q3⟩ := hN.read (f := f) (s := (numS f 2147483647 24 ⟨i, none⟩).2) (by rw [p2]; exact hle1) b2
      have hle2 := q3.le
      obtain ⟨-, r1, r2, r3⟩ := hN.read (f := f) (s := (numS f 2147483647 24 (numS f 2147483647 24 ⟨i, none⟩).2).2) (by rw [q2]; exact hle2) hb
      simp only at p1 p2 p3 q1 q2 q3 r1 r2 r3
      have e1 : x = (mergeS f ⟨i, none⟩).1 := by rw [h]
      have e2 : j = (mergeS f ⟨i, none⟩).2.at_ := by rw [h]
      subst e1 e2
      simp only [be4_length] at p2 q2 r2
      unfold mergeS mOk nOk mEnc
      simp only [Int.toNat_natCast]
      refine ⟨⟨⟨by omega, by omega⟩, ⟨by omega, by omega⟩, ⟨by omega, by omega⟩⟩, ?_, ?_⟩
      · rw [r2, q2, p2]; simp only [List.length_append, be4_length]
      · rw [Std.app, Std.app]
        simp only [be4_length]
        refine ⟨p3, ?_, ?_⟩
        · rw [← p2]; exact q3
        · rw [← p2, ← q2]; exact r3
    · rintro ⟨⟨⟨a1, a2⟩, ⟨b1, b2⟩, ⟨c1, c2⟩⟩, rfl, hs⟩
      unfold mEnc at hs
      rw [Std.app, Std.app] at hs
      obtain ⟨h1, h2, h3⟩ := hs
      have g1 := hN.go (f := f) (i := i) (x := x.l.toNat) (by omega) h1
      have g2 := hN.go (f := f) (x := x.r.toNat) (by omega) h2
      have g3 := hN.go (f := f) (x := x.id.toNat) (by omega) h3
      change numS f 2147483647 24 ⟨_, none⟩ = _ at g1 g2 g3
      unfold mergeS
      rw [g1]; simp only
      rw [g2]; simp only
      rw [g3]
      obtain ⟨l, r, id⟩ := x
      simp only at a1 b1 c1 ⊢
      rw [Int.toNat_of_nonneg a1, Int.toNat_of_nonneg b1, Int.toNat_of_nonneg c1]
      simp [mEnc, be4_length]
theorem spanStep : Step spanS sOk sEnc where
  stick f s h := by rw [spanS_stick f s h]
  iff f i x j hi := by
    have hN := numStep 1114111 14 (by omega)
    constructor
    · intro h
      have hb : (numS f 1114111 14 (numS f 1114111 14 ⟨i, none⟩).2).2.bad = none := by
        have := congrArg (fun z => z.2.bad) h; exact this
      have b1 := hN.bad hb
      obtain ⟨-, p1, p2, p3⟩ := hN.read (f := f) (s := ⟨i, none⟩) hi b1
      have hle1 := p3.le
      obtain ⟨-, q1, q2, q3⟩ := hN.read (f := f) (s := (numS f 1114111 14 ⟨i, none⟩).2) (by rw [p2]; exact hle1) hb
      simp only at p1 p2 p3 q1 q2 q3
      have e1 : x = (spanS f ⟨i, none⟩).1 := by rw [h]
      have e2 : j = (spanS f ⟨i, none⟩).2.at_ := by rw [h]
      subst e1 e2
      simp only [be4_length] at p2 q2
      unfold spanS sOk sEnc
      simp only [Int.toNat_natCast]
      refine ⟨⟨⟨by omega, by omega⟩, ⟨by omega, by omega⟩⟩, ?_, ?_⟩
      · rw [q2, p2]; simp only [List.length_append, be4_length]
      · rw [Std.app]
        simp only [be4_length]
        refine ⟨p3, ?_⟩
        rw [← p2]; exact q3
    · rintro ⟨⟨⟨a1, a2⟩, ⟨b1, b2⟩⟩, rfl, hs⟩
      unfold sEnc at hs
      rw [Std.app] at hs
      obtain ⟨h1, h2⟩ := hs
      have g1 := hN.go (f := f) (i := i) (x := x.1.toNat) (by omega) h1
      have g2 := hN.go (f := f) (x := x.2.toNat) (by omega) h2
      change numS f 1114111 14 ⟨_, none⟩ = _ at g1 g2
      unfold spanS
      rw [g1]; simp only
      rw [g2]
      obtain ⟨l, r⟩ := x
      simp only at a1 b1 ⊢
      rw [Int.toNat_of_nonneg a1, Int.toNat_of_nonneg b1]
      simp [sEnc, be4_length]
/-- what is written -/
def spB (l : List Sp) : List UInt8 := be4 l.length ++ encs sEnc l
def bodyF (ws : List ByteArray) (ms : List Mg) (a b d : List Sp) : List UInt8 := [66, 80, 69, 49] ++ (be4 ws.length ++ (encs wEnc ws ++ (encs mEnc ms ++ (spB a ++ (spB b ++ spB d)))))
def sumN (l : List UInt8) : Nat := (~~~(sumOf l)).toNat
def saveF (ws : List ByteArray) (ms : List Mg) (a b d : List Sp) : List UInt8 := bodyF ws ms a b d ++ be4 (sumN (bodyF ws ms a b d))
structure OkD (ws : List ByteArray) (ms : List Mg) (a b d : List Sp) : Prop where
  n : ws.length ≤ 4096
  nm : ms.length = ws.length
  w : ∀ x ∈ ws, wOk x
  m : ∀ x ∈ ms, mOk x
  la : a.length ≤ 512
  lb : b.length ≤ 512
  ld : d.length ≤ 512
  a : ∀ x ∈ a, sOk x
  b : ∀ x ∈ b, sOk x
  d : ∀ x ∈ d, sOk x
theorem sumN_lt (l : List UInt8) : sumN l < 4294967296 := (~~~(sumOf l)).toNat_lt
theorem map_snd_length {α : Type} (g : RS → α × RS) (s : RS) (k : Nat) : ((manyS g s k).1.map Prod.snd).length = k := by rw [List.length_map, manyS_length]
/-- the parse of what was written -/
theorem parse_body {ws : List ByteArray} {ms : List Mg} {a b d : List Sp} (h : OkD ws ms a b d) {f : List UInt8} (hs : Std f 0 (bodyF ws ms a b d)) :
    magicBad f = none ∧ pWs f = ws ∧ pMs f = ms ∧ pAs f = a ∧ pBs f = b ∧ pDs f = d ∧ (pD f).2 = ⟨(bodyF ws ms a b d).length, none⟩ := by
  have hs0 := hs
  unfold bodyF spB at hs
  simp only [Std.app, be4_length, List.length_append, List.length_cons, List.length_nil, Nat.zero_add, Nat.reduceAdd, ← Nat.add_assoc] at hs
  obtain ⟨m0, s1, s2, s3, ⟨s4, s5⟩, ⟨s6, s7⟩, ⟨s8, s9⟩⟩ := hs
  have hmag : magicBad f = none := by
    obtain ⟨p, q, rfl, hp⟩ := m0
    obtain rfl := List.eq_nil_of_length_eq_zero hp
    rfl
  have e1 : pN f = (ws.length, ⟨8, none⟩) := (numStep 4096 4 (by omega)).go h.n s1
  have e2 := many_go wordStep ws h.w s2 ws.length (Nat.le_refl _)
  rw [List.take_length] at e2
  have hW : pW f = manyS (wordS f) ⟨8, none⟩ ws.length := by unfold pW; rw [e1]
  have e3 := many_go mergeStep ms h.m s3 ms.length (Nat.le_refl _)
  rw [List.take_length] at e3
  have hM : pM f = manyS (mergeS f) ⟨8 + (encs wEnc ws).length, none⟩ ms.length := by
    unfold pM; rw [hW, e2.2, e1, h.nm]
  have e4 : pKa f = (a.length, ⟨8 + (encs wEnc ws).length + (encs mEnc ms).length + 4, none⟩) := by
    unfold pKa; rw [hM, e3.2]; exact (numStep 512 4 (by omega)).go h.la s4
  have e5 := many_go spanStep a h.a s5 a.length (Nat.le_refl _)
  rw [List.take_length] at e5
  have hA : pA f = manyS (spanS f) ⟨8 + (encs wEnc ws).length + (encs mEnc ms).length + 4, none⟩ a.length := by unfold pA; rw [e4]
  have e6 : pKb f = (b.length, ⟨8 + (encs wEnc ws).length + (encs mEnc ms).length + 4 + (encs sEnc a).length + 4, none⟩) := by
    unfold pKb; rw [hA, e5.2]; exact (numStep 512 4 (by omega)).go h.lb (by simpa [be4_length, Nat.add_assoc] using s6)
  have e7 := many_go spanStep b h.b (i := 8 + (encs wEnc ws).length + (encs mEnc ms).length + 4 + (encs sEnc a).length + 4) (by simpa [be4_length, Nat.add_assoc] using s7) b.length (Nat.le_refl _)
  rw [List.take_length] at e7
  have hB : pB f = manyS (spanS f) ⟨8 + (encs wEnc ws).length + (encs mEnc ms).length + 4 + (encs sEnc a).length + 4, none⟩ b.length := by unfold pB; rw [e6]
  have e8 : pKd f = (d.length, ⟨8 + (encs wEnc ws).length + (encs mEnc ms).length + 4 + (encs sEnc a).length + 4 + (encs sEnc b).length + 4, none⟩) := by
    unfold pKd; rw [hB, e7.2]; exact (numStep 512 4 (by omega)).go h.ld (by simpa [be4_length, Nat.add_assoc] using s8)
  have e9 := many_go spanStep d h.d (i := 8 + (encs wEnc ws).length + (encs mEnc ms).length + 4 + (encs sEnc a).length + 4 + (encs sEnc b).length + 4) (by simpa [be4_length, Nat.add_assoc] using s9) d.length (Nat.le_refl _)
  rw [List.take_length] at e9
  have hD : pD f = manyS (spanS f) ⟨8 + (encs wEnc ws).length + (encs mEnc ms).length + 4 + (encs sEnc a).length + 4 + (encs sEnc b).length + 4, none⟩ d.length := by unfold pD; rw [e8]
  refine ⟨hmag, ?_, ?_, ?_, ?_, ?_, ?_⟩
  · unfold pWs; rw [hW]; exact e2.1
  · unfold pMs; rw [hM]; exact e3.1
  · unfold pAs; rw [hA]; exact e5.1
  · unfold pBs; rw [hB]; exact e7.1
  · unfold pDs; rw [hD]; exact e9.1
  · rw [hD, e9.2]
    congr 1
    unfold bodyF spB
    simp only [List.length_append, be4_length, List.length_cons, List.length_nil]
    omega
set_option maxHeartbeats 2000000 in
/-- what a parse without a refusal has seen -/
theorem parse_read {f : List UInt8} (hm : magicBad f = none) (hb : (pD f).2.bad = none) :
    OkD (pWs f) (pMs f) (pAs f) (pBs f) (pDs f) ∧ Std f 0 (bodyF (pWs f) (pMs f) (pAs f) (pBs f) (pDs f)) ∧ (pD f).2.at_ = (bodyF (pWs f) (pMs f) (pAs f) (pBs f) (pDs f)).length := by
  have h4 := magicBad_len f hm
  have q9 : (pKd f).2.bad = none ∧ _ := many_read spanStep (pKd_at f h4).1 _ hb
  have q8 := (numStep 512 4 (by omega)).read (f := f) (pB_at f h4).1 q9.1
  have q7 : (pKb f).2.bad = none ∧ _ := many_read spanStep (pKb_at f h4).1 _ q8.1
  have q6 := (numStep 512 4 (by omega)).read (f := f) (pA_at f h4).1 q7.1
  have q5 : (pKa f).2.bad = none ∧ _ := many_read spanStep (pKa_at f h4).1 _ q6.1
  have q4 := (numStep 512 4 (by omega)).read (f := f) (pM_at f h4).1 q5.1
  have q3 : (pW f).2.bad = none ∧ _ := many_read mergeStep (pW_at f h4).1 _ q4.1
  have q2 : (pN f).2.bad = none ∧ _ := many_read wordStep (pN_at f h4).1 _ q3.1
  have q1 := (numStep 4096 4 (by omega)).read (f := f) (s := ⟨4, none⟩) h4 q2.1
  obtain ⟨-, d1, d2, d3⟩ := q9
  obtain ⟨-, d4, d5, d6⟩ := q8
  obtain ⟨-, b1, b2, b3⟩ := q7
  obtain ⟨-, b4, b5, b6⟩ := q6
  obtain ⟨-, a1, a2, a3⟩ := q5
  obtain ⟨-, a4, a5, a6⟩ := q4
  obtain ⟨-, m1, m2, m3⟩ := q3
  obtain ⟨-, w1, w2, w3⟩ := q2
  obtain ⟨-, n1, n2, n3⟩ := q1
  have lw : (pWs f).length = (pN f).1 := map_snd_length _ _ _
  have lm : (pMs f).length = (pN f).1 := map_snd_length _ _ _
  have la : (pAs f).length = (pKa f).1 := map_snd_length _ _ _
  have lb : (pBs f).length = (pKb f).1 := map_snd_length _ _ _
  have ld : (pDs f).length = (pKd f).1 := map_snd_length _ _ _
  change (pN f).1 ≤ 4096 at n1
  change (pN f).2.at_ = 4 + _ at n2
  change Std f 4 (be4 (pN f).1) at n3
  change ∀ x ∈ pWs f, wOk x at w1
  change (pW f).2.at_ = (pN f).2.at_ + (encs wEnc (pWs f)).length at w2
  change Std f _ (encs wEnc (pWs f)) at w3
  change ∀ x ∈ pMs f, mOk x at m1
  change (pM f).2.at_ = (pW f).2.at_ + (encs mEnc (pMs f)).length at m2
  change Std f _ (encs mEnc (pMs f)) at m3
  change (pKa f).1 ≤ 512 at a4
  change (pKa f).2.at_ = (pM f).2.at_ + _ at a5
  change Std f _ (be4 (pKa f).1) at a6
  change ∀ x ∈ pAs f, sOk x at a1
  change (pA f).2.at_ = (pKa f).2.at_ + (encs sEnc (pAs f)).length at a2
  change Std f _ (encs sEnc (pAs f)) at a3
  change (pKb f).1 ≤ 512 at b4
  change (pKb f).2.at_ = (pA f).2.at_ + _ at b5
  change Std f _ (be4 (pKb f).1) at b6
  change ∀ x ∈ pBs f, sOk x at b1
  change (pB f).2.at_ = (pKb f).2.at_ + (encs sEnc (pBs f)).length at b2
  change Std f _ (encs sEnc (pBs f)) at b3
  change (pKd f).1 ≤ 512 at d4
  change (pKd f).2.at_ = (pB f).2.at_ + _ at d5
  change Std f _ (be4 (pKd f).1) at d6
  change ∀ x ∈ pDs f, sOk x at d1
  change (pD f).2.at_ = (pKd f).2.at_ + (encs sEnc (pDs f)).length at d2
  change Std f _ (encs sEnc (pDs f)) at d3
  rw [be4_length] at n2 a5 b5 d5
  replace n2 : (pN f).2.at_ = 8 := n2
  refine ⟨⟨by omega, by omega, w1, m1, by omega, by omega, by omega, a1, b1, d1⟩, ?_, ?_⟩
  · unfold bodyF spB
    simp only [Std.app, be4_length, List.length_append, List.length_cons, List.length_nil, Nat.zero_add, Nat.reduceAdd, ← Nat.add_assoc]
    have hmag : Std f 0 [66, 80, 69, 49] := by
      unfold magicBad at hm
      split at hm; · cases hm
      split at hm; · cases hm
      split at hm; · cases hm
      split at hm; · cases hm
      rename_i g0 g1 g2 g3
      match f, h4 with
      | x :: y :: z :: u :: r, _ =>
        simp at g0 g1 g2 g3
        subst g0 g1 g2 g3
        exact ⟨[], r, rfl, rfl⟩
    rw [lw, la, lb, ld]
    rw [n2] at w3
    rw [w2, n2] at m3
    rw [m2, w2, n2] at a6
    rw [a5, m2, w2, n2] at a3
    rw [a2, a5, m2, w2, n2] at b6
    rw [b5, a2, a5, m2, w2, n2] at b3
    rw [b2, b5, a2, a5, m2, w2, n2] at d6
    rw [d5, b2, b5, a2, a5, m2, w2, n2] at d3
    exact ⟨hmag, n3, w3, m3, ⟨a6, a3⟩, ⟨b6, b3⟩, ⟨d6, d3⟩⟩
  · rw [d2, d5, b2, b5, a2, a5, m2, w2, n2]
    unfold bodyF spB
    simp only [List.length_append, be4_length, List.length_cons, List.length_nil]
    omega
end Go.Proofs.YtgohinklnglgeaaDoor

set_option linter.unusedVariables false
set_option linter.unusedSimpArgs false
namespace Go.Proofs.YtgohinklnglgeaaDoor

theorem wordsAt_row : ∀ (l seen : List ByteArray) (i : Nat), (wordsAt seen i l).2 ≠ 0 → (wordsAt seen i l).1 < i + l.length
  | [], seen, i, h => by simp [wordsAt] at h
  | s :: r, seen, i, h => by
    unfold wordsAt at h ⊢
    split
    · simp
    · rename_i h1
      rw [if_neg h1] at h
      split
      · simp
      · rename_i h2
        rw [if_neg h2] at h
        have := wordsAt_row r (seen ++ [s]) (i + 1) h
        simp only [List.length_cons]; omega
theorem pairsAt_row (ws : List ByteArray) : ∀ (l done : List Mg) (i : Nat), (pairsAt ws done i l).2 ≠ 0 → (pairsAt ws done i l).1 < i + l.length
  | [], done, i, h => by simp [pairsAt] at h
  | m :: r, done, i, h => by
    unfold pairsAt at h ⊢
    split
    · simp
    · rename_i h1
      rw [if_neg h1] at h
      split
      · simp
      · rename_i h2
        rw [if_neg h2] at h
        split
        · simp
        · rename_i h3
          rw [if_neg h3] at h
          split
          · simp
          · rename_i h4
            rw [if_neg h4] at h
            have := pairsAt_row ws r (done ++ [m]) (i + 1) h
            simp only [List.length_cons]; omega
theorem rightFrom_row : ∀ (l : List Sp) (o : Option Int) (i : Nat), (rightFrom o i l).2 ≠ 0 → (rightFrom o i l).1 < i + l.length
  | [], o, i, h => by simp [rightFrom] at h
  | p :: l, o, i, h => by
    unfold rightFrom at h ⊢
    split
    · simp
    · rename_i h1
      rw [if_neg h1] at h
      split
      · simp
      · rename_i h2
        rw [if_neg h2] at h
        have := rightFrom_row l (some p.2) (i + 1) h
        simp only [List.length_cons]; omega
theorem meetFrom_row (b : List Sp) : ∀ (l : List Sp) (i r : Nat), meetFrom b i l = some r → r < i + l.length
  | [], i, r, h => by simp [meetFrom] at h
  | p :: l, i, r, h => by
    unfold meetFrom at h
    split at h
    · simp at h; subst h; simp
    · have := meetFrom_row b l (i + 1) r h
      simp only [List.length_cons]; omega
/-- where a fault of the lists lies -/
theorem checkW_row (a b d : List Sp) (ha : a.length ≤ 512) (hb : b.length ≤ 512) (hd : d.length ≤ 512) (h : (checkW a b d).1 ≠ 0) :
    ((checkW a b d).2.1 = 1 ∧ (checkW a b d).2.2 < a.length) ∨ ((checkW a b d).2.1 = 2 ∧ (checkW a b d).2.2 < b.length) ∨ (checkW a b d).2.1 = 3 := by
  have key : ∀ x : Wr, x ∈ (stagesW a b d).filterMap id → ((x.2.1 = 1 ∧ x.2.2 < a.length) ∨ (x.2.1 = 2 ∧ x.2.2 < b.length) ∨ x.2.1 = 3) := by
    intro x hx
    simp only [stagesW, List.mem_filterMap, List.mem_cons, List.not_mem_nil, or_false, id] at hx
    obtain ⟨o, ho, rfl⟩ := hx
    have hl : ∀ (i : Nat) (l : List Sp), l.length ≤ 512 → longW i l = none := fun i l h => by unfold longW; rw [if_neg (by omega)]
    have hr : ∀ (i : Nat) (l : List Sp), rightW i l = some x → x.2.1 = i + 1 ∧ x.2.2 < l.length := by
      intro i l h
      unfold rightW at h
      split at h
      · cases h
      · rename_i h0
        have := rightFrom_row l none 0 h0
        cases h
        exact ⟨rfl, by simpa using this⟩
    rcases ho with ho | ho | ho | ho | ho | ho | ho | ho | ho
    · rw [hl 0 a ha] at ho; cases ho
    · rw [hl 1 b hb] at ho; cases ho
    · rw [hl 2 d hd] at ho; cases ho
    · exact .inl (hr 0 a ho.symm)
    · exact .inr (.inl (hr 1 b ho.symm))
    · exact .inr (.inr (hr 2 d ho.symm).1)
    · unfold over1 at ho
      obtain ⟨r, h1, rfl⟩ := Option.map_eq_some_iff.1 ho.symm
      exact .inr (.inl ⟨rfl, by simpa using meetFrom_row a b 0 r h1⟩)
    · unfold over2 at ho
      obtain ⟨r, h1, rfl⟩ := Option.map_eq_some_iff.1 ho.symm
      exact .inr (.inr rfl)
    · unfold blankW at ho
      split at ho
      · cases ho
      · cases ho; exact .inr (.inr rfl)
  unfold checkW at h ⊢
  cases hf : (stagesW a b d).findSome? id with
  | none => rw [hf] at h; exact absurd rfl h
  | some x =>
    simp only [Option.getD_some]
    apply key
    obtain ⟨o, ho, hx⟩ := List.exists_of_findSome?_eq_some hf
    exact List.mem_filterMap.2 ⟨o, ho, hx⟩
/-- a fault of data that a file gave: its list, its row -/
theorem fault_row {ws : List ByteArray} {ms : List Mg} {a b d : List Sp} (hO : OkD ws ms a b d) (h : (faultW ws ms a b d).1 ≠ 0) :
    ((faultW ws ms a b d).2.1 = 1 ∧ (faultW ws ms a b d).2.2 < a.length) ∨ ((faultW ws ms a b d).2.1 = 2 ∧ (faultW ws ms a b d).2.2 < b.length) ∨ (faultW ws ms a b d).2.1 = 3 ∨ ((faultW ws ms a b d).2.1 = 4 ∧ (faultW ws ms a b d).2.2 < ws.length) ∨ ((faultW ws ms a b d).2.1 = 5 ∧ (faultW ws ms a b d).2.2 < ms.length) := by
  have h1 := hO.n; have h2 := hO.nm
  unfold faultW at h ⊢
  rw [if_neg (by omega), if_neg (by omega)] at h ⊢
  split
  · rename_i hc
    rcases checkW_row a b d hO.la hO.lb hO.ld hc with g | g | g
    · exact .inl g
    · exact .inr (.inl g)
    · exact .inr (.inr (.inl g))
  · rename_i hc
    rw [if_neg hc] at h
    split
    · rename_i hw
      exact .inr (.inr (.inr (.inl ⟨rfl, by simpa using wordsAt_row ws [] 0 hw⟩)))
    · rename_i hw
      rw [if_neg hw] at h
      split
      · rename_i hp
        exact .inr (.inr (.inr (.inr ⟨rfl, by simpa using pairsAt_row ws ms [] 0 hp⟩)))
      · rename_i hp
        rw [if_neg hp] at h; exact absurd rfl h
/-- right data can be written -/
theorem rightFrom_ok : ∀ (l : List Sp) (o : Option Int) (i : Nat), (rightFrom o i l).2 = 0 → ∀ x ∈ l, sOk x
  | [], o, i, h => by simp
  | p :: l, o, i, h => by
    unfold rightFrom at h
    split at h
    · cases h
    · rename_i h1
      split at h
      · cases h
      · have ih := rightFrom_ok l (some p.2) (i + 1) h
        intro x hx
        rcases List.mem_cons.1 hx with rfl | hx
        · simp only [validRune, Bool.not_eq_false, Bool.and_eq_true, decide_eq_true_eq] at h1
          unfold sOk; omega
        · exact ih x hx
theorem partB_bd {ws : List ByteArray} {ids : List Int} (hr : ∀ x ∈ ids, 256 ≤ x ∧ x < 256 + (ws.length : Int)) {id : Int} (h : partB ids id = true) : 0 ≤ id ∧ id < 256 + (ws.length : Int) := part_word rfl hr h
theorem pairsAt_ok (ws : List ByteArray) (hw : ws.length ≤ 4096) : ∀ (l done : List Mg) (i : Nat), (∀ x ∈ idsOf done, 256 ≤ x ∧ x < 256 + (ws.length : Int)) → (pairsAt ws done i l).2 = 0 → ∀ m ∈ l, mOk m
  | [], done, i, hd, h => by simp
  | m :: r, done, i, hd, h => by
    unfold pairsAt at h
    split at h
    · cases h
    · rename_i h1
      split at h
      · cases h
      · rename_i h2
        split at h
        · cases h
        · split at h
          · cases h
          · have hid : 256 ≤ m.id ∧ m.id < 256 + (ws.length : Int) := by
              simp only [badId, Bool.not_eq_true, Bool.or_eq_false_iff, decide_eq_false_iff_not] at h1
              omega
            have ih := pairsAt_ok ws hw r (done ++ [m]) (i + 1) (by
              intro x hx
              rw [idsOf_snoc] at hx
              rcases List.mem_append.1 hx with hx | hx
              · exact hd x hx
              · rw [List.mem_singleton.1 hx]; exact hid) h
            intro x hx
            rcases List.mem_cons.1 hx with rfl | hx
            · simp only [Bool.not_eq_false, Bool.and_eq_true] at h2
              have p1 := partB_bd hd h2.1
              have p2 := partB_bd hd h2.2
              unfold mOk nOk; omega
            · exact ih x hx
theorem fault_ok {ws : List ByteArray} {ms : List Mg} {a b d : List Sp} (h : (faultW ws ms a b d).1 = 0) : OkD ws ms a b d := by
  unfold faultW at h
  split at h; · cases h
  rename_i h1
  split at h; · cases h
  rename_i h2
  split at h; · rename_i h3; exact absurd h h3
  rename_i h3
  split at h; · rename_i h4; exact absurd h h4
  rename_i h4
  split at h; · rename_i h5; exact absurd h h5
  rename_i h5
  simp only [Decidable.not_not] at h2 h3 h4 h5
  have hnone : ∀ o ∈ stagesW a b d, o = none := by
    have hf : (stagesW a b d).findSome? id = none := by
      cases hf : (stagesW a b d).findSome? id with
      | none => rfl
      | some x =>
        exfalso
        have h0 : x.1 = 0 := by unfold checkW at h3; rw [hf] at h3; exact h3
        obtain ⟨o, ho, hx⟩ := List.exists_of_findSome?_eq_some hf
        simp only [id] at hx; subst hx
        have hl : ∀ (i : Nat) (l : List Sp), longW i l ≠ some x := fun i l h => by
          unfold longW at h; split at h
          · cases h; cases h0
          · cases h
        have hr : ∀ (i : Nat) (l : List Sp), rightW i l ≠ some x := fun i l h => by
          unfold rightW at h; split at h
          · cases h
          · rename_i hne; cases h; exact hne h0
        simp only [stagesW, List.mem_cons, List.not_mem_nil, or_false] at ho
        rcases ho with ho | ho | ho | ho | ho | ho | ho | ho | ho
        · exact hl _ _ ho.symm
        · exact hl _ _ ho.symm
        · exact hl _ _ ho.symm
        · exact hr _ _ ho.symm
        · exact hr _ _ ho.symm
        · exact hr _ _ ho.symm
        · unfold over1 at ho
          obtain ⟨r, h1, rfl⟩ := Option.map_eq_some_iff.1 ho.symm
          cases h0
        · unfold over2 at ho
          obtain ⟨r, h1, rfl⟩ := Option.map_eq_some_iff.1 ho.symm
          cases h0
        · unfold blankW at ho
          split at ho
          · cases ho
          · cases ho; cases h0
    intro o ho
    have := List.findSome?_eq_none_iff.1 hf o ho
    simpa using this
  have hlong : ∀ (i : Nat) (l : List Sp), longW i l = none → l.length ≤ 512 := fun i l h => by
    unfold longW at h; split at h
    · cases h
    · omega
  have hright : ∀ (i : Nat) (l : List Sp), rightW i l = none → ∀ x ∈ l, sOk x := fun i l h => by
    unfold rightW at h; split at h
    · rename_i h0; exact rightFrom_ok l none 0 h0
    · cases h
  have m0 := hnone (longW 0 a) (by simp [stagesW])
  have m1 := hnone (longW 1 b) (by simp [stagesW])
  have m2 := hnone (longW 2 d) (by simp [stagesW])
  have m3 := hnone (rightW 0 a) (by simp [stagesW])
  have m4 := hnone (rightW 1 b) (by simp [stagesW])
  have m5 := hnone (rightW 2 d) (by simp [stagesW])
  have hwl : ws.length ≤ 4096 := by omega
  exact ⟨hwl, by omega, fun x hx => words_small ws [] 0 h4 x hx, pairsAt_ok ws hwl ms [] 0 (by simp [idsOf]) h5, hlong _ _ m0, hlong _ _ m1, hlong _ _ m2, hright _ _ m3, hright _ _ m4, hright _ _ m5⟩
/-- a file that is taken is what is saved of its data -/
theorem load_iff (f : List UInt8) (h : loadE f = none) : OkD (pWs f) (pMs f) (pAs f) (pBs f) (pDs f) ∧ (faultF f).1 = 0 ∧ f = saveF (pWs f) (pMs f) (pAs f) (pBs f) (pDs f) ∧ f.length ≤ 4194304 := by
  unfold loadE at h
  split at h; · cases h
  rename_i hlen
  split at h
  · cases h
  · rename_i hm
    split at h
    · cases h
    · rename_i hE
      split at h
      · cases h
      · rename_i hF
        have h4 := magicBad_len f hm
        have hT : (tailS f).bad = none ∧ (sumS f).1 = sumN (f.take (pD f).2.at_) := by
          unfold endS at hE
          split at hE
          · rename_i hc
            unfold RS.refuse at hE; rw [hc.1] at hE; cases hE
          · rename_i hc
            refine ⟨hE, ?_⟩
            have := Decidable.not_and_iff_not_or_not.1 hc
            rcases this with g | g
            · exact absurd hE g
            · exact Decidable.not_not.1 g
        have hS : (sumS f).2.bad = none ∧ f.length ≤ (sumS f).2.at_ := by
          have := hT.1
          unfold tailS at this
          split at this
          · rename_i hc
            unfold RS.refuse at this; rw [hc.1] at this; cases this
          · rename_i hc
            exact ⟨this, by
              rcases Decidable.not_and_iff_not_or_not.1 hc with g | g
              · exact absurd ‹_› g
              · omega⟩
        have hN := (numStep 4294967295 12 (by omega)).read (f := f) (pD_at f h4).1 hS.1
        obtain ⟨hb, -, hat, hst⟩ := hN
        rw [be4_length] at hat
        change (sumS f).2.at_ = _ at hat
        change Std f _ (be4 (sumS f).1) at hst
        obtain ⟨hO, hB, hpos⟩ := parse_read hm hb
        refine ⟨hO, Decidable.not_not.1 hF, ?_, by omega⟩
        have hall : Std f 0 (saveF (pWs f) (pMs f) (pAs f) (pBs f) (pDs f)) := by
          unfold saveF
          rw [Std.app]
          refine ⟨hB, ?_⟩
          have hd := hB.drop
          rw [List.drop_zero, ← hpos] at hd
          rw [Nat.zero_add, ← hpos, ← hd, ← hT.2]
          exact hst
        refine hall.all ?_
        have hl1 := hall.le
        have : (saveF (pWs f) (pMs f) (pAs f) (pBs f) (pDs f)).length = (pD f).2.at_ + 4 := by unfold saveF; rw [List.length_append, be4_length, hpos]
        omega
/-- what is saved of right data is taken -/
theorem load_save {ws : List ByteArray} {ms : List Mg} {a b d : List Sp} (h : (faultW ws ms a b d).1 = 0) (hl : (saveF ws ms a b d).length ≤ 4194304) :
    loadE (saveF ws ms a b d) = none ∧ pWs (saveF ws ms a b d) = ws ∧ pMs (saveF ws ms a b d) = ms ∧ pAs (saveF ws ms a b d) = a ∧ pBs (saveF ws ms a b d) = b ∧ pDs (saveF ws ms a b d) = d := by
  have hO := fault_ok h
  have hs : Std (saveF ws ms a b d) 0 (bodyF ws ms a b d) := ⟨[], be4 (sumN (bodyF ws ms a b d)), by simp [saveF], rfl⟩
  obtain ⟨hm, e0, e1, e2, e3, e4, hD⟩ := parse_body hO hs
  refine ⟨?_, e0, e1, e2, e3, e4⟩
  have hsum : sumS (saveF ws ms a b d) = (sumN (bodyF ws ms a b d), ⟨(saveF ws ms a b d).length, none⟩) := by
    unfold sumS
    rw [hD]
    have hst : Std (saveF ws ms a b d) (bodyF ws ms a b d).length (be4 (sumN (bodyF ws ms a b d))) := ⟨bodyF ws ms a b d, [], by simp [saveF], rfl⟩
    have := (numStep 4294967295 12 (by omega)).go (f := saveF ws ms a b d) (x := sumN (bodyF ws ms a b d)) (by have := sumN_lt (bodyF ws ms a b d); omega) hst
    change numS _ 4294967295 12 ⟨_, none⟩ = _ at this
    rw [this, be4_length]
    unfold saveF
    rw [List.length_append, be4_length]
  have htail : tailS (saveF ws ms a b d) = ⟨(saveF ws ms a b d).length, none⟩ := by
    unfold tailS
    rw [hsum, if_neg (by simp)]
  have hend : endS (saveF ws ms a b d) = ⟨(saveF ws ms a b d).length, none⟩ := by
    unfold endS
    rw [htail, hsum, hD, if_neg]
    intro hc
    apply hc.2
    simp only
    rw [show (saveF ws ms a b d).take (bodyF ws ms a b d).length = bodyF ws ms a b d by unfold saveF; rw [List.take_left]]
    rfl
  unfold loadE faultF
  rw [if_neg (by omega), hm, hend, e0, e1, e2, e3, e4, if_neg (by rw [h]; simp)]
/-- the sum, the parse of a beginning -/
theorem save_end {f : List UInt8} (h : loadE f = none) : ∃ B, f = B ++ be4 (sumN B) ∧ (∀ r, (pD (f ++ r)).2 = ⟨B.length, none⟩) := by
  obtain ⟨hO, -, hf, -⟩ := load_iff f h
  refine ⟨bodyF (pWs f) (pMs f) (pAs f) (pBs f) (pDs f), hf, fun r => ?_⟩
  refine (parse_body hO ?_).2.2.2.2.2.2
  refine Std.more ?_ r
  rw [hf]
  have e := load_iff f h
  rw [← hf]
  exact ⟨[], be4 (sumN (bodyF (pWs f) (pMs f) (pAs f) (pBs f) (pDs f))), by simpa [saveF] using hf, rfl⟩
/-- a beginning of a file is none; a file with bytes behind it is none -/
theorem load_prefix {f r : List UInt8} (h : loadE f = none) (h2 : loadE (f ++ r) = none) : r = [] := by
  obtain ⟨B, hB, hp⟩ := save_end h
  obtain ⟨B2, hB2, hp2⟩ := save_end h2
  have e1 := hp r
  have e2 := hp2 []
  rw [List.append_nil] at e2
  rw [e1] at e2
  have e3 : B.length = B2.length := by simpa using e2
  have l1 : f.length = B.length + 4 := by rw [hB, List.length_append, be4_length]
  have l2 : (f ++ r).length = B2.length + 4 := by rw [hB2, List.length_append, be4_length]
  rw [List.length_append] at l2
  exact List.eq_nil_of_length_eq_zero (by omega)
end Go.Proofs.YtgohinklnglgeaaDoor

set_option linter.unusedVariables false
set_option linter.unusedSimpArgs false
namespace Go.Proofs.YtgohinklnglgeaaDoor

theorem loadE_long {f : List UInt8} (h : 4194304 < f.length) : loadE f = some (0, 3) := by unfold loadE; rw [if_pos h]
theorem loadE_magic {f : List UInt8} (h : ¬ 4194304 < f.length) {i : Nat} (hm : magicBad f = some i) : loadE f = some (i, 11) := by unfold loadE; rw [if_neg h, hm]
theorem loadE_bad {f : List UInt8} (h : ¬ 4194304 < f.length) (hm : magicBad f = none) {x : Nat × Nat} (hb : (sumS f).2.bad = some x) : loadE f = some x := by
  have h1 : tailS f = (sumS f).2 := by unfold tailS; rw [if_neg (by rw [hb]; simp)]
  have h2 : endS f = (sumS f).2 := by unfold endS; rw [h1, if_neg (by rw [hb]; simp)]
  unfold loadE; rw [if_neg h, hm, h2, hb]
theorem loadE_tail {f : List UInt8} (h : ¬ 4194304 < f.length) (hm : magicBad f = none) (hb : (sumS f).2.bad = none) (hl : (sumS f).2.at_ < f.length) : loadE f = some ((sumS f).2.at_, 13) := by
  have h1 : tailS f = ⟨(sumS f).2.at_, some ((sumS f).2.at_, 13)⟩ := by unfold tailS; rw [if_pos ⟨hb, hl⟩]; unfold RS.refuse; rw [hb]
  have h2 : endS f = tailS f := by unfold endS; rw [if_neg (by rw [h1]; simp)]
  unfold loadE; rw [if_neg h, hm, h2, h1]
theorem loadE_sum {f : List UInt8} (h : ¬ 4194304 < f.length) (hm : magicBad f = none) (hb : (sumS f).2.bad = none) (hl : ¬ (sumS f).2.at_ < f.length) (hs : (sumS f).1 ≠ sumN (f.take (pD f).2.at_)) : loadE f = some ((pD f).2.at_, 12) := by
  have h1 : tailS f = (sumS f).2 := by unfold tailS; rw [if_neg (fun g => hl g.2)]
  have h2 : (endS f).bad = some ((pD f).2.at_, 12) := by unfold endS; rw [h1, if_pos ⟨hb, hs⟩]; unfold RS.refuse; rw [hb]
  unfold loadE; rw [if_neg h, hm, h2]
theorem endS_good {f : List UInt8} (hb : (sumS f).2.bad = none) (hl : ¬ (sumS f).2.at_ < f.length) (hs : (sumS f).1 = sumN (f.take (pD f).2.at_)) : (endS f).bad = none := by
  have h1 : tailS f = (sumS f).2 := by unfold tailS; rw [if_neg (fun g => hl g.2)]
  unfold endS; rw [h1, if_neg (fun g => g.2 hs)]; exact hb
theorem loadE_fault {f : List UInt8} (h : ¬ 4194304 < f.length) (hm : magicBad f = none) (hb : (sumS f).2.bad = none) (hl : ¬ (sumS f).2.at_ < f.length) (hs : (sumS f).1 = sumN (f.take (pD f).2.at_)) (hF : (faultF f).1 ≠ 0) : loadE f = some (placeS f (faultF f).2.1 (faultF f).2.2, (faultF f).1) := by
  unfold loadE; rw [if_neg h, hm, endS_good hb hl hs, if_pos hF]
theorem loadE_ok {f : List UInt8} (h : ¬ 4194304 < f.length) (hm : magicBad f = none) (hb : (sumS f).2.bad = none) (hl : ¬ (sumS f).2.at_ < f.length) (hs : (sumS f).1 = sumN (f.take (pD f).2.at_)) (hF : (faultF f).1 = 0) : loadE f = none := by
  unfold loadE; rw [if_neg h, hm, endS_good hb hl hs, if_neg (by rw [hF]; simp)]
theorem sumS_pD {f : List UInt8} (hb : (sumS f).2.bad = none) : (pD f).2.bad = none := (numStep 4294967295 12 (by omega)).bad hb
/-- what is told of a refusal: its place lies in the file, its number is one -/
def BadOk (n : Nat) (s : RS) : Prop := s.at_ ≤ n ∧ ∀ x, s.bad = some x → x.1 ≤ n ∧ x.2 ≠ 0 ∧ x.2 ≤ 100
theorem BadOk.refuse {n : Nat} {s : RS} (h : BadOk n s) {a y : Nat} (ha : a ≤ n) (hy : y ≠ 0 ∧ y ≤ 100) : BadOk n (s.refuse a y) := by
  unfold RS.refuse
  cases hs : s.bad with
  | none => exact ⟨h.1, fun x hx => by cases hx; exact ⟨ha, hy⟩⟩
  | some z => simp only; exact h
theorem BadOk.num {f : List UInt8} {s : RS} (h : BadOk f.length s) (m y : Nat) (hy : y ≠ 0 ∧ y ≤ 100) : BadOk f.length (numS f m y s).2 := by
  have hg := getVal_bd f (s.at_ : Int)
  unfold numS
  split
  · exact h
  · split
    · exact h.refuse (Nat.le_refl _) ⟨by omega, by omega⟩
    · split
      · exact h.refuse h.1 hy
      · exact ⟨hg.2.2 (by omega), h.2⟩
theorem BadOk.word {f : List UInt8} {s : RS} (h : BadOk f.length s) : BadOk f.length (wordS f s).2 := by
  have h1 := h.num 256 21 ⟨by omega, by omega⟩
  unfold wordS
  split
  · exact h1
  · split
    · exact h1.refuse h.1 ⟨by omega, by omega⟩
    · split
      · exact h1.refuse (Nat.le_refl _) ⟨by omega, by omega⟩
      · exact ⟨by show _ + _ ≤ _; omega, fun x hx => by cases hx⟩
theorem BadOk.merge {f : List UInt8} {s : RS} (h : BadOk f.length s) : BadOk f.length (mergeS f s).2 := ((h.num _ 24 ⟨by omega, by omega⟩).num _ 24 ⟨by omega, by omega⟩).num _ 24 ⟨by omega, by omega⟩
theorem BadOk.span {f : List UInt8} {s : RS} (h : BadOk f.length s) : BadOk f.length (spanS f s).2 := (h.num _ 14 ⟨by omega, by omega⟩).num _ 14 ⟨by omega, by omega⟩
theorem BadOk.many {α : Type} {n : Nat} {g : RS → α × RS} (hg : ∀ s, BadOk n s → BadOk n (g s).2) {s : RS} (h : BadOk n s) : ∀ k, BadOk n (manyS g s k).2
  | 0 => h
  | k + 1 => hg _ (BadOk.many hg h k)
theorem sumS_ok {f : List UInt8} (h4 : 4 ≤ f.length) : BadOk f.length (sumS f).2 := by
  have q0 : BadOk f.length ⟨4, none⟩ := ⟨h4, fun x hx => by cases hx⟩
  have q1 : BadOk f.length (pN f).2 := q0.num _ 4 ⟨by omega, by omega⟩
  have q2 : BadOk f.length (pW f).2 := BadOk.many (fun s hs => hs.word) q1 _
  have q3 : BadOk f.length (pM f).2 := BadOk.many (fun s hs => hs.merge) q2 _
  have q4 : BadOk f.length (pKa f).2 := q3.num _ 4 ⟨by omega, by omega⟩
  have q5 : BadOk f.length (pA f).2 := BadOk.many (fun s hs => hs.span) q4 _
  have q6 : BadOk f.length (pKb f).2 := q5.num _ 4 ⟨by omega, by omega⟩
  have q7 : BadOk f.length (pB f).2 := BadOk.many (fun s hs => hs.span) q6 _
  have q8 : BadOk f.length (pKd f).2 := q7.num _ 4 ⟨by omega, by omega⟩
  have q9 : BadOk f.length (pD f).2 := BadOk.many (fun s hs => hs.span) q8 _
  exact q9.num _ 12 ⟨by omega, by omega⟩
theorem wordsAt_why : ∀ (l seen : List ByteArray) (i : Nat), (wordsAt seen i l).2 ≤ 100
  | [], seen, i => by simp [wordsAt]
  | s :: r, seen, i => by
    unfold wordsAt
    split; · simp
    split; · simp
    exact wordsAt_why r _ _
theorem pairsAt_why (ws : List ByteArray) : ∀ (l done : List Mg) (i : Nat), (pairsAt ws done i l).2 ≤ 100
  | [], done, i => by simp [pairsAt]
  | m :: r, done, i => by
    unfold pairsAt
    split; · simp
    split; · simp
    split; · simp
    split; · simp
    exact pairsAt_why ws r _ _
theorem checkW_why (a b d : List Sp) : (checkW a b d).1 ≤ 100 := by
  unfold checkW
  cases hf : (stagesW a b d).findSome? id with
  | none => simp
  | some x =>
    simp only [Option.getD_some]
    obtain ⟨o, ho, hx⟩ := List.exists_of_findSome?_eq_some hf
    simp only [id] at hx; subst hx
    have hl : ∀ (i : Nat) (l : List Sp), longW i l = some x → x.1 ≤ 100 := fun i l h => by
      unfold longW at h; split at h <;> cases h; simp
    have hr : ∀ (i : Nat) (l : List Sp), rightW i l = some x → x.1 ≤ 100 := fun i l h => by
      unfold rightW at h; split at h
      · cases h
      · cases h; rcases rightFrom_why none 0 l with e | e | e <;> rw [e] <;> simp
    simp only [stagesW, List.mem_cons, List.not_mem_nil, or_false] at ho
    rcases ho with ho | ho | ho | ho | ho | ho | ho | ho | ho
    · exact hl _ _ ho.symm
    · exact hl _ _ ho.symm
    · exact hl _ _ ho.symm
    · exact hr _ _ ho.symm
    · exact hr _ _ ho.symm
    · exact hr _ _ ho.symm
    · unfold over1 at ho
      obtain ⟨r, h1, rfl⟩ := Option.map_eq_some_iff.1 ho.symm
      simp
    · unfold over2 at ho
      obtain ⟨r, h1, rfl⟩ := Option.map_eq_some_iff.1 ho.symm
      simp
    · unfold blankW at ho
      split at ho
      · cases ho
      · cases ho; simp
theorem faultW_why (ws : List ByteArray) (ms : List Mg) (a b d : List Sp) : (faultW ws ms a b d).1 ≤ 100 := by
  unfold faultW
  split; · simp
  split; · simp
  split; · exact checkW_why a b d
  split; · exact wordsAt_why ws [] 0
  split; · exact pairsAt_why ws ms [] 0
  simp
theorem getD_le {l : List Nat} {n d : Nat} (h : ∀ x ∈ l, x ≤ n) (hd : d ≤ n) (i : Nat) : l.getD i d ≤ n := by
  rcases Nat.lt_or_ge i l.length with hi | hi
  · rw [List.getD_eq_getElem?_getD, List.getElem?_eq_getElem hi]; exact h _ (List.getElem_mem hi)
  · rw [List.getD_eq_getElem?_getD, List.getElem?_eq_none hi]; exact hd
theorem placeS_le {f : List UInt8} (h4 : 4 ≤ f.length) (list row : Nat) : placeS f list row ≤ f.length := by
  have key : ∀ {α : Type} (L : List (Nat × α)), (∀ x ∈ L, x.1 ≤ f.length) → ∀ x ∈ L.map Prod.fst, x ≤ f.length := by
    intro α L h x hx
    obtain ⟨y, hy, rfl⟩ := List.mem_map.1 hx
    exact h y hy
  unfold placeS
  split; · exact getD_le (key _ (pW_at f h4).2) (by omega) _
  split; · exact getD_le (key _ (pM_at f h4).2) (by omega) _
  split; · exact getD_le (key _ (pA_at f h4).2) (pM_at f h4).1 _
  split; · exact getD_le (key _ (pB_at f h4).2) (pA_at f h4).1 _
  exact getD_le (key _ (pD_at f h4).2) (pB_at f h4).1 _
theorem magicBad_lt {f : List UInt8} {i : Nat} (h : magicBad f = some i) : i < 4 := by
  unfold magicBad at h
  split at h; · cases h; omega
  split at h; · cases h; omega
  split at h; · cases h; omega
  split at h; · cases h; omega
  cases h
/-- a refusal's number and place are bounded -/
theorem loadE_bd {f : List UInt8} {a y : Nat} (h : loadE f = some (a, y)) : y ≠ 0 ∧ y ≤ 100 ∧ a ≤ 4194304 := by
  unfold loadE at h
  split at h; · cases h; simp
  rename_i hlen
  split at h
  · rename_i i hm
    cases h
    have := magicBad_lt hm
    omega
  · rename_i hm
    have h4 := magicBad_len f hm
    have hok := sumS_ok h4
    have hT : BadOk f.length (tailS f) := by
      unfold tailS; split
      · exact hok.refuse hok.1 ⟨by omega, by omega⟩
      · exact hok
    have hE : BadOk f.length (endS f) := by
      unfold endS; split
      · exact hT.refuse (pD_at f h4).1 ⟨by omega, by omega⟩
      · exact hT
    split at h
    · rename_i x hx
      cases h
      have := hE.2 _ hx
      omega
    · split at h
      · rename_i hF
        cases h
        have := placeS_le h4 (faultF f).2.1 (faultF f).2.2
        have := faultW_why (pWs f) (pMs f) (pAs f) (pBs f) (pDs f)
        refine ⟨hF, this, by omega⟩
      · cases h
/-- a bit turned -/
def flipB (f : List UInt8) (k : Nat) : List UInt8 := f.set (k / 8) (f.getD (k / 8) 0 ^^^ UInt8.ofNat (2 ^ (k % 8)))
theorem flipB_length (f : List UInt8) (k : Nat) : (flipB f k).length = f.length := by simp [flipB]
theorem flipB_ne (f : List UInt8) (k : Nat) (h : k < 8 * f.length) : flipB f k ≠ f := by
  intro e
  have h1 := numOf_flip f k h
  change numOf (flipB f k) = _ at h1
  rw [e] at h1
  have h2 : numOf f ^^^ (numOf f ^^^ 2 ^ k) = 0 := by rw [← h1, Nat.xor_self]
  rw [← Nat.xor_assoc, Nat.xor_self, Nat.zero_xor] at h2
  exact absurd h2 (Nat.ne_of_gt (Nat.two_pow_pos k))
theorem sum_flip (B : List UInt8) (k : Nat) (h : k < 8 * B.length) : sumOf B ≠ sumOf (flipB B k) := by
  intro e
  have h1 := (sum_eq_iff B (flipB B k) (flipB_length B k).symm).1 e
  rw [show numOf (flipB B k) = numOf B ^^^ 2 ^ k from numOf_flip B k h, ← Nat.xor_assoc, Nat.xor_self, Nat.zero_xor] at h1
  have h2 : csN (8 * B.length) (2 ^ k) = csN (8 * B.length - k) 1 := by
    conv => lhs; rw [show 8 * B.length = (8 * B.length - k) + k by omega]
    rw [csN_add]
    congr 1
    simpa using csN_shift k 1
  rw [h2] at h1
  exact csN_ne _ 1 (by omega) (by omega) h1
theorem load_flip {f : List UInt8} (h : loadE f = none) (k : Nat) (hk : k < 8 * f.length) : loadE (flipB f k) ≠ none := by
  intro h2
  obtain ⟨B, hB, -⟩ := save_end h
  obtain ⟨C, hC, -⟩ := save_end h2
  have l1 : f.length = B.length + 4 := by rw [hB, List.length_append, be4_length]
  have l2 : (flipB f k).length = C.length + 4 := by rw [hC, List.length_append, be4_length]
  rw [flipB_length] at l2
  have hsum : ∀ {X Y : List UInt8}, be4 (sumN X) = be4 (sumN Y) → sumOf X = sumOf Y := by
    intro X Y e
    have e1 := congrArg beN e
    rw [beN_be4 _ (sumN_lt X), beN_be4 _ (sumN_lt Y)] at e1
    have e2 : ~~~(sumOf X) = ~~~(sumOf Y) := UInt32.toNat_inj.1 e1
    have e3 := congrArg (fun x => ~~~x) e2
    simpa using e3
  by_cases hlt : k / 8 < B.length
  · have e : flipB f k = flipB B k ++ be4 (sumN B) := by
      have hg : f.getD (k / 8) 0 = B.getD (k / 8) 0 := by
        rw [hB, List.getD_eq_getElem?_getD, List.getElem?_append_left hlt, List.getD_eq_getElem?_getD]
      unfold flipB
      rw [hg]
      conv => lhs; rw [hB]
      rw [List.set_append_left _ _ hlt]
    rw [e] at hC
    have := List.append_inj hC (by rw [flipB_length]; omega)
    rw [← this.1] at this
    exact sum_flip B k (by omega) (hsum this.2)
  · have e : flipB f k = B ++ flipB (be4 (sumN B)) (k - 8 * B.length) := by
      have hk8 : (k - 8 * B.length) / 8 = k / 8 - B.length := by omega
      have hk9 : (k - 8 * B.length) % 8 = k % 8 := by omega
      have hg : f.getD (k / 8) 0 = (be4 (sumN B)).getD (k / 8 - B.length) 0 := by
        conv => lhs; rw [hB]
        rw [List.getD_eq_getElem?_getD, List.getElem?_append_right (by omega), List.getD_eq_getElem?_getD]
      unfold flipB
      rw [hk8, hk9, hg]
      conv => lhs; rw [hB]
      rw [List.set_append_right _ _ (by omega)]
    rw [e] at hC
    have := List.append_inj hC (by omega)
    rw [← this.1] at this
    exact flipB_ne (be4 (sumN B)) (k - 8 * B.length) (by rw [be4_length]; omega) this.2
end Go.Proofs.YtgohinklnglgeaaDoor

set_option linter.unusedVariables false
set_option linter.unusedSimpArgs false
namespace Go.Proofs.YtgohinklnglgeaaDoor
open Go.RowKit
attribute [local go_sem] Oper.semAt_some

def LoadPost (w : World) (f : List UInt8) (e : Ending) (w' : World) : Prop :=
  Only [] w w' ∧
  ((∃ a y b, loadE f = some (a, y) ∧ w.heap.size ≤ b ∧ e = .returned (.tuple #[.pointer none, .iface 78 (.pointer (some ⟨b, 0, none⟩))]) ∧ Blk w' b 80 [.int .i64 (a : Int), .int .i64 (y : Int)]) ∨
   (loadE f = none ∧ ∃ g base, w.heap.size ≤ base ∧ e = .returned (.tuple #[.pointer (some ⟨g, 0, none⟩), .nilIface]) ∧ MdAt w' base g (pWs f) (pMs f) (pAs f) (pBs f) (pDs f) (pMs f).length (lookM 0 (pMs f)) (lgF (pWs f))))
theorem LoadPost.bad {w : World} {f : List UInt8} {a y b : Nat} {w' : World} (h : loadE f = some (a, y)) (hb : w.heap.size ≤ b) (hB : Blk w' b 80 [.int .i64 (a : Int), .int .i64 (y : Int)]) (hO : Only [] w w') : LoadPost w f (.returned (.tuple #[.pointer none, .iface 78 (.pointer (some ⟨b, 0, none⟩))])) w' := ⟨hO, .inl ⟨a, y, b, h, hb, rfl, hB⟩⟩
theorem LoadPost.good {w : World} {f : List UInt8} {g base : Nat} {w' : World} (h : loadE f = none) (hb : w.heap.size ≤ base) (hM : MdAt w' base g (pWs f) (pMs f) (pAs f) (pBs f) (pDs f) (pMs f).length (lookM 0 (pMs f)) (lgF (pWs f))) (hO : Only [] w w') : LoadPost w f (.returned (.tuple #[.pointer (some ⟨g, 0, none⟩), .nilIface])) w' := ⟨hO, .inr ⟨h, g, base, hb, rfl, hM⟩⟩

set_option maxRecDepth 100000 in
set_option maxHeartbeats 8000000 in
theorem load_any (w : World) (A : Option Addr) (n c : Nat) (f : List UInt8) (hl : f.length = n) (hR : Rd w w.heap.size 1 A n (bvs f)) (hn : n ≤ 140737488351232) (hnc : n ≤ c) :
    Calls Tryd.prog 11 #[.slice A n c] w (LoadPost w f) := by
  obtain ⟨p, hp⟩ : ∃ z, z = w.heap.size := ⟨_, rfl⟩
  by_cases hlong : 4194304 < n
  · have hli : (4194304 : Int) < (n : Int) := by omega
    have hE := Lib.hid (loadE_long (f := f) (by omega))
    have Hp := Lib.hid hp
    clear hl hR hp
    go_enter Tryd.func11, Tryd.ntmps11
    go_wp2_with (fail)
    go_ret2
    exact LoadPost.bad hE.out (Nat.le_refl _) (Blk.new' _ _ _ rfl rfl) ((Only.refl _ _).alloc _)
  · have hli : ¬ (4194304 : Int) < (n : Int) := by omega
    obtain ⟨W1, hW1⟩ : ∃ z, z = w.alloc (.cells #[.slice A n c, .int .i64 0, .pointer none, .slice none 0 0, .slice none 0 0, .slice none 0 0, .slice none 0 0, .slice none 0 0, .int .i64 0, .int .i64 0, .int .i64 0] 85) := ⟨_, rfl⟩
    have hb1 : Blk W1 p 85 [.slice A n c, .int .i64 0, .pointer none, .slice none 0 0, .slice none 0 0, .slice none 0 0, .slice none 0 0, .slice none 0 0, .int .i64 0, .int .i64 0, .int .i64 0] := by rw [hW1]; exact Blk.new' _ _ _ hp.symm rfl
    have hO1 : Only [] w W1 := by rw [hW1]; exact (Only.refl _ _).alloc _
    have hR1 : Rd W1 p 1 A n (bvs f) := by rw [hp]; exact hR.only hO1 (by simp)
    have hdata := data_any6 W1 p p A n c f hl hR1 (Nat.le_refl _) hn hnc ⟨_, hb1, rfl⟩
    have Hdata := Lib.hid hdata
    have Hp := Lib.hid hp
    have HW := Lib.hid hW1
    have HO1 := Lib.hid hO1
    have HR1 := Lib.hid hR1
    have Hl := Lib.hid hl
    have Hlong := Lib.hid (show ¬ 4194304 < f.length by omega)
    have Hfin := Lib.hid (fun W' (h : Only [p] W1 W') => hO1.trans' h (by intro x hx; simp at hx; subst hx; exact .inr (by omega)))
    clear hdata hp hW1 hb1 hO1 hR1 hR hl hlong
    go_enter Tryd.func11, Tryd.ntmps11
    go_upto_region 4 with (fail)
    rw [← Hp.out, ← HW.out]
    go_wp2_with (fail)
    refine Hdata.out.mono ?_
    rintro e W2 ⟨hO2, ⟨i, hm, rfl, hr⟩ | ⟨hm, v0, v1, v2, v3, v4, q0, q1, q2, q3, q4, rfl, hr, hR5, hq0, hq1, hq2, hq3, hq4⟩⟩
    · have hE := Lib.hid (loadE_magic Hlong.out hm)
      have HO2 := Lib.hid hO2
      have Hr := Lib.hid hr
      obtain ⟨rv, hb, -⟩ := hr
      have HR2 := Lib.hid (HR1.out.only hO2 (by simp))
      clear hm Hdata hb hO2
      go_upto_region 5 with (fail)
      refine name_it (p := fun y => Code.wp _ _ _ _ y) ?_
      intro W3 H3
      have hO3 : Only [] W2 W3 := by rw [H3.out]; exact (Only.refl _ _).alloc _
      have hr3 := Hr.out.only hO3 (by simp) (by simp)
      have hR3 := HR2.out.only hO3 (by simp)
      have c1 : W3.cell? ⟨p, 1, none⟩ = some (.int .i64 0) := by obtain ⟨rv, hb, -⟩ := hr3; exact hb.cell 1
      have hnum := number_any W3 p p A n c f Hl.out hR3 (Nat.le_refl _) hn hnc ⟨0, some (i, 11)⟩ (by simp) _ _ _ _ _ _ _ _ 4294967295 12 (by omega) hr3
      rw [numS_stick f _ _ _ rfl] at hnum
      have Hnum := Lib.hid hnum
      have HO3 := Lib.hid hO3
      clear H3 hr3 hR3 hnum hO3
      go_wp2_with (fail)
      refine Hnum.out.mono ?_
      rintro e W4 ⟨rfl, hr4, hO4⟩
      obtain ⟨rv, hb4, hv4⟩ := hr4
      obtain ⟨b, hpb, rfl, hbb⟩ := hv4
      have k2 : W4.cell? ⟨p, 2, none⟩ = some (.pointer (some ⟨b, 0, none⟩)) := hb4.cell 2
      have HB := Lib.hid hbb
      have HO4 := Lib.hid ((HO2.out.trans0 HO3.out).trans hO4)
      clear Hnum hb4 hbb hO4 c1
      go_wp2_with (fail)
      go_quiet (fail)
      go_wp2_with (fail)
      go_ret2
      exact LoadPost.bad hE.out (by rw [← Hp.out]; omega) (HB.out.drewN _) ((Hfin.out _ HO4.out).drewN _)
    · have h4 := magicBad_len f hm
      have Hm := Lib.hid hm
      have HO2 := Lib.hid hO2
      have HR2 := Lib.hid (HR1.out.only hO2 (by simp))
      have H5 := Lib.hid hR5
      obtain ⟨⟨A0, c0, rfl, -⟩, ⟨A1, c1, rfl, -⟩, ⟨A2, c2, rfl, -⟩, ⟨A3, c3, rfl, -⟩, ⟨A4, c4, rfl, -⟩⟩ := hR5.rd
      have Hq := Lib.hid (And.intro hq0 (And.intro hq1 (And.intro hq2 (And.intro hq3 hq4))))
      obtain ⟨S, hS⟩ : ∃ z, z = (pD f).2 := ⟨_, rfl⟩
      rw [← hS] at hr
      have Hr := Lib.hid hr
      have hSa : S.at_ ≤ n := by rw [hS, ← Hl.out]; exact (pD_at f h4).1
      obtain ⟨rv, hb, -⟩ := hr
      have k1 : W2.cell? ⟨p, 1, none⟩ = some (.int .i64 (S.at_ : Int)) := hb.cell 1
      have HS := Lib.hid hS
      clear hm Hdata hb hO2 hS h4 hq0 hq1 hq2 hq3 hq4
      obtain ⟨d, hd⟩ : ∃ z, z = W2.heap.size := ⟨_, rfl⟩
      go_upto_region 5 with (fail)
      rw [← hd]
      refine name_it (p := fun y => Code.wp _ _ _ _ y) ?_
      intro W3 H3
      have hO3 : Only [] W2 W3 := by rw [H3.out]; exact (Only.refl _ _).alloc _
      have hD3 : Blk W3 d 38 [.slice A0 (pWs f).length c0, .slice A1 (pMs f).length c1, .slice A2 (pAs f).length c2, .slice A3 (pBs f).length c3, .slice A4 (pDs f).length c4] := by rw [H3.out]; exact Blk.new' _ _ _ hd.symm rfl
      have hr3 := Hr.out.only hO3 (by simp) (by simp)
      have hR3 := HR2.out.only hO3 (by simp)
      have h53 := H5.out.only hO3 (by simp)
      have hpd : p < d := by rw [hd]; exact Hr.out.lt
      have k3 : W3.cell? ⟨p, 1, none⟩ = some (.int .i64 (S.at_ : Int)) := by obtain ⟨rv, hb, -⟩ := hr3; exact hb.cell 1
      have hnum := number_any W3 p p A n c f Hl.out hR3 (Nat.le_refl _) hn hnc S hSa _ _ _ _ _ _ _ _ 4294967295 12 (by omega) hr3
      obtain ⟨NS, hNS⟩ : ∃ z, z = sumS f := ⟨_, rfl⟩
      rw [show numS f 4294967295 12 S = NS by rw [hNS, HS.out]; rfl] at hnum
      have hNb := numS_at f 4294967295 12 S (by rw [Hl.out]; exact hSa)
      rw [show numS f 4294967295 12 S = NS by rw [hNS, HS.out]; rfl] at hNb
      have Hnum := Lib.hid hnum
      have HNS := Lib.hid hNS
      have HO3 := Lib.hid hO3
      have HD3 := Lib.hid hD3
      have HR3 := Lib.hid hR3
      have H53 := Lib.hid h53
      clear H3 hr3 hR3 hD3 k1 hO3 hnum hNS h53 hd H5 HR2
      obtain ⟨sm, s1⟩ := NS
      simp only at hNb
      go_wp2_with (fail)
      refine Hnum.out.mono ?_
      rintro e W4 ⟨rfl, hr4, hO4⟩
      have hO24 := Lib.hid ((HO2.out.trans0 HO3.out).trans hO4)
      have HD4 := Lib.hid (HD3.out.only hO4 (by simp; omega))
      have hpb3 : ∀ x ∈ [p], ∃ cs, Blk W3 x 85 cs := by intro x hx; simp at hx; subst hx; obtain ⟨rv, hb, -⟩ := Hr.out.only HO3.out (by simp) (by simp); exact ⟨_, hb⟩
      have H54 := Lib.hid (H53.out.only hO4 (by intro x hx; obtain ⟨cs, hb⟩ := hpb3 x hx; exact ⟨_, cs, hb, by decide, by decide, by decide⟩))
      have Hq4 := Lib.hid (show _ ∧ _ ∧ _ ∧ _ ∧ _ from ⟨(Hq.out.1.only HO3.out (by simp)).only hO4 (by intro x hx; obtain ⟨cs, hb⟩ := hpb3 x hx; exact ⟨_, cs, hb, by decide⟩), (Hq.out.2.1.only HO3.out (by simp)).only hO4 (by intro x hx; obtain ⟨cs, hb⟩ := hpb3 x hx; exact ⟨_, cs, hb, by decide⟩), (Hq.out.2.2.1.only HO3.out (by simp)).only hO4 (by intro x hx; obtain ⟨cs, hb⟩ := hpb3 x hx; exact ⟨_, cs, hb, by decide⟩), (Hq.out.2.2.2.1.only HO3.out (by simp)).only hO4 (by intro x hx; obtain ⟨cs, hb⟩ := hpb3 x hx; exact ⟨_, cs, hb, by decide⟩), (Hq.out.2.2.2.2.only HO3.out (by simp)).only hO4 (by intro x hx; obtain ⟨cs, hb⟩ := hpb3 x hx; exact ⟨_, cs, hb, by decide⟩)⟩)
      have HR4 := Lib.hid (HR3.out.only hO4 (by simp))
      have HO34 := Lib.hid hO4
      have Hr4 := Lib.hid hr4
      obtain ⟨rv, hb4, hv4⟩ := hr4
      have e0 : W4.cell? ⟨p, 2, none⟩ = some rv := hb4.cell 2
      have e1 : W4.cell? ⟨p, 1, none⟩ = some (.int .i64 (s1.at_ : Int)) := hb4.cell 1
      have Hb4 := Lib.hid hb4
      clear Hnum k3 hO4 hb4 HD3 HR3
      cases hs1 : s1.bad with
      | some x =>
        obtain ⟨xa, xy⟩ := x
        unfold noV at hv4
        rw [hs1] at hv4
        obtain ⟨b, hpb, rfl, hbb⟩ := hv4
        have hE := Lib.hid (loadE_bad Hlong.out Hm.out (x := (xa, xy)) (by rw [← HNS.out]; exact hs1))
        have HB := Lib.hid hbb
        clear hs1 hbb
        go_wp2_with (fail)
        go_quiet (fail)
        go_wp2_with (fail)
        go_ret2
        exact LoadPost.bad hE.out (by rw [← Hp.out]; omega) (HB.out.drewN _) ((Hfin.out _ hO24.out).drewN _)
      | none =>
        unfold noV at hv4
        rw [hs1] at hv4
        subst hv4
        by_cases hlt : s1.at_ < n
        · have hlti : (s1.at_ : Int) < (n : Int) := by omega
          have hE := Lib.hid (loadE_tail Hlong.out Hm.out (by rw [← HNS.out]; exact hs1) (by rw [← HNS.out, Hl.out]; exact hlt))
          rw [← HNS.out] at hE
          have Href := Lib.hid (refuse_any W4 p _ s1 _ _ _ _ _ _ _ _ s1.at_ 13 Hr4.out)
          have Hs1 := Lib.hid hs1
          clear hs1
          go_wp2_with (fail)
          refine Href.out.mono ?_
          rintro e W5 ⟨⟨v, rfl⟩, hr5, hO5⟩
          obtain ⟨rv5, hb5, hv5⟩ := hr5
          rw [show s1.refuse s1.at_ 13 = ⟨s1.at_, some (s1.at_, 13)⟩ by unfold RS.refuse; rw [Hs1.out]] at hv5
          obtain ⟨b, hpb, rfl, hbb⟩ := hv5
          have k2 : W5.cell? ⟨p, 2, none⟩ = some (.pointer (some ⟨b, 0, none⟩)) := hb5.cell 2
          have HB := Lib.hid hbb
          have HO5 := Lib.hid (hO24.out.trans hO5)
          clear hb5 hbb hO5 e0 e1
          go_wp2_with (fail)
          go_quiet (fail)
          go_wp2_with (fail)
          go_ret2
          exact LoadPost.bad hE.out (by rw [← Hp.out]; omega) (HB.out.drewN _) ((Hfin.out _ HO5.out).drewN _)
        · have hlti : ¬ (s1.at_ : Int) < (n : Int) := by omega
          have hsl := run_slice_h (P := Tryd.prog) (A := A) (n := n) (c := c) (m := S.at_) (hi := (S.at_ : Int)) Tryd.underlying22 (size := 1) (by kernel_rfl) rfl (by omega)
          have hRt : Rd W4 p 1 A S.at_ (bvs (f.take S.at_)) := by have := HR4.out.take (k := S.at_) hSa; rwa [Nat.mul_one, bvs_take] at this
          have hsum := Lib.hid (fun W (h : Only [] W4 W) => sum_any A S.at_ c p (f.take S.at_) W ((hRt.only h (by simp)).more (by have := h.size; have := HD4.out.lt; omega)) (by omega))
          have hwu : IntKind.u32.wrap (sm : Int) = (sm : Int) := by
            show (sm : Int) % 4294967296 = _
            omega
          obtain ⟨X, hX⟩ : ∃ z, z = sumN (f.take S.at_) := ⟨_, rfl⟩
          rw [show (~~~(sumOf (f.take S.at_))).toNat = X from hX.symm] at hsum
          have HX := Lib.hid hX
          clear hRt hX
          by_cases heq : sm = X
          · have hDb := sumS_pD (f := f) (by rw [← HNS.out]; exact hs1)
            obtain ⟨hOk, -, -⟩ := parse_read Hm.out hDb
            have HOk := Lib.hid hOk
            have hs1' : (sumS f).2.bad = none := by rw [← HNS.out]; exact hs1
            have hs2' : ¬ (sumS f).2.at_ < f.length := by rw [← HNS.out, Hl.out]; exact hlt
            have hs3' : (sumS f).1 = sumN (f.take (pD f).2.at_) := by rw [← HNS.out, ← HS.out, ← HX.out]; exact heq
            have Hfa := Lib.hid (loadE_fault Hlong.out Hm.out hs1' hs2' hs3')
            have Hok := Lib.hid (loadE_ok Hlong.out Hm.out hs1' hs2' hs3')
            subst heq
            have hne : ((sm : Int) != (sm : Int)) = false := by simp
            have Hs1 := Lib.hid hs1
            clear hs1 hDb hOk hs1' hs2' hs3'
            go_wp2_with (fail)
            refine (hsum.out _ (Only.refl _ _)).mono ?_
            rintro e W5 ⟨rfl, hO5⟩
            have hr5 := Hr4.out.only hO5 (by simp) (by simp)
            have Hr5 := Lib.hid hr5
            obtain ⟨rv5, hb5, hv5⟩ := hr5
            unfold noV at hv5
            rw [show s1.bad = none from Hs1.out] at hv5
            subst hv5
            have e2 : W5.cell? ⟨p, 2, none⟩ = some (.pointer none) := hb5.cell 2
            have HO5 := Lib.hid (hO24.out.trans0 hO5)
            have hD5 := HD4.out.only hO5 (by simp)
            have m0 : W5.cell? ⟨d, 0, none⟩ = some _ := hD5.cell 0
            have m1 : W5.cell? ⟨d, 1, none⟩ = some _ := hD5.cell 1
            have m2 : W5.cell? ⟨d, 2, none⟩ = some _ := hD5.cell 2
            have m3 : W5.cell? ⟨d, 3, none⟩ = some _ := hD5.cell 3
            have m4 : W5.cell? ⟨d, 4, none⟩ = some _ := hD5.cell 4
            have H55 := Lib.hid (H54.out.only hO5 (by simp)).rd
            have Hq5 := Lib.hid (show _ ∧ _ ∧ _ ∧ _ ∧ _ from ⟨Hq4.out.1.only hO5 (by simp), Hq4.out.2.1.only hO5 (by simp), Hq4.out.2.2.1.only hO5 (by simp), Hq4.out.2.2.2.1.only hO5 (by simp), Hq4.out.2.2.2.2.only hO5 (by simp)⟩)
            clear hb5 hO5 e0 e1 hsum hD5
            go_wp2_with (fail)
            have hnew := newM_any W5 _ _ _ _ _ (pWs f) (pMs f) (pAs f) (pBs f) (pDs f) H55.out (by have := HOk.out.n; omega) (by have := HOk.out.n; have := HOk.out.nm; omega) (by have := HOk.out.la; omega) (by have := HOk.out.lb; omega) (by have := HOk.out.ld; omega) (fun s hs => by have := (HOk.out.w s hs).2; unfold maxLen; omega) (fun m hm => by have := HOk.out.m m hm; unfold mOk nOk at this; unfold Mg.ok i64ok; omega)
            refine hnew.mono ?_
            intro e W6 hpost
            obtain ⟨T, hT⟩ : ∃ z, z = faultF f := ⟨_, rfl⟩
            obtain ⟨v, he, hO6, hcase⟩ := hpost
            rw [show faultW (pWs f) (pMs f) (pAs f) (pBs f) (pDs f) = T from hT.symm] at he hcase
            subst he
            have HT := Lib.hid hT
            have HO6 := Lib.hid (HO5.out.trans0 hO6)
            have HO56 := Lib.hid hO6
            clear hnew hT m0 m1 m2 m3 m4 e2 hO6
            rcases hcase with ⟨hT0, g, base, hbase, rfl, hM⟩ | ⟨hT0, rfl⟩
            · have hE := Lib.hid (Hok.out (by rw [← HT.out]; exact hT0))
              have HM := Lib.hid hM
              have Hbase := Lib.hid (show w.heap.size ≤ base by
                have h1 := HO5.out.size
                have h2 := HO1.out.size
                omega)
              clear hT0 hM hbase
              go_wp2_with (fail)
              go_ret2
              exact LoadPost.good hE.out Hbase.out (HM.out.only0 ((Only.refl [] W6).alloc _)) ((Hfin.out _ HO6.out).alloc _)
            · have hE := Lib.hid (Hfa.out (by rw [← HT.out]; exact hT0))
              rw [← HT.out] at hE
              have hrow := fault_row HOk.out (by change (faultF f).1 ≠ 0; rw [← HT.out]; exact hT0)
              rw [show faultW (pWs f) (pMs f) (pAs f) (pBs f) (pDs f) = T from HT.out.symm] at hrow
              obtain ⟨ty, tl, tr⟩ := T
              simp only at hrow hT0
              have GP := Lib.hid (fun V (h : Only [] W6 V) => place_any V p (.slice A n c) s1 q0 q1 q2 q3 q4 ((pW f).1.map Prod.fst) ((pM f).1.map Prod.fst) ((pA f).1.map Prod.fst) ((pB f).1.map Prod.fst) ((pD f).1.map Prod.fst) (pM f).2.at_ (pA f).2.at_ (pB f).2.at_ tl tr
                (Hr5.out.only (HO56.out.trans h) (by simp) (by simp)) (Hq5.out.1.only (HO56.out.trans h) (by simp)) (Hq5.out.2.1.only (HO56.out.trans h) (by simp)) (Hq5.out.2.2.1.only (HO56.out.trans h) (by simp)) (Hq5.out.2.2.2.1.only (HO56.out.trans h) (by simp)) (Hq5.out.2.2.2.2.only (HO56.out.trans h) (by simp))
                (by
                  have e1 : ((pW f).1.map Prod.fst).length = (pWs f).length := by unfold pWs; simp
                  have e2 : ((pM f).1.map Prod.fst).length = (pMs f).length := by unfold pMs; simp
                  rw [e1, e2]; omega)
                (by have := HOk.out.n; unfold pWs at this; simpa using this) (by have := HOk.out.n; have := HOk.out.nm; unfold pMs pWs at *; simp at *; omega) (by have := HOk.out.la; unfold pAs at this; simp at *; omega) (by have := HOk.out.lb; unfold pBs at this; simp at *; omega) (by have := HOk.out.ld; unfold pDs at this; simp at *; omega))
              obtain ⟨P, hP⟩ : ∃ z, z = placeS f tl tr := ⟨_, rfl⟩
              rw [show placeV ((pW f).1.map Prod.fst) ((pM f).1.map Prod.fst) ((pA f).1.map Prod.fst) ((pB f).1.map Prod.fst) ((pD f).1.map Prod.fst) (pM f).2.at_ (pA f).2.at_ (pB f).2.at_ tl tr = P from hP.symm] at GP
              simp only at hE
              rw [← hP] at hE
              clear hT0 hrow hP
              obtain ⟨h9, hh9⟩ : ∃ z, z = W6.heap.size := ⟨_, rfl⟩
              go_upto_region 14 with (fail)
              rw [← hh9]
              refine name_it (p := fun y => Code.wp _ _ _ _ y) ?_
              intro W7 H7
              have hF7 : Blk W7 h9 66 [.int .i64 (ty : Int), .int .i64 (tl : Int), .int .i64 (tr : Int)] := by rw [H7.out]; exact Blk.new' _ _ _ hh9.symm rfl
              have hO7 : Only [] W6 W7 := by rw [H7.out]; exact (Only.refl _ _).alloc _
              have KS := Lib.hid (fun V (h : Only [] W7 V) => (⟨(hF7.only h (by simp)).cell 0, (hF7.only h (by simp)).cell 1, (hF7.only h (by simp)).cell 2⟩ : V.cell? ⟨h9, 0, none⟩ = some (.int .i64 (ty : Int)) ∧ V.cell? ⟨h9, 1, none⟩ = some (.int .i64 (tl : Int)) ∧ V.cell? ⟨h9, 2, none⟩ = some (.int .i64 (tr : Int))))
              have HO7 := Lib.hid hO7
              have Hwz := Lib.hid (show w.heap.size ≤ W7.heap.size by have := hO7.size; have := (Hfin.out _ HO6.out).size; omega)
              clear H7 hF7 hO7 hh9
              go_wp2_with (fail)
              go_region_held3 (fun V => (V.cell? ⟨h9, 0, none⟩ = some (.int .i64 (ty : Int)) ∧ V.cell? ⟨h9, 1, none⟩ = some (.int .i64 (tl : Int)) ∧ V.cell? ⟨h9, 2, none⟩ = some (.int .i64 (tr : Int))) ∧ Only [] W7 V)
                (first | exact ⟨KS.out _ ((Only.refl _ _).drew), (Only.refl _ _).drew⟩ | exact ⟨KS.out _ (by assumption), (by assumption)⟩ | exact ⟨KS.out _ (Only.alloc (by assumption) _), Only.alloc (by assumption) _⟩ | fail)
                (first
                  | (go_at_call 36
                     obtain ⟨-, hF⟩ := (by assumption : _ ∧ Only [] W7 _)
                     refine (GP.out _ (HO7.out.trans hF)).mono ?_
                     rintro e w1 ⟨rfl, rfl⟩))
              all_goals
                go_wp2_with (fail)
                go_ret2
                first
                  | exact LoadPost.bad hE.out (by simpa using Hwz.out) (Blk.new' _ _ _ rfl rfl) ((((Hfin.out _ HO6.out).trans HO7.out).drew).alloc _)
                  | exact LoadPost.bad hE.out (by simpa using Hwz.out) (Blk.drew (Blk.new' _ _ _ rfl rfl)) ((((Hfin.out _ HO6.out).trans HO7.out).alloc _).drew)
                  | exact LoadPost.bad hE.out (by simpa using Hwz.out) (Blk.new' _ _ _ rfl rfl) (((Hfin.out _ HO6.out).trans HO7.out).trans (by assumption))
          · have hE := Lib.hid (loadE_sum Hlong.out Hm.out (by rw [← HNS.out]; exact hs1) (by rw [← HNS.out, Hl.out]; exact hlt) (by rw [← HNS.out, ← HS.out, ← HX.out]; exact heq))
            rw [← HS.out] at hE
            have hne : ((sm : Int) != (X : Int)) = true := by
              simp only [bne_iff_ne, ne_eq]
              intro e; apply heq; omega
            have Hs1 := Lib.hid hs1
            clear hs1 heq
            go_wp2_with (fail)
            refine (hsum.out _ (Only.refl _ _)).mono ?_
            rintro e W5 ⟨rfl, hO5⟩
            have hr5 := Hr4.out.only hO5 (by simp) (by simp)
            have Hr5 := Lib.hid hr5
            obtain ⟨rv5, hb5, hv5⟩ := hr5
            unfold noV at hv5
            rw [show s1.bad = none from Hs1.out] at hv5
            subst hv5
            have e2 : W5.cell? ⟨p, 2, none⟩ = some (.pointer none) := hb5.cell 2
            have HO5 := Lib.hid (hO24.out.trans0 hO5)
            clear hb5 hO5 e0 e1 hsum
            go_wp2_with (fail)
            refine (refuse_any W5 p _ s1 _ _ _ _ _ _ _ _ S.at_ 12 Hr5.out).mono ?_
            rintro e W6 ⟨⟨v, rfl⟩, hr6, hO6⟩
            obtain ⟨rv6, hb6, hv6⟩ := hr6
            rw [show s1.refuse S.at_ 12 = ⟨s1.at_, some (S.at_, 12)⟩ by unfold RS.refuse; rw [Hs1.out]] at hv6
            obtain ⟨b, hpb, rfl, hbb⟩ := hv6
            have k2 : W6.cell? ⟨p, 2, none⟩ = some (.pointer (some ⟨b, 0, none⟩)) := hb6.cell 2
            have HB := Lib.hid hbb
            have HO6 := Lib.hid (HO5.out.trans hO6)
            clear hb6 hbb hO6 e2
            go_wp2_with (fail)
            go_quiet (fail)
            go_wp2_with (fail)
            go_ret2
            exact LoadPost.bad hE.out (by rw [← Hp.out]; omega) (HB.out.drewN _) ((Hfin.out _ HO6.out).drewN _)
end Go.Proofs.YtgohinklnglgeaaDoor

set_option linter.unusedVariables false
set_option linter.unusedSectionVars false
set_option linter.unusedSimpArgs false
namespace Go.Proofs.YtgohinklnglgeaaDoor
open Go.RowKit
attribute [local go_sem] Oper.semAt_some

/-- bytes of the call's own -/
def BRow (base : Nat) (w : World) (v : Value) (l : List UInt8) : Prop := w.ownsRow base 5 1 v l.length (bvs l)
theorem BRow.only {base : Nat} {w w' : World} {v : Value} {l : List UInt8} (h : BRow base w v l) (hO : Only [] w w') : BRow base w' v l := own_only h hO (by simp)
theorem BRow.of {base : Nat} {w : World} {v : Value} {l m : List UInt8} (h : BRow base w v l) (e : l = m) : BRow base w v m := e ▸ h
section
variable {base : Nat} {w : World} {v : Value} {l : List UInt8} (h : BRow base w v l) (hl : l.length ≤ 1000000000) (hbw : base ≤ w.heap.size)
include h hl hbw
theorem putB (x : Nat) (hx : x < 4294967296) : Calls Tryd.prog 29 #[v, .int .u32 (x : Int)] w fun e w' => Ex fun v' => e = .returned v' ∧ BRow base w' v' (l ++ be4 x) ∧ Only [] w w' := by
  obtain ⟨A, c, rfl, hc, hR, -⟩ := own_slice h
  refine (put_any A l.length c x l w hR (by omega) hx hc).mono ?_
  rintro e w' ⟨v', rfl, ho, hO⟩
  refine ⟨v', rfl, ?_, hO⟩
  unfold BRow
  rw [List.length_append, be4_length]
  exact own_base ho hbw
theorem putTextB (s : ByteArray) (hs : s.size < 4294967296) : Calls Tryd.prog 30 #[v, .string s] w fun e w' => Ex fun v' => e = .returned v' ∧ BRow base w' v' (l ++ wEnc s) ∧ Only [] w w' := by
  obtain ⟨A, c, rfl, hc, hR, -⟩ := own_slice h
  refine (putText_any A l.length c l s w hR (by omega) hs hc).mono ?_
  rintro e w' ⟨v', rfl, ho, hO⟩
  refine ⟨v', rfl, ?_, hO⟩
  unfold BRow
  have e1 : putText l s = l ++ wEnc s := by unfold putText wEnc; rw [List.append_assoc]
  rw [List.length_append, wEnc_length, ← e1, ← Nat.add_assoc]
  exact own_base ho hbw
theorem refPutB (x : Nat) (hx : x < 4294967296) : Calls Tryd.prog 43 #[v, .int .u32 (x : Int)] w fun e w' => Ex fun v' => e = .returned v' ∧ BRow base w' v' (l ++ be4 x) ∧ Only [] w w' := by
  obtain ⟨A, c, rfl, hc, hR, -⟩ := own_slice h
  refine (refPut_any A l.length c x l w hR (by omega) hx hc).mono ?_
  rintro e w' ⟨v', rfl, ho, hO⟩
  refine ⟨v', rfl, ?_, hO⟩
  unfold BRow
  rw [List.length_append, be4_length]
  exact own_base ho hbw
theorem refPutTextB (s : ByteArray) (hs : s.size < 4294967296) : Calls Tryd.prog 44 #[v, .string s] w fun e w' => Ex fun v' => e = .returned v' ∧ BRow base w' v' (l ++ wEnc s) ∧ Only [] w w' := by
  obtain ⟨A, c, rfl, hc, hR, -⟩ := own_slice h
  refine (refPutText_any A l.length c l s w hR (by omega) hs hc).mono ?_
  rintro e w' ⟨v', rfl, ho, hO⟩
  refine ⟨v', rfl, ?_, hO⟩
  unfold BRow
  have e1 : putText l s = l ++ wEnc s := by unfold putText wEnc; rw [List.append_assoc]
  rw [List.length_append, wEnc_length, ← e1, ← Nat.add_assoc]
  exact own_base ho hbw
theorem sumB : Calls Tryd.prog 31 #[v] w fun e w' => e = .returned (.int .u32 (sumN l : Int)) ∧ Only [] w w' := by
  obtain ⟨A, c, rfl, hc, hR, -⟩ := own_slice h
  exact sum_any A l.length c 0 l w hR (by omega)
theorem refSumB : Calls Tryd.prog 46 #[v] w fun e w' => e = .returned (.int .u32 (sumN l : Int)) ∧ w = w' := by
  obtain ⟨A, c, rfl, hc, hR, -⟩ := own_slice h
  have := refSum_any A l.length c 0 l w hR (by omega)
  rwa [← sumOf_eq_refOf] at this
end
theorem encs_take {α : Type} (enc : α → List UInt8) (xs : List α) (k : Nat) (x : α) (h : xs[k]? = some x) : encs enc (xs.take (k + 1)) = encs enc (xs.take k) ++ enc x := by
  rw [List.take_add_one, h]
  exact encs_snoc enc _ x
theorem encs_le {α : Type} {enc : α → List UInt8} {m : Nat} : ∀ (xs : List α), (∀ x ∈ xs, (enc x).length ≤ m) → (encs enc xs).length ≤ xs.length * m
  | [], _ => by simp [encs]
  | x :: xs, h => by
    have h1 := h x (by simp)
    have h2 := encs_le xs (fun y hy => h y (by simp [hy]))
    simp only [encs, List.flatMap_cons, List.length_append, List.length_cons, Nat.add_mul, Nat.one_mul] at h2 ⊢
    omega
theorem encs_take_le {α : Type} {enc : α → List UInt8} {m : Nat} (xs : List α) (h : ∀ x ∈ xs, (enc x).length ≤ m) (k N : Nat) (hN : xs.length ≤ N) : (encs enc (xs.take k)).length ≤ N * m := by
  have h1 := encs_le (enc := enc) (xs.take k) (fun x hx => h x (List.mem_of_mem_take hx))
  have h2 : (xs.take k).length ≤ N := by rw [List.length_take]; omega
  exact Nat.le_trans h1 (Nat.mul_le_mul_right _ h2)
theorem nat_of {x : Int} {m : Nat} (h0 : 0 ≤ x) (h1 : x ≤ (m : Int)) : ∃ a : Nat, x = (a : Int) ∧ a ≤ m := ⟨x.toNat, by omega, by omega⟩

set_option maxRecDepth 100000 in
set_option maxHeartbeats 4000000 in
theorem refSpans_any {base : Nat} {w : World} {v : Value} {l : List UInt8} (h : BRow base w v l) (hl : l.length ≤ 900000000) (hbw : base ≤ w.heap.size) (B : Nat) (A : Option Addr) (n c : Nat) (sp : List Sp) (hR : Rd w B 2 A n (ses sp)) (hn : n = sp.length) (hn5 : n ≤ 512) (hok : ∀ p ∈ sp, sOk p) :
    Calls Tryd.prog 45 #[v, .slice A n c] w fun e w' => Ex fun v' => e = .returned v' ∧ BRow base w' v' (l ++ spB sp) ∧ Only [] w w' := by
  have Hput := Lib.hid (refPutB h (by omega) hbw n (by omega))
  have HR := Lib.hid hR
  have Hn := Lib.hid hn
  have hwn : IntKind.u32.wrap (n : Int) = (n : Int) := by show (n : Int) % 4294967296 = _; omega
  clear h hR hn
  go_enter Tryd.func45, Tryd.ntmps45
  go_wp2_with (fail)
  refine Hput.out.mono ?_
  rintro e w1 ⟨v1, rfl, hb1, hO1⟩
  have Hb1 := Lib.hid hb1
  have HO1 := Lib.hid hO1
  clear Hput hb1 hO1
  go_wp2_with (fail)
  go_loopw [0, 5] (fun vb vi wr => ∃ k : Nat, vi = .int .i64 (k : Int) ∧ k ≤ n ∧ BRow base wr vb (l ++ be4 n ++ encs sEnc (sp.take k)) ∧ Only [] w wr) (fun _ vi _ => n - (intOf vi).toNat)
  case atStart => exact ⟨0, rfl, by omega, Hb1.out.of (by simp [encs]), HO1.out⟩
  case round =>
    obtain ⟨k, rfl, hk, hb, hO⟩ := hrel
    have hbz : base ≤ wr.heap.size := Nat.le_trans hbw hO.size
    by_cases hlt : k < n
    · obtain ⟨q, hq⟩ : ∃ q, sp[k]? = some q := ⟨_, List.getElem?_eq_getElem (by have := Hn.out; omega)⟩
      have hqo := hok q (List.mem_of_getElem? hq)
      obtain ⟨lo, hi⟩ := q
      obtain ⟨a, ha, ha1⟩ := nat_of (m := 1114111) hqo.1.1 hqo.1.2
      obtain ⟨b, hb', hb1⟩ := nat_of (m := 1114111) hqo.2.1 hqo.2.2
      simp only at ha hb'
      subst ha hb'
      have hle := encs_take_le (enc := sEnc) (m := 8) sp (fun x _ => by rw [sEnc_length]; omega) k 512 (by have := Hn.out; omega)
      have hRr := HR.out.only hO (by simp)
      obtain ⟨g, o, rfl, hgB, hc0, hc1⟩ := hRr.span hlt hq
      have G1 := Lib.hid (refPutB hb (by simp only [List.length_append, be4_length]; omega) hbz a (by omega))
      have G2 := Lib.hid (fun W V (hV : BRow base W V (l ++ be4 n ++ encs sEnc (sp.take k) ++ be4 a)) (hW : Only [] wr W) => refPutB hV (by simp only [List.length_append, be4_length]; omega) (by have := hW.size; omega) b (by omega))
      have KS := Lib.hid (fun W (hW : Only [] wr W) => (show W.cell? ⟨g, o + k * 2, none⟩ = some (.int .i32 (a : Int)) ∧ W.cell? ⟨g, o + k * 2 + 1, none⟩ = some (.int .i32 (b : Int)) from ⟨hW.cellv hc0 (by simp), hW.cellv hc1 (by simp)⟩))
      have hw1 : IntKind.u32.wrap (a : Int) = (a : Int) := by show (a : Int) % 4294967296 = _; omega
      have hw2 : IntKind.u32.wrap (b : Int) = (b : Int) := by show (b : Int) % 4294967296 = _; omega
      have Hq := Lib.hid hq
      have HO := Lib.hid hO
      clear hb hRr hle hqo hq hO hc1
      go_wp2_with (fail)
      refine G1.out.mono ?_
      rintro e w2 ⟨v2, rfl, hb2, hO2⟩
      obtain ⟨k0, k1⟩ := KS.out w2 hO2
      clear hc0
      go_wp2_with (fail)
      refine (G2.out w2 v2 hb2 hO2).mono ?_
      rintro e w3 ⟨v3, rfl, hb3, hO3⟩
      clear k0 k1
      go_wp2_with (fail)
      go_roundw
      case rel =>
        refine ⟨k + 1, by go_num, by omega, hb3.of ?_, HO.out.trans (hO2.trans hO3)⟩
        rw [encs_take sEnc sp k _ Hq.out]
        simp [sEnc]
      case measure => simp [intOf]; omega
    · obtain rfl : k = n := by omega
      go_wp2_with (fail)
      go_ret
      refine ⟨_, rfl, hb.of ?_, hO⟩
      rw [List.take_of_length_le (by have := Hn.out; omega)]
      unfold spB
      rw [← Hn.out, List.append_assoc]
end Go.Proofs.YtgohinklnglgeaaDoor

set_option linter.unusedVariables false
set_option linter.unusedSimpArgs false
namespace Go.Proofs.YtgohinklnglgeaaDoor
open Go.RowKit
attribute [local go_sem] Oper.semAt_some

theorem wEnc_le {s : ByteArray} (h : wOk s) : (wEnc s).length ≤ 260 := by rw [wEnc_length]; have := h.2; omega
theorem spB_le {l : List Sp} (h : l.length ≤ 512) : (spB l).length ≤ 4100 := by
  unfold spB
  have := encs_le (enc := sEnc) (m := 8) l (fun x _ => by rw [sEnc_length]; omega)
  rw [List.length_append, be4_length]; omega
theorem body_le {ws : List ByteArray} {ms : List Mg} {a b d : List Sp} (h : OkD ws ms a b d) : (bodyF ws ms a b d).length ≤ 1200000 := by
  have h1 := encs_le (enc := wEnc) (m := 260) ws (fun x hx => wEnc_le (h.w x hx))
  have h2 := encs_le (enc := mEnc) (m := 12) ms (fun x _ => by rw [mEnc_length]; omega)
  have h3 := spB_le h.la
  have h4 := spB_le h.lb
  have h5 := spB_le h.ld
  have := h.n
  have := h.nm
  unfold bodyF
  simp only [List.length_append, be4_length, List.length_cons, List.length_nil]
  omega
set_option maxRecDepth 100000 in
set_option maxHeartbeats 8000000 in
theorem refSave_any (w : World) (v0 v1 v2 v3 v4 : Value) (ws : List ByteArray) (ms : List Mg) (a b d : List Sp) (hR : Rd5 w v0 v1 v2 v3 v4 ws ms a b d) (hok : OkD ws ms a b d) :
    Calls Tryd.prog 16 #[.agg #[v0, v1, v2, v3, v4]] w fun e w' => Ex fun v => e = .returned v ∧ BRow w.heap.size w' v (saveF ws ms a b d) ∧ Only [] w w' := by
  obtain ⟨h, hh⟩ : ∃ h, h = w.heap.size := ⟨_, rfl⟩
  obtain ⟨W1, hW1⟩ : ∃ W1, W1 = w.alloc (.cells #[v0, v1, v2, v3, v4] 38) := ⟨_, rfl⟩
  have hb : Blk W1 h 38 [v0, v1, v2, v3, v4] := by rw [hW1]; exact Blk.new' _ _ _ hh.symm rfl
  have hO : Only [] w W1 := by rw [hW1]; exact (Only.refl _ _).alloc _
  have hz1 : W1.heap.size = h + 1 := by rw [hW1, hh]; simp
  have hR1 := hR.only hO
  obtain ⟨⟨A0, c0, e0, hc0, g0⟩, ⟨A1, c1, e1, hc1, g1⟩, ⟨A2, c2, e2, hc2, g2⟩, ⟨A3, c3, e3, hc3, g3⟩, ⟨A4, c4, e4, hc4, g4⟩⟩ := hR1
  obtain ⟨n0, hn0⟩ : ∃ n, n = ws.length := ⟨_, rfl⟩
  obtain ⟨n1, hn1⟩ : ∃ n, n = ms.length := ⟨_, rfl⟩
  obtain ⟨n2, hn2⟩ : ∃ n, n = a.length := ⟨_, rfl⟩
  obtain ⟨n3, hn3⟩ : ∃ n, n = b.length := ⟨_, rfl⟩
  obtain ⟨n4, hn4⟩ : ∃ n, n = d.length := ⟨_, rfl⟩
  rw [← hn0] at e0 g0
  rw [← hn1] at e1 g1
  rw [← hn2] at e2 g2
  rw [← hn3] at e3 g3
  rw [← hn4] at e4 g4
  subst e0 e1 e2 e3 e4
  have KS := Lib.hid (show ∀ W, Only [] W1 W → (W.cell? ⟨h, 0, none⟩ = some (.slice A0 n0 c0) ∧ W.cell? ⟨h, 1, none⟩ = some (.slice A1 n1 c1) ∧ W.cell? ⟨h, 2, none⟩ = some (.slice A2 n2 c2) ∧ W.cell? ⟨h, 3, none⟩ = some (.slice A3 n3 c3) ∧ W.cell? ⟨h, 4, none⟩ = some (.slice A4 n4 c4)) by
    intro W hw
    have k := hb.only hw (by simp)
    exact ⟨k.cell 0, k.cell 1, k.cell 2, k.cell 3, k.cell 4⟩)
  have HG := Lib.hid (And.intro g0 (And.intro g1 (And.intro g2 (And.intro g3 g4))))
  have Hn := Lib.hid (And.intro hn0 (And.intro hn1 (And.intro hn2 (And.intro hn3 hn4))))
  have hb0 : n0 ≤ 4096 := by have := hok.n; omega
  have hb1 : n1 ≤ 4096 := by have := hok.n; have := hok.nm; omega
  have hb2 : n2 ≤ 512 := by have := hok.la; omega
  have hb3 : n3 ≤ 512 := by have := hok.lb; omega
  have hb4 : n4 ≤ 512 := by have := hok.ld; omega
  have Hh := Lib.hid hh
  have HW := Lib.hid hW1
  have HO := Lib.hid hO
  obtain ⟨k0, -⟩ := KS.out W1 (.refl _ _)
  obtain ⟨gz, hgz⟩ : ∃ z, z = W1.heap.size := ⟨_, rfl⟩
  have k0a : ∀ o, (W1.alloc o).cell? ⟨h, 0, none⟩ = some (.slice A0 n0 c0) := fun o => (KS.out _ ((Only.refl [] W1).alloc o)).1
  have Hput := Lib.hid (fun m => refPut_any (some ⟨gz, 0, none⟩) 4 4 n0 [66, 80, 69, 49] (W1.alloc (.cells #[.int .u8 66, .int .u8 80, .int .u8 69, .int .u8 49] 5 m)) (by exact rd_lit W1 5 [66, 80, 69, 49] m gz hgz.symm _ rfl _ (by simp [hgz])) (by omega) (by omega) (by omega))
  have Hgz := Lib.hid hgz
  have hwn0 : IntKind.u32.wrap (n0 : Int) = (n0 : Int) := by show (n0 : Int) % 4294967296 = _; omega
  clear hh hW1 hb hR hO hn0 hn1 hn2 hn3 hn4 g0 g1 g2 g3 g4 hgz hz1
  have kc := fun (w : World) (C : Array Value) (n c : Nat) => Lib.run_convert_bytes_const (P := Tryd.prog) w 22 5 C n c Tryd.underlying22 Tryd.underlying5
  go_enter Tryd.func16, Tryd.ntmps16
  go_upto_region 1 with (fail)
  rw [← Hh.out, ← HW.out]
  go_wp2_with (fail)
  rw [← Hgz.out]
  refine (Hput.out _).mono ?_
  rintro e W2 ⟨v5, rfl, hB2, hO2⟩
  replace hO2 : Only [] W1 W2 := ((Only.refl [] W1).alloc _).trans hO2
  replace hB2 : BRow w.heap.size W2 v5 ([66, 80, 69, 49] ++ be4 n0) := own_base hB2 (by have := HO.out.size; simp; omega)
  obtain ⟨L0, hL0⟩ : ∃ z, z = [66, 80, 69, 49] ++ be4 n0 := ⟨_, rfl⟩
  rw [← hL0] at hB2
  have hl0 : L0.length = 8 := by rw [hL0]; simp [be4_length]
  have HL0 := Lib.hid hL0
  have HB2 := Lib.hid hB2
  have HO2 := Lib.hid hO2
  have Hl0 := Lib.hid hl0
  have Hbw := Lib.hid (show ∀ W, Only [] W1 W → w.heap.size ≤ W.heap.size from fun W hW => Nat.le_trans HO.out.size hW.size)
  clear kc k0 k0a Hput hL0 hB2 hO2 hl0 hwn0
  go_upto_block 0 with (fail)
  go_cut [3] (fun vb wx => BRow w.heap.size wx vb (L0 ++ encs wEnc ws) ∧ Only [] W1 wx)
  case first =>
    go_wp2_with (fail)
    go_loopw [3, 4] (fun vb vi wr => ∃ k : Nat, vi = .int .i64 (k : Int) ∧ k ≤ n0 ∧ BRow w.heap.size wr vb (L0 ++ encs wEnc (ws.take k)) ∧ Only [] W1 wr) (fun _ vi _ => n0 - (intOf vi).toNat)
    case atStart => exact ⟨0, rfl, by omega, HB2.out.of (by simp [encs]), HO2.out⟩
    case round =>
      obtain ⟨k, rfl, hk, hB, hOr⟩ := hrel
      obtain ⟨k0, -⟩ := KS.out wr hOr
      by_cases hlt : k < n0
      · obtain ⟨s, hs⟩ : ∃ s, ws[k]? = some s := ⟨_, List.getElem?_eq_getElem (by have := Hn.out.1; omega)⟩
        have hso := hok.w s (List.mem_of_getElem? hs)
        have hle := encs_take_le (enc := wEnc) (m := 260) ws (fun x hx => wEnc_le (hok.w x hx)) k 4096 (by have := Hn.out.1; omega)
        obtain ⟨g, o, rfl, -, hcell⟩ := (HG.out.1.only hOr (by simp)).wd hs
        have G1 := Lib.hid (refPutTextB hB (by rw [List.length_append, Hl0.out]; omega) (Hbw.out wr hOr) s (by have := hso.2; omega))
        have Hs := Lib.hid hs
        have HOr := Lib.hid hOr
        clear hB hs hso hle hOr
        go_wp2_with (fail)
        refine G1.out.mono ?_
        rintro e w2 ⟨v2, rfl, hb2, hO2⟩
        clear k0 hcell
        go_wp2_with (fail)
        go_roundw
        case rel =>
          refine ⟨k + 1, by go_num, by omega, hb2.of ?_, HOr.out.trans hO2⟩
          rw [encs_take wEnc ws k _ Hs.out, List.append_assoc]
        case measure => simp [intOf]; omega
      · obtain rfl : k = n0 := by omega
        go_wp2_with (fail)
        go_meet
        case rel =>
          refine ⟨hB.of ?_, hOr⟩
          rw [List.take_of_length_le (by have := Hn.out.1; omega)]
  case rest =>
  obtain ⟨hB3, hO3⟩ := hcut
  rename_i vb3
  obtain ⟨W3, rfl⟩ : ∃ z : World, z = wc := ⟨_, rfl⟩
  have hw3 := encs_le (enc := wEnc) (m := 260) ws (fun x hx => wEnc_le (hok.w x hx))
  have hl3 : (L0 ++ encs wEnc ws).length ≤ 1100000 := by rw [List.length_append, Hl0.out]; have := Hn.out.1; omega
  obtain ⟨L1, hL1⟩ : ∃ z, z = L0 ++ encs wEnc ws := ⟨_, rfl⟩
  rw [← hL1] at hB3 hl3
  have HL1 := Lib.hid hL1
  have HB3 := Lib.hid hB3
  have HO3 := Lib.hid hO3
  clear hL1 hB3 hO3 hw3
  go_upto_block 2 with (fail)
  go_cut [3] (fun vb wx => BRow w.heap.size wx vb (L1 ++ encs mEnc ms) ∧ Only [] W1 wx)
  case first =>
    go_wp2_with (fail)
    go_loopw [3, 5] (fun vb vi wr => ∃ k : Nat, vi = .int .i64 (k : Int) ∧ k ≤ n1 ∧ BRow w.heap.size wr vb (L1 ++ encs mEnc (ms.take k)) ∧ Only [] W1 wr) (fun _ vi _ => n1 - (intOf vi).toNat)
    case atStart => exact ⟨0, rfl, by omega, HB3.out.of (by simp [encs]), HO3.out⟩
    case round =>
      obtain ⟨k, rfl, hk, hB, hOr⟩ := hrel
      obtain ⟨-, k1, -⟩ := KS.out wr hOr
      by_cases hlt : k < n1
      · obtain ⟨m, hm⟩ : ∃ m, ms[k]? = some m := ⟨_, List.getElem?_eq_getElem (by have := Hn.out.2.1; omega)⟩
        have hmo := hok.m m (List.mem_of_getElem? hm)
        have hle := encs_take_le (enc := mEnc) (m := 12) ms (fun x hx => by rw [mEnc_length]; omega) k 4096 (by have := Hn.out.2.1; omega)
        have hRm := HG.out.2.1.only hOr (by simp)
        obtain ⟨ml, mr, mid⟩ := m
        obtain ⟨x, hx, hx1⟩ := nat_of (m := 2147483647) hmo.1.1 hmo.1.2
        obtain ⟨y, hy, hy1⟩ := nat_of (m := 2147483647) hmo.2.1.1 hmo.2.1.2
        obtain ⟨z, hz, hz1⟩ := nat_of (m := 2147483647) hmo.2.2.1 hmo.2.2.2
        simp only at hx hy hz
        subst hx hy hz
        obtain ⟨g, o, rfl, -, q0, q1, q2⟩ := hRm.mg hm
        have KM := Lib.hid (fun W (hW : Only [] wr W) => (show W.cell? ⟨g, o + k * 3, none⟩ = some (.int .i64 (x : Int)) ∧ W.cell? ⟨g, o + k * 3 + 1, none⟩ = some (.int .i64 (y : Int)) ∧ W.cell? ⟨g, o + k * 3 + 2, none⟩ = some (.int .i64 (z : Int)) from ⟨hW.cellv q0 (by simp), hW.cellv q1 (by simp), hW.cellv q2 (by simp)⟩))
        have hB1 : (L1 ++ encs mEnc (ms.take k)).length ≤ 1200000 := by rw [List.length_append]; omega
        have G1 := Lib.hid (refPutB hB (by omega) (Hbw.out wr hOr) x (by omega))
        have G2 := Lib.hid (fun W V (hV : BRow w.heap.size W V (L1 ++ encs mEnc (ms.take k) ++ be4 x)) (hW : Only [] wr W) => refPutB hV (by rw [List.length_append, be4_length]; omega) (Hbw.out W (hOr.trans hW)) y (by omega))
        have G3 := Lib.hid (fun W V (hV : BRow w.heap.size W V (L1 ++ encs mEnc (ms.take k) ++ be4 x ++ be4 y)) (hW : Only [] wr W) => refPutB hV (by rw [List.length_append, List.length_append, be4_length, be4_length]; omega) (Hbw.out W (hOr.trans hW)) z (by omega))
        have w1x : IntKind.u32.wrap (x : Int) = (x : Int) := by show (x : Int) % 4294967296 = _; omega
        have w1y : IntKind.u32.wrap (y : Int) = (y : Int) := by show (y : Int) % 4294967296 = _; omega
        have w1z : IntKind.u32.wrap (z : Int) = (z : Int) := by show (z : Int) % 4294967296 = _; omega
        have Hm := Lib.hid hm
        have HOr := Lib.hid hOr
        have HB1 := Lib.hid hB1
        clear hB hm hmo hle hRm hB1 q1 q2 hOr
        go_wp2_with (fail)
        refine G1.out.mono ?_
        rintro e w2 ⟨v2, rfl, hb2, hO2⟩
        obtain ⟨q0', q1', q2'⟩ := KM.out w2 hO2
        obtain ⟨-, k1', -⟩ := KS.out w2 (HOr.out.trans hO2)
        clear k1 q0 G1
        go_wp2_with (fail)
        refine (G2.out w2 v2 hb2 hO2).mono ?_
        rintro e w3 ⟨v3, rfl, hb3, hO3⟩
        replace hO3 := hO2.trans hO3
        clear q0' q1' q2' k1' hO2 hb2 G2
        obtain ⟨q0', q1', q2'⟩ := KM.out w3 hO3
        obtain ⟨-, k1', -⟩ := KS.out w3 (HOr.out.trans hO3)
        go_wp2_with (fail)
        refine (G3.out w3 v3 hb3 hO3).mono ?_
        rintro e w4 ⟨v4, rfl, hb4, hO4⟩
        replace hO4 := hO3.trans hO4
        clear q0' q1' q2' k1' hO3 hb3 G3
        go_wp2_with (fail)
        go_roundw
        case rel =>
          refine ⟨k + 1, by go_num, by omega, hb4.of ?_, HOr.out.trans hO4⟩
          rw [encs_take mEnc ms k _ Hm.out]
          simp [mEnc]
        case measure => simp [intOf]; omega
      · obtain rfl : k = n1 := by omega
        go_wp2_with (fail)
        go_meet
        case rel =>
          refine ⟨hB.of ?_, hOr⟩
          rw [List.take_of_length_le (by have := Hn.out.2.1; omega)]
  case rest =>
  obtain ⟨hB4, hO4⟩ := hcut
  rename_i vb4
  obtain ⟨W4, rfl⟩ : ∃ z : World, z = wc := ⟨_, rfl⟩
  have hw4 := encs_le (enc := mEnc) (m := 12) ms (fun x hx => by rw [mEnc_length]; omega)
  have hl4 : (L1 ++ encs mEnc ms).length ≤ 1200000 := by rw [List.length_append]; have := Hn.out.2.1; omega
  obtain ⟨L2, hL2⟩ : ∃ z, z = L1 ++ encs mEnc ms := ⟨_, rfl⟩
  rw [← hL2] at hB4 hl4
  have HL2 := Lib.hid hL2
  obtain ⟨-, -, k2, -⟩ := KS.out W4 hO4
  have G1 := Lib.hid (refSpans_any hB4 (by omega) (Hbw.out W4 hO4) W1.heap.size A2 n2 c2 a (HG.out.2.2.1.only hO4 (by simp)) Hn.out.2.2.1 hb2 hok.a)
  have HO4 := Lib.hid hO4
  have ha := spB_le hok.la
  have hbb := spB_le hok.lb
  have hd := spB_le hok.ld
  clear hL2 hB4 hw4 hO4
  go_wp2_with (fail)
  refine G1.out.mono ?_
  rintro e W5 ⟨v5', rfl, hB5, hO5⟩
  replace hO5 := HO4.out.trans hO5
  obtain ⟨-, -, -, k3, -⟩ := KS.out W5 hO5
  have G2 := Lib.hid (refSpans_any hB5 (by rw [List.length_append]; omega) (Hbw.out W5 hO5) W1.heap.size A3 n3 c3 b (HG.out.2.2.2.1.only hO5 (by simp)) Hn.out.2.2.2.1 hb3 hok.b)
  have HO5 := Lib.hid hO5
  clear hB5 hO5 k2 G1
  go_wp2_with (fail)
  refine G2.out.mono ?_
  rintro e W6 ⟨v6, rfl, hB6, hO6⟩
  replace hO6 := HO5.out.trans hO6
  obtain ⟨-, -, -, -, k4⟩ := KS.out W6 hO6
  have G3 := Lib.hid (refSpans_any hB6 (by rw [List.length_append, List.length_append]; omega) (Hbw.out W6 hO6) W1.heap.size A4 n4 c4 d (HG.out.2.2.2.2.only hO6 (by simp)) Hn.out.2.2.2.2 hb4 hok.d)
  have HO6 := Lib.hid hO6
  clear hB6 hO6 k3 G2
  go_wp2_with (fail)
  refine G3.out.mono ?_
  rintro e W7 ⟨v7, rfl, hB7, hO7⟩
  replace hO7 := HO6.out.trans hO7
  obtain ⟨X, hX⟩ : ∃ z, z = bodyF ws ms a b d := ⟨_, rfl⟩
  have hXe : L2 ++ spB a ++ spB b ++ spB d = X := by
    rw [hX, HL2.out, HL1.out, HL0.out, Hn.out.1]
    unfold bodyF
    simp only [List.append_assoc]
  have hXl : X.length ≤ 1200000 := by rw [hX]; exact body_le hok
  replace hB7 := hB7.of hXe
  have G4 := Lib.hid (refSumB hB7 (by omega) (Hbw.out W7 hO7))
  have G5 := Lib.hid (refPutB hB7 (by omega) (Hbw.out W7 hO7) (sumN X) (sumN_lt X))
  have HX := Lib.hid hX
  have HO7 := Lib.hid hO7
  clear hX hXe hXl hB7 hO7 k4 G3 ha hbb hd
  go_wp2_with (fail)
  refine G4.out.mono ?_
  rintro e w8 ⟨rfl, rfl⟩
  go_wp2_with (fail)
  refine G5.out.mono ?_
  rintro e w9 ⟨v9, rfl, hB9, hO9⟩
  have H9 := Lib.hid (And.intro hB9 hO9)
  clear hB9 hO9 G4 G5
  go_wp2_with (fail)
  go_ret
  refine ⟨_, rfl, H9.out.1.of ?_, HO.out.trans (HO7.out.trans H9.out.2)⟩
  rw [HX.out]; rfl
end Go.Proofs.YtgohinklnglgeaaDoor
