/- The reference of chapter 2: need, second, fits, Width, Begins. -/
import Derived.Test.YtodgllnmepnpfaaDoorUtfF
set_option linter.unusedVariables false
set_option linter.unusedSimpArgs false
namespace Go.Proofs.YtodgllnmepnpfaaDoor
open Go.RowKit

def needN (c : Nat) : Nat := if 194 ≤ c ∧ c ≤ 223 then 2 else if 224 ≤ c ∧ c ≤ 239 then 3 else if 240 ≤ c ∧ c ≤ 244 then 4 else 0
def secLo (c : Nat) : Nat := if c = 240 then 144 else if c = 224 then 160 else 128
def secHi (c : Nat) : Nat := if c = 244 then 143 else if c = 237 then 159 else 191
def secondN (c d : Nat) : Bool := decide (secLo c ≤ d ∧ d ≤ secHi c)
def contN (d : Nat) : Bool := decide (128 ≤ d ∧ d ≤ 191)
/-- fits, of the bytes at a place; m: how many bytes there are from there on -/
def fitsP (most m b0 b1 b2 b3 : Nat) : Nat :=
  if 1 < most ∧ 1 < m ∧ secondN b0 b1 = true then (if 2 < most ∧ 2 < m ∧ contN b2 = true then (if 3 < most ∧ 3 < m ∧ contN b3 = true then 4 else 3) else 2) else 1
def byteAt (s : ByteArray) (i : Nat) : Nat := (s.get! i).toNat
def fitsS (s : ByteArray) (p most : Nat) : Nat := fitsP most (s.size - p) (byteAt s p) (byteAt s (p + 1)) (byteAt s (p + 2)) (byteAt s (p + 3))
def widthS (s : ByteArray) (p : Nat) : Nat := if byteAt s p < 128 then 1 else if needN (byteAt s p) = 0 ∨ fitsS s p (needN (byteAt s p)) < needN (byteAt s p) then 0 else needN (byteAt s p)
def beginsS (s : ByteArray) (p : Nat) : Nat := if needN (byteAt s p) = 0 then 0 else fitsS s p (needN (byteAt s p) - 1)
theorem needN_le (c : Nat) : needN c ≤ 4 := by unfold needN; (repeat' split) <;> omega

theorem byte_lt' (s : ByteArray) (i : Nat) : byteAt s i < 256 := (s.get! i).toNat_lt
/-- an index into a text, as the walk reads it -/
theorem idx_str {P : Program} (ty : TypeId) (hu : P.underlying ty = some .string) (s : ByteArray) (i : Nat) (x : Int) (hx : x = (i : Int)) (h : i < s.size) (k : IntKind) (W : World) : (Instr.index ty (.string s) (.int k x)).run P W = .ok (.int .u8 ((byteAt s i : Nat) : Int)) W := by
  subst hx
  have e : s[i]? = some (s.get! i) := by rw [Utf8W.get!_of_lt s i h]; exact getElem?_pos s i h
  simp [Instr.index, asIntOf, run_underlying hu, e, byteAt]

set_option maxRecDepth 100000 in
set_option maxHeartbeats 1000000 in
theorem need_any (c : Nat) (w : World) : Calls Tryd.prog 46 #[.int .u8 (c : Int)] w fun e w' => e = .returned (.int .i64 (needN c : Int)) ∧ w = w' := by
  go_enter Tryd.func46, Tryd.ntmps46
  go_wp2
  all_goals
    go_ret
    exact ⟨ret_int (by unfold needN; (try simp at *) <;> (repeat' split) <;> omega), rfl⟩
set_option maxRecDepth 100000 in
set_option maxHeartbeats 1000000 in
theorem second_any (c d : Nat) (w : World) : Calls Tryd.prog 48 #[.int .u8 (c : Int), .int .u8 (d : Int)] w fun e w' => e = .returned (.bool (secondN c d)) ∧ w = w' := by
  go_enter Tryd.func48, Tryd.ntmps48
  go_wp2
  all_goals
    go_ret
    exact ⟨ret_bool (by unfold secondN secLo secHi; rw [Bool.eq_iff_iff]; (try simp at *) <;> (repeat' split) <;> omega), rfl⟩

set_option maxRecDepth 100000 in
set_option maxHeartbeats 4000000 in
theorem fits_any (s : ByteArray) (p most : Nat) (hp : p < s.size) (hm : most ≤ 4) (hs : s.size ≤ 140737488351232) (w : World) :
    Calls Tryd.prog 47 #[.string s, .int .i64 (p : Int), .int .i64 (most : Int)] w fun e w' => e = .returned (.int .i64 (fitsS s p most : Int)) ∧ w = w' := by
  obtain ⟨b0, hb0⟩ : ∃ b, b = byteAt s p := ⟨_, rfl⟩
  obtain ⟨b1, hb1⟩ : ∃ b, b = byteAt s (p + 1) := ⟨_, rfl⟩
  obtain ⟨b2, hb2⟩ : ∃ b, b = byteAt s (p + 2) := ⟨_, rfl⟩
  obtain ⟨b3, hb3⟩ : ∃ b, b = byteAt s (p + 3) := ⟨_, rfl⟩
  obtain ⟨m, hmm⟩ : ∃ m, m = s.size - p := ⟨_, rfl⟩
  have hres : fitsS s p most = fitsP most m b0 b1 b2 b3 := by unfold fitsS; rw [← hb0, ← hb1, ← hb2, ← hb3, ← hmm]
  rw [hres]
  have i0 := idx_str (P := Tryd.prog) 9 Tryd.underlying9 s p (p : Int) rfl hp
  rw [← hb0] at i0
  have i1 := fun h => idx_str (P := Tryd.prog) 9 Tryd.underlying9 s (p + 1) ((p : Int) + 1) (by omega) h
  have i2 := fun h => idx_str (P := Tryd.prog) 9 Tryd.underlying9 s (p + 2) ((p : Int) + 2) (by omega) h
  have i3 := fun h => idx_str (P := Tryd.prog) 9 Tryd.underlying9 s (p + 3) ((p : Int) + 3) (by omega) h
  rw [← hb1] at i1
  rw [← hb2] at i2
  rw [← hb3] at i3
  have Hm := Lib.hid hmm
  clear hres hb0 hb1 hb2 hb3 hmm
  have l0 : 2 ≤ 3 := by omega
  go_enter Tryd.func47, Tryd.ntmps47
  go_wp2_with (fail)
  go_loop [7] (fun vn => (vn = .int .i64 1) ∨ (vn = .int .i64 2 ∧ 1 < most ∧ 1 < m ∧ secondN b0 b1 = true) ∨ (vn = .int .i64 3 ∧ 2 < most ∧ 2 < m ∧ secondN b0 b1 = true ∧ contN b2 = true) ∨ (vn = .int .i64 4 ∧ 3 < most ∧ 3 < m ∧ secondN b0 b1 = true ∧ contN b2 = true ∧ contN b3 = true)) (fun vn => 4 - (intOf vn).toNat)
  case atStart => exact .inl rfl
  case round =>
    rcases hrel with rfl | ⟨rfl, h1, h2, h3⟩ | ⟨rfl, h1, h2, h3, h4⟩ | ⟨rfl, h1, h2, h3, h4, h5⟩
    · by_cases g1 : 1 < most
      · by_cases g2 : 1 < m
        · have j1 := i1 (by have := Hm.out; omega)
          have g1' : (1 : Int) < (most : Int) := by omega
          have g2' : (p : Int) + 1 < (s.size : Int) := by have := Hm.out; omega
          clear i1 i2 i3
          go_wp2_with (fail)
          refine (second_any b0 b1 _).mono ?_
          rintro e w2 ⟨rfl, rfl⟩
          obtain ⟨c, hc⟩ : ∃ c, c = secondN b0 b1 := ⟨_, rfl⟩
          rw [← hc]
          have Hc := Lib.hid hc
          clear hc
          cases c with
          | false =>
            go_wp2_with (fail)
            go_ret
            exact ⟨ret_int (by unfold fitsP; rw [if_neg (by rw [← Hc.out]; simp)]; rfl), rfl⟩
          | true =>
            go_wp2_with (fail)
            go_round
            case rel => exact .inr (.inl ⟨rfl, g1, g2, Hc.out.symm⟩)
            case measure => simp [intOf]
        · have g1' : (1 : Int) < (most : Int) := by omega
          have g2' : ¬ (p : Int) + 1 < (s.size : Int) := by have := Hm.out; omega
          clear i1 i2 i3
          go_wp2_with (fail)
          go_ret
          exact ⟨ret_int (by unfold fitsP; rw [if_neg (by omega)]; rfl), rfl⟩
      · have g1' : ¬ (1 : Int) < (most : Int) := by omega
        clear i1 i2 i3
        go_wp2_with (fail)
        go_ret
        exact ⟨ret_int (by unfold fitsP; rw [if_neg (by omega)]; rfl), rfl⟩
    · have H3 := Lib.hid h3
      clear h3
      by_cases g1 : 2 < most
      · by_cases g2 : 2 < m
        · have j1 := i2 (by have := Hm.out; omega)
          have g1' : (2 : Int) < (most : Int) := by omega
          have g2' : (p : Int) + 2 < (s.size : Int) := by have := Hm.out; omega
          clear i1 i2 i3
          by_cases k1 : b2 < 128
          · have k1' : (b2 : Int) < 128 := by omega
            go_wp2_with (fail)
            go_ret
            exact ⟨ret_int (by unfold fitsP; rw [if_pos ⟨by omega, by omega, H3.out⟩, if_neg (by unfold contN; simp; omega)]; rfl), rfl⟩
          · have k1' : ¬ (b2 : Int) < 128 := by omega
            by_cases k2 : 191 < b2
            · have k2' : 191 < (b2 : Int) := by omega
              go_wp2_with (fail)
              go_ret
              exact ⟨ret_int (by unfold fitsP; rw [if_pos ⟨by omega, by omega, H3.out⟩, if_neg (by unfold contN; simp; omega)]; rfl), rfl⟩
            · have k2' : ¬ 191 < (b2 : Int) := by omega
              go_wp2_with (fail)
              go_round
              case rel => exact .inr (.inr (.inl ⟨rfl, g1, g2, H3.out, by unfold contN; simp; omega⟩))
              case measure => simp [intOf]
        · have g1' : (2 : Int) < (most : Int) := by omega
          have g2' : ¬ (p : Int) + 2 < (s.size : Int) := by have := Hm.out; omega
          clear i1 i2 i3
          go_wp2_with (fail)
          go_ret
          exact ⟨ret_int (by unfold fitsP; rw [if_pos ⟨by omega, by omega, H3.out⟩, if_neg (by omega)]; rfl), rfl⟩
      · have g1' : ¬ (2 : Int) < (most : Int) := by omega
        clear i1 i2 i3
        go_wp2_with (fail)
        go_ret
        exact ⟨ret_int (by unfold fitsP; rw [if_pos ⟨by omega, by omega, H3.out⟩, if_neg (by omega)]; rfl), rfl⟩
    · have H3 := Lib.hid h3
      have H4 := Lib.hid h4
      clear h3 h4
      by_cases g1 : 3 < most
      · by_cases g2 : 3 < m
        · have j1 := i3 (by have := Hm.out; omega)
          have g1' : (3 : Int) < (most : Int) := by omega
          have g2' : (p : Int) + 3 < (s.size : Int) := by have := Hm.out; omega
          clear i1 i2 i3
          by_cases k1 : b3 < 128
          · have k1' : (b3 : Int) < 128 := by omega
            go_wp2_with (fail)
            go_ret
            exact ⟨ret_int (by unfold fitsP; rw [if_pos ⟨by omega, by omega, H3.out⟩, if_pos ⟨by omega, by omega, H4.out⟩, if_neg (by unfold contN; simp; omega)]; rfl), rfl⟩
          · have k1' : ¬ (b3 : Int) < 128 := by omega
            by_cases k2 : 191 < b3
            · have k2' : 191 < (b3 : Int) := by omega
              go_wp2_with (fail)
              go_ret
              exact ⟨ret_int (by unfold fitsP; rw [if_pos ⟨by omega, by omega, H3.out⟩, if_pos ⟨by omega, by omega, H4.out⟩, if_neg (by unfold contN; simp; omega)]; rfl), rfl⟩
            · have k2' : ¬ 191 < (b3 : Int) := by omega
              go_wp2_with (fail)
              go_round
              case rel => exact .inr (.inr (.inr ⟨rfl, g1, g2, H3.out, H4.out, by unfold contN; simp; omega⟩))
              case measure => simp [intOf]
        · have g1' : (3 : Int) < (most : Int) := by omega
          have g2' : ¬ (p : Int) + 3 < (s.size : Int) := by have := Hm.out; omega
          clear i1 i2 i3
          go_wp2_with (fail)
          go_ret
          exact ⟨ret_int (by unfold fitsP; rw [if_pos ⟨by omega, by omega, H3.out⟩, if_pos ⟨by omega, by omega, H4.out⟩, if_neg (by omega)]; rfl), rfl⟩
      · have g1' : ¬ (3 : Int) < (most : Int) := by omega
        clear i1 i2 i3
        go_wp2_with (fail)
        go_ret
        exact ⟨ret_int (by unfold fitsP; rw [if_pos ⟨by omega, by omega, H3.out⟩, if_pos ⟨by omega, by omega, H4.out⟩, if_neg (by omega)]; rfl), rfl⟩
    · obtain rfl : most = 4 := by omega
      have H3 := Lib.hid h3
      have H4 := Lib.hid h4
      have H5 := Lib.hid h5
      clear i1 i2 i3 h3 h4 h5
      go_wp2_with (fail)
      go_ret
      exact ⟨ret_int (by unfold fitsP; rw [if_pos ⟨by omega, by omega, H3.out⟩, if_pos ⟨by omega, by omega, H4.out⟩, if_pos ⟨by omega, by omega, H5.out⟩]; rfl), rfl⟩
end Go.Proofs.YtodgllnmepnpfaaDoor
