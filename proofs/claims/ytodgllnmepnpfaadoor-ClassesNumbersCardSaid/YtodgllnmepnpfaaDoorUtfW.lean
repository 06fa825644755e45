/- The reference of chapter 2: Width, Begins, read. -/
import Derived.Test.YtodgllnmepnpfaaDoorUtfR
set_option linter.unusedVariables false
set_option linter.unusedSimpArgs false
namespace Go.Proofs.YtodgllnmepnpfaaDoor
open Go.RowKit

set_option maxRecDepth 100000 in
set_option maxHeartbeats 4000000 in
theorem width_any (s : ByteArray) (p : Nat) (hp : p < s.size) (hs : s.size ≤ 140737488351232) (w : World) :
    Calls Tryd.prog 42 #[.string s, .int .i64 (p : Int)] w fun e w' => e = .returned (.int .i64 (widthS s p : Int)) ∧ w = w' := by
  obtain ⟨b0, hb0⟩ : ∃ b, b = byteAt s p := ⟨_, rfl⟩
  have i0 := idx_str (P := Tryd.prog) 9 Tryd.underlying9 s p (p : Int) rfl hp
  have hres : widthS s p = if b0 < 128 then 1 else if needN b0 = 0 ∨ fitsS s p (needN b0) < needN b0 then 0 else needN b0 := by unfold widthS; rw [← hb0]
  rw [← hb0] at i0
  obtain ⟨R, hR⟩ : ∃ R, R = widthS s p := ⟨_, rfl⟩
  rw [← hR]
  rw [hres] at hR
  have HR := Lib.hid hR
  clear hres hb0 hR
  have hnl := needN_le b0
  by_cases h1 : b0 < 128
  · have h1' : (b0 : Int) < 128 := by omega
    have H1 := Lib.hid h1
    clear h1
    go_enter Tryd.func42, Tryd.ntmps42
    go_wp2_with (fail)
    go_ret
    exact ⟨ret_int (by rw [HR.out, if_pos H1.out]; rfl), rfl⟩
  · have h1' : ¬ (b0 : Int) < 128 := by omega
    have H1 := Lib.hid h1
    clear h1
    go_enter Tryd.func42, Tryd.ntmps42
    go_wp2_with (fail)
    refine (need_any b0 _).mono ?_
    rintro e w2 ⟨rfl, rfl⟩
    obtain ⟨n, hn⟩ : ∃ n, n = needN b0 := ⟨_, rfl⟩
    rw [← hn] at hnl ⊢
    have Hn := Lib.hid hn
    clear hn
    by_cases h0 : n = 0
    · subst h0
      go_wp2_with (fail)
      go_ret
      exact ⟨ret_int (by rw [HR.out, if_neg H1.out, if_pos (.inl Hn.out.symm)]; rfl), rfl⟩
    · have h0' : ¬ (n : Int) = 0 := by omega
      go_wp2_with (fail)
      refine (fits_any s p n hp hnl hs _).mono ?_
      rintro e w3 ⟨rfl, rfl⟩
      obtain ⟨k, hk⟩ : ∃ k, k = fitsS s p n := ⟨_, rfl⟩
      rw [← hk]
      have Hk := Lib.hid hk
      clear hk
      by_cases hlt : k < n
      · have hlt' : (k : Int) < (n : Int) := by omega
        go_wp2_with (fail)
        go_ret
        exact ⟨ret_int (by rw [HR.out, if_neg H1.out, if_pos (.inr (by rw [← Hn.out, ← Hk.out]; exact hlt))]; rfl), rfl⟩
      · have hlt' : ¬ (k : Int) < (n : Int) := by omega
        go_wp2_with (fail)
        go_ret
        exact ⟨ret_int (by rw [HR.out, if_neg H1.out, if_neg (by rw [← Hn.out, ← Hk.out]; omega), Hn.out]), rfl⟩

set_option maxRecDepth 100000 in
set_option maxHeartbeats 4000000 in
theorem begins_any (s : ByteArray) (p : Nat) (hp : p < s.size) (hs : s.size ≤ 140737488351232) (w : World) :
    Calls Tryd.prog 44 #[.string s, .int .i64 (p : Int)] w fun e w' => e = .returned (.int .i64 (beginsS s p : Int)) ∧ w = w' := by
  obtain ⟨b0, hb0⟩ : ∃ b, b = byteAt s p := ⟨_, rfl⟩
  have i0 := idx_str (P := Tryd.prog) 9 Tryd.underlying9 s p (p : Int) rfl hp
  have hres : beginsS s p = if needN b0 = 0 then 0 else fitsS s p (needN b0 - 1) := by unfold beginsS; rw [← hb0]
  rw [← hb0] at i0
  obtain ⟨R, hR⟩ : ∃ R, R = beginsS s p := ⟨_, rfl⟩
  rw [← hR]
  rw [hres] at hR
  have HR := Lib.hid hR
  clear hres hb0 hR
  have hnl := needN_le b0
  go_enter Tryd.func44, Tryd.ntmps44
  go_wp2_with (fail)
  refine (need_any b0 _).mono ?_
  rintro e w2 ⟨rfl, rfl⟩
  obtain ⟨n, hn⟩ : ∃ n, n = needN b0 := ⟨_, rfl⟩
  rw [← hn] at hnl ⊢
  have Hn := Lib.hid hn
  clear hn
  by_cases h0 : n = 0
  · subst h0
    go_wp2_with (fail)
    go_ret
    exact ⟨ret_int (by rw [HR.out, if_pos Hn.out.symm]; rfl), rfl⟩
  · have h0' : ¬ (n : Int) = 0 := by omega
    obtain ⟨k, hk⟩ : ∃ k, k = n - 1 := ⟨_, rfl⟩
    have hk' : (n : Int) - 1 = (k : Int) := by omega
    have Hk := Lib.hid hk
    clear hk
    go_wp2_with (fail)
    refine (fits_any s p k hp (by have := Hk.out; omega) hs _).mono ?_
    rintro e w3 ⟨rfl, rfl⟩
    go_wp2_with (fail)
    go_ret
    exact ⟨ret_int (by rw [HR.out, ← Hn.out, if_neg h0, ← Hk.out]), rfl⟩

theorem and_tab (m : Nat) (k : Int) (h : ∀ x : Fin 256, bits .and .i32 ((x.val : Nat) : Int) k = ((x.val % m : Nat) : Int)) (b : Nat) (hb : b < 256) : bits .and .i32 (b : Int) k = ((b % m : Nat) : Int) := h ⟨b, hb⟩
theorem and31 (b : Nat) (hb : b < 256) : bits .and .i32 (b : Int) 31 = ((b % 32 : Nat) : Int) := and_tab 32 31 (by decide +kernel) b hb
theorem and15 (b : Nat) (hb : b < 256) : bits .and .i32 (b : Int) 15 = ((b % 16 : Nat) : Int) := and_tab 16 15 (by decide +kernel) b hb
theorem and7 (b : Nat) (hb : b < 256) : bits .and .i32 (b : Int) 7 = ((b % 8 : Nat) : Int) := and_tab 8 7 (by decide +kernel) b hb
theorem and63 (b : Nat) (hb : b < 256) : bits .and .i32 (b : Int) 63 = ((b % 64 : Nat) : Int) := and_tab 64 63 (by decide +kernel) b hb
/-- the rune of a sequence of n bytes -/
def readP (n b0 b1 b2 b3 : Nat) : Nat :=
  if n = 1 then b0 else if n = 2 then b0 % 32 * 64 + b1 % 64 else if n = 3 then b0 % 16 * 4096 + b1 % 64 * 64 + b2 % 64 else b0 % 8 * 262144 + b1 % 64 * 4096 + b2 % 64 * 64 + b3 % 64
def readS (s : ByteArray) (p n : Nat) : Nat := readP n (byteAt s p) (byteAt s (p + 1)) (byteAt s (p + 2)) (byteAt s (p + 3))

set_option maxRecDepth 100000 in
set_option maxHeartbeats 4000000 in
theorem read_any (s : ByteArray) (p n : Nat) (hn : 1 ≤ n ∧ n ≤ 4) (hp : p + n ≤ s.size) (hs : s.size ≤ 140737488351232) (w : World) :
    Calls Tryd.prog 43 #[.string s, .int .i64 (p : Int), .int .i64 (n : Int)] w fun e w' => e = .returned (.int .i32 (readS s p n : Int)) ∧ w = w' := by
  obtain ⟨b0, hb0⟩ : ∃ b, b = byteAt s p := ⟨_, rfl⟩
  obtain ⟨b1, hb1⟩ : ∃ b, b = byteAt s (p + 1) := ⟨_, rfl⟩
  obtain ⟨b2, hb2⟩ : ∃ b, b = byteAt s (p + 2) := ⟨_, rfl⟩
  obtain ⟨b3, hb3⟩ : ∃ b, b = byteAt s (p + 3) := ⟨_, rfl⟩
  have l0 : b0 < 256 := by rw [hb0]; exact byte_lt' _ _
  have l1 : b1 < 256 := by rw [hb1]; exact byte_lt' _ _
  have l2 : b2 < 256 := by rw [hb2]; exact byte_lt' _ _
  have l3 : b3 < 256 := by rw [hb3]; exact byte_lt' _ _
  have hres : readS s p n = readP n b0 b1 b2 b3 := by unfold readS; rw [← hb0, ← hb1, ← hb2, ← hb3]
  rw [hres]
  have i0 := idx_str (P := Tryd.prog) 9 Tryd.underlying9 s p (p : Int) rfl (by omega)
  rw [← hb0] at i0
  have i1 := fun h => idx_str (P := Tryd.prog) 9 Tryd.underlying9 s (p + 1) ((p : Int) + 1) (by omega) h
  have i2 := fun h => idx_str (P := Tryd.prog) 9 Tryd.underlying9 s (p + 2) ((p : Int) + 2) (by omega) h
  have i3 := fun h => idx_str (P := Tryd.prog) 9 Tryd.underlying9 s (p + 3) ((p : Int) + 3) (by omega) h
  rw [← hb1] at i1
  rw [← hb2] at i2
  rw [← hb3] at i3
  clear hres hb0 hb1 hb2 hb3
  rcases (show n = 1 ∨ n = 2 ∨ n = 3 ∨ n = 4 by omega) with rfl | rfl | rfl | rfl
  · clear i1 i2 i3
    go_enter Tryd.func43, Tryd.ntmps43
    go_wp2_with (fail)
    go_ret
    exact ⟨rfl, rfl⟩
  · have _ := trivial
    have j1 := i1 (by omega)
    have m0 := and31 b0 l0
    have m1 := and63 b1 l1
    obtain ⟨c0, hc0⟩ : ∃ c, c = b0 % 32 := ⟨_, rfl⟩
    rw [← hc0] at m0
    obtain ⟨c1, hc1⟩ : ∃ c, c = b1 % 64 := ⟨_, rfl⟩
    rw [← hc1] at m1
    have hres : readP 2 b0 b1 b2 b3 = (c0) * 64 + c1 := by unfold readP; simp only [Nat.reduceEqDiff, if_true, if_false]; omega
    rw [hres]
    have u0 : c0 < 32 := by omega
    have u1 : c1 < 64 := by omega
    clear i1 i2 i3 hres
    have Hc0 := Lib.hid hc0
    clear hc0
    have Hc1 := Lib.hid hc1
    clear hc1
    go_enter Tryd.func43, Tryd.ntmps43
    go_wp2_with (fail)
    go_loop [8, 7] (fun vi vr => (vi = .int .i64 1 ∧ vr = .int .i32 ((c0 : Nat) : Int)) ∨ (vi = .int .i64 2 ∧ vr = .int .i32 (((c0) * 64 + c1 : Nat) : Int))) (fun vi _ => 2 - (intOf vi).toNat)
    case atStart => exact .inl ⟨rfl, rfl⟩
    case round =>
      rcases hrel with ⟨rfl, rfl⟩ | ⟨rfl, rfl⟩
      · go_wp2_with (fail)
        go_round
        case rel => exact .inr (⟨rfl, by first | rfl | (apply congrArg (Value.int .i32); omega)⟩)
        case measure => simp [intOf]
      · go_wp2_with (fail)
        go_ret
        exact ⟨rfl, rfl⟩
  · have _ := trivial
    have j1 := i1 (by omega)
    have j2 := i2 (by omega)
    have m0 := and15 b0 l0
    have m1 := and63 b1 l1
    have m2 := and63 b2 l2
    obtain ⟨c0, hc0⟩ : ∃ c, c = b0 % 16 := ⟨_, rfl⟩
    rw [← hc0] at m0
    obtain ⟨c1, hc1⟩ : ∃ c, c = b1 % 64 := ⟨_, rfl⟩
    rw [← hc1] at m1
    obtain ⟨c2, hc2⟩ : ∃ c, c = b2 % 64 := ⟨_, rfl⟩
    rw [← hc2] at m2
    have hres : readP 3 b0 b1 b2 b3 = ((c0) * 64 + c1) * 64 + c2 := by unfold readP; simp only [Nat.reduceEqDiff, if_true, if_false]; omega
    rw [hres]
    have u0 : c0 < 16 := by omega
    have u1 : c1 < 64 := by omega
    have u2 : c2 < 64 := by omega
    clear i1 i2 i3 hres
    have Hc0 := Lib.hid hc0
    clear hc0
    have Hc1 := Lib.hid hc1
    clear hc1
    have Hc2 := Lib.hid hc2
    clear hc2
    go_enter Tryd.func43, Tryd.ntmps43
    go_wp2_with (fail)
    go_loop [8, 7] (fun vi vr => (vi = .int .i64 1 ∧ vr = .int .i32 ((c0 : Nat) : Int)) ∨ (vi = .int .i64 2 ∧ vr = .int .i32 (((c0) * 64 + c1 : Nat) : Int)) ∨ (vi = .int .i64 3 ∧ vr = .int .i32 ((((c0) * 64 + c1) * 64 + c2 : Nat) : Int))) (fun vi _ => 3 - (intOf vi).toNat)
    case atStart => exact .inl ⟨rfl, rfl⟩
    case round =>
      rcases hrel with ⟨rfl, rfl⟩ | ⟨rfl, rfl⟩ | ⟨rfl, rfl⟩
      · go_wp2_with (fail)
        go_round
        case rel => exact .inr (.inl ⟨rfl, by first | rfl | (apply congrArg (Value.int .i32); omega)⟩)
        case measure => simp [intOf]
      · go_wp2_with (fail)
        go_round
        case rel => exact .inr (.inr (⟨rfl, by first | rfl | (apply congrArg (Value.int .i32); omega)⟩))
        case measure => simp [intOf]
      · go_wp2_with (fail)
        go_ret
        exact ⟨rfl, rfl⟩
  · have _ := trivial
    have j1 := i1 (by omega)
    have j2 := i2 (by omega)
    have j3 := i3 (by omega)
    have m0 := and7 b0 l0
    have m1 := and63 b1 l1
    have m2 := and63 b2 l2
    have m3 := and63 b3 l3
    obtain ⟨c0, hc0⟩ : ∃ c, c = b0 % 8 := ⟨_, rfl⟩
    rw [← hc0] at m0
    obtain ⟨c1, hc1⟩ : ∃ c, c = b1 % 64 := ⟨_, rfl⟩
    rw [← hc1] at m1
    obtain ⟨c2, hc2⟩ : ∃ c, c = b2 % 64 := ⟨_, rfl⟩
    rw [← hc2] at m2
    obtain ⟨c3, hc3⟩ : ∃ c, c = b3 % 64 := ⟨_, rfl⟩
    rw [← hc3] at m3
    have hres : readP 4 b0 b1 b2 b3 = (((c0) * 64 + c1) * 64 + c2) * 64 + c3 := by unfold readP; simp only [Nat.reduceEqDiff, if_true, if_false]; omega
    rw [hres]
    have u0 : c0 < 8 := by omega
    have u1 : c1 < 64 := by omega
    have u2 : c2 < 64 := by omega
    have u3 : c3 < 64 := by omega
    clear i1 i2 i3 hres
    have Hc0 := Lib.hid hc0
    clear hc0
    have Hc1 := Lib.hid hc1
    clear hc1
    have Hc2 := Lib.hid hc2
    clear hc2
    have Hc3 := Lib.hid hc3
    clear hc3
    go_enter Tryd.func43, Tryd.ntmps43
    go_wp2_with (fail)
    go_loop [8, 7] (fun vi vr => (vi = .int .i64 1 ∧ vr = .int .i32 ((c0 : Nat) : Int)) ∨ (vi = .int .i64 2 ∧ vr = .int .i32 (((c0) * 64 + c1 : Nat) : Int)) ∨ (vi = .int .i64 3 ∧ vr = .int .i32 ((((c0) * 64 + c1) * 64 + c2 : Nat) : Int)) ∨ (vi = .int .i64 4 ∧ vr = .int .i32 (((((c0) * 64 + c1) * 64 + c2) * 64 + c3 : Nat) : Int))) (fun vi _ => 4 - (intOf vi).toNat)
    case atStart => exact .inl ⟨rfl, rfl⟩
    case round =>
      rcases hrel with ⟨rfl, rfl⟩ | ⟨rfl, rfl⟩ | ⟨rfl, rfl⟩ | ⟨rfl, rfl⟩
      · go_wp2_with (fail)
        go_round
        case rel => exact .inr (.inl ⟨rfl, by first | rfl | (apply congrArg (Value.int .i32); omega)⟩)
        case measure => simp [intOf]
      · go_wp2_with (fail)
        go_round
        case rel => exact .inr (.inr (.inl ⟨rfl, by first | rfl | (apply congrArg (Value.int .i32); omega)⟩))
        case measure => simp [intOf]
      · go_wp2_with (fail)
        go_round
        case rel => exact .inr (.inr (.inr (⟨rfl, by first | rfl | (apply congrArg (Value.int .i32); omega)⟩)))
        case measure => simp [intOf]
      · go_wp2_with (fail)
        go_ret
        exact ⟨rfl, rfl⟩
end Go.Proofs.YtodgllnmepnpfaaDoor
