/- utf8.FullRuneInString at every string; beginning. -/
import Derived.Test.YteadcibbpbbehaaDoorUtf0
import Derived.Deep.QuietTactic
import Derived.BigQuiet
set_option linter.unusedVariables false
set_option linter.unusedSimpArgs false
namespace Go.Proofs.YteadcibbpbbehaaDoor
open Go.RowKit

set_option maxHeartbeats 8000000 in
set_option maxRecDepth 1000000 in
theorem full_any (s : ByteArray) (w : World) (hT : Tabs w) :
    Calls Tryd.prog 44 #[.string s] w fun e w' => e = .returned (.bool (fullGo s)) ∧ Only [] w w' := by
  by_cases h0 : s.size = 0
  · have hres : fullGo s = false := by unfold fullGo fullN; rw [if_pos h0]
    rw [hres]
    clear hres
    go_enter Tryd.func44, Tryd.ntmps44
    go_wp2
    go_ret
    exact ⟨rfl, .refl _ _⟩
  · have hz0 : (0 : Int) < (s.size : Int) := by omega
    have hz0' : ¬ (s.size : Int) = 0 := by omega
    obtain ⟨x0, hx0⟩ : ∃ x0, s.get! 0 = x0 := ⟨_, rfl⟩
    obtain ⟨x1, hx1⟩ : ∃ x1, s.get! 1 = x1 := ⟨_, rfl⟩
    obtain ⟨x2, hx2⟩ : ∃ x2, s.get! 2 = x2 := ⟨_, rfl⟩
    have hs0 : s[0]'(by omega) = x0 := by rw [← hx0]; exact (Utf8W.get!_of_lt s 0 (by omega)).symm
    have l0 := x0.toNat_lt; have l1 := x1.toNat_lt; have l2 := x2.toNat_lt
    have hres : fullGo s = fullN s.size x0.toNat x1.toNat x2.toNat := by unfold fullGo; rw [hx0, hx1, hx2]
    rw [hres]
    clear hres
    have hc0 := hT.1 x0.toNat (by omega)
    unfold fullN
    rw [if_neg h0]
    rcases Lib.firstT_cases x0.toNat with hX | hX | hX | hX | hX | hX | hX | hX | hX
    · rw [hX] at hc0 ⊢
      rw [if_pos (show 240 % 8 ≤ s.size by omega)]
      clear hT hX hx1 hx2
      have hk : ¬ ((s.size : Int) < 0) := by omega
      go_enter Tryd.func44, Tryd.ntmps44
      go_wp2
      go_ret
      exact ⟨rfl, .refl _ _⟩
    · rw [hX] at hc0 ⊢
      rw [if_pos (show 241 % 8 ≤ s.size by omega)]
      clear hT hX hx1 hx2
      have hk : ¬ ((s.size : Int) < 1) := by omega
      go_enter Tryd.func44, Tryd.ntmps44
      go_wp2
      go_ret
      exact ⟨rfl, .refl _ _⟩
    · have ha0 := (hT.2 0 (by omega)).1
      have ha1 := (hT.2 0 (by omega)).2
      rw [hX] at hc0 ⊢
      simp only [Lib.accLo, Lib.accHi, Nat.reduceMul, Nat.reduceAdd, Nat.reduceEqDiff, if_true, if_false, Nat.reduceMod, Nat.reduceDiv] at ha0 ha1 ⊢
      replace ha0 : w.cell? ⟨1, 0, none⟩ = some (.int .u8 128) := ha0
      replace ha1 : w.cell? ⟨1, 1, none⟩ = some (.int .u8 191) := ha1
      replace hc0 : w.cell? ⟨0, x0.toNat, none⟩ = some (.int .u8 2) := hc0
      clear hT hX
      by_cases hk : 2 ≤ s.size
      · rw [if_pos hk]
        have hk' : ¬ ((s.size : Int) < 2) := by omega
        clear hx1 hx2
        go_enter Tryd.func44, Tryd.ntmps44
        go_wp2
        go_ret
        exact ⟨rfl, .refl _ _⟩
      · rw [if_neg hk]
        have hk' : (s.size : Int) < 2 := by omega
        have Hk := Lib.hid hk
        rw [if_neg (by omega), if_neg (by omega)]
        have d1 : decide ((1 : Int) < (s.size : Int)) = false := decide_eq_false (by omega)
        have d2 : decide ((2 : Int) < (s.size : Int)) = false := decide_eq_false (by omega)
        clear hx1 hx2
        go_enter Tryd.func44, Tryd.ntmps44
        go_wp2_with (fail)
        go_quiet (fail)
        go_wp2_with (fail)
        (try go_quiet (fail))
        (try go_wp2_with (fail))
        go_ret
        exact ⟨rfl, by first | exact ((Only.refl _ _).alloc _).drewN _ | exact (((Only.refl _ _).alloc _).drewN _).drewN _⟩
    · have ha0 := (hT.2 1 (by omega)).1
      have ha1 := (hT.2 1 (by omega)).2
      rw [hX] at hc0 ⊢
      simp only [Lib.accLo, Lib.accHi, Nat.reduceMul, Nat.reduceAdd, Nat.reduceEqDiff, if_true, if_false, Nat.reduceMod, Nat.reduceDiv] at ha0 ha1 ⊢
      replace ha0 : w.cell? ⟨1, 2, none⟩ = some (.int .u8 160) := ha0
      replace ha1 : w.cell? ⟨1, 3, none⟩ = some (.int .u8 191) := ha1
      replace hc0 : w.cell? ⟨0, x0.toNat, none⟩ = some (.int .u8 19) := hc0
      clear hT hX
      by_cases hk : 3 ≤ s.size
      · rw [if_pos hk]
        have hk' : ¬ ((s.size : Int) < 3) := by omega
        clear hx1 hx2
        go_enter Tryd.func44, Tryd.ntmps44
        go_wp2
        go_ret
        exact ⟨rfl, .refl _ _⟩
      · rw [if_neg hk]
        have hk' : (s.size : Int) < 3 := by omega
        have Hk := Lib.hid hk
        by_cases h1 : 1 < s.size
        · have h1' : (1 : Int) < (s.size : Int) := by omega
          have d1 : decide ((1 : Int) < (s.size : Int)) = true := decide_eq_true (by omega)
          have hs1 : s[1]'(by omega) = x1 := by rw [← hx1]; exact (Utf8W.get!_of_lt s 1 (by omega)).symm
          by_cases hlo : x1.toNat < 160
          · rw [if_pos ⟨h1, .inl hlo⟩]
            have dl : decide ((x1.toNat : Int) < 160) = true := decide_eq_true (by omega)
            clear hx2
            go_enter Tryd.func44, Tryd.ntmps44
            go_wp2_with (fail)
            go_quiet (fail)
            go_wp2_with (fail)
            (try go_quiet (fail))
            (try go_wp2_with (fail))
            go_ret
            exact ⟨rfl, by first | exact ((Only.refl _ _).alloc _).drewN _ | exact (((Only.refl _ _).alloc _).drewN _).drewN _⟩
          · have dl : decide ((x1.toNat : Int) < 160) = false := decide_eq_false (by omega)
            by_cases hhi : 191 < x1.toNat
            · rw [if_pos ⟨h1, .inr hhi⟩]
              have dh : decide ((191 : Int) < (x1.toNat : Int)) = true := decide_eq_true (by omega)
              clear hx2
              go_enter Tryd.func44, Tryd.ntmps44
              go_wp2_with (fail)
              go_quiet (fail)
              go_wp2_with (fail)
              (try go_quiet (fail))
              (try go_wp2_with (fail))
              go_ret
              exact ⟨rfl, by first | exact ((Only.refl _ _).alloc _).drewN _ | exact (((Only.refl _ _).alloc _).drewN _).drewN _⟩
            · rw [if_neg (by omega)]
              have dh : decide ((191 : Int) < (x1.toNat : Int)) = false := decide_eq_false (by omega)
              rw [if_neg (by omega)]
              have d2 : decide ((2 : Int) < (s.size : Int)) = false := decide_eq_false (by omega)
              clear hx2
              go_enter Tryd.func44, Tryd.ntmps44
              go_wp2_with (fail)
              go_quiet (fail)
              go_wp2_with (fail)
              (try go_quiet (fail))
              (try go_wp2_with (fail))
              go_ret
              exact ⟨rfl, by first | exact ((Only.refl _ _).alloc _).drewN _ | exact (((Only.refl _ _).alloc _).drewN _).drewN _⟩
        · rw [if_neg (by omega), if_neg (by omega)]
          have d1 : decide ((1 : Int) < (s.size : Int)) = false := decide_eq_false (by omega)
          have d2 : decide ((2 : Int) < (s.size : Int)) = false := decide_eq_false (by omega)
          clear hx1 hx2
          go_enter Tryd.func44, Tryd.ntmps44
          go_wp2_with (fail)
          go_quiet (fail)
          go_wp2_with (fail)
          (try go_quiet (fail))
          (try go_wp2_with (fail))
          go_ret
          exact ⟨rfl, by first | exact ((Only.refl _ _).alloc _).drewN _ | exact (((Only.refl _ _).alloc _).drewN _).drewN _⟩
    · have ha0 := (hT.2 0 (by omega)).1
      have ha1 := (hT.2 0 (by omega)).2
      rw [hX] at hc0 ⊢
      simp only [Lib.accLo, Lib.accHi, Nat.reduceMul, Nat.reduceAdd, Nat.reduceEqDiff, if_true, if_false, Nat.reduceMod, Nat.reduceDiv] at ha0 ha1 ⊢
      replace ha0 : w.cell? ⟨1, 0, none⟩ = some (.int .u8 128) := ha0
      replace ha1 : w.cell? ⟨1, 1, none⟩ = some (.int .u8 191) := ha1
      replace hc0 : w.cell? ⟨0, x0.toNat, none⟩ = some (.int .u8 3) := hc0
      clear hT hX
      by_cases hk : 3 ≤ s.size
      · rw [if_pos hk]
        have hk' : ¬ ((s.size : Int) < 3) := by omega
        clear hx1 hx2
        go_enter Tryd.func44, Tryd.ntmps44
        go_wp2
        go_ret
        exact ⟨rfl, .refl _ _⟩
      · rw [if_neg hk]
        have hk' : (s.size : Int) < 3 := by omega
        have Hk := Lib.hid hk
        by_cases h1 : 1 < s.size
        · have h1' : (1 : Int) < (s.size : Int) := by omega
          have d1 : decide ((1 : Int) < (s.size : Int)) = true := decide_eq_true (by omega)
          have hs1 : s[1]'(by omega) = x1 := by rw [← hx1]; exact (Utf8W.get!_of_lt s 1 (by omega)).symm
          by_cases hlo : x1.toNat < 128
          · rw [if_pos ⟨h1, .inl hlo⟩]
            have dl : decide ((x1.toNat : Int) < 128) = true := decide_eq_true (by omega)
            clear hx2
            go_enter Tryd.func44, Tryd.ntmps44
            go_wp2_with (fail)
            go_quiet (fail)
            go_wp2_with (fail)
            (try go_quiet (fail))
            (try go_wp2_with (fail))
            go_ret
            exact ⟨rfl, by first | exact ((Only.refl _ _).alloc _).drewN _ | exact (((Only.refl _ _).alloc _).drewN _).drewN _⟩
          · have dl : decide ((x1.toNat : Int) < 128) = false := decide_eq_false (by omega)
            by_cases hhi : 191 < x1.toNat
            · rw [if_pos ⟨h1, .inr hhi⟩]
              have dh : decide ((191 : Int) < (x1.toNat : Int)) = true := decide_eq_true (by omega)
              clear hx2
              go_enter Tryd.func44, Tryd.ntmps44
              go_wp2_with (fail)
              go_quiet (fail)
              go_wp2_with (fail)
              (try go_quiet (fail))
              (try go_wp2_with (fail))
              go_ret
              exact ⟨rfl, by first | exact ((Only.refl _ _).alloc _).drewN _ | exact (((Only.refl _ _).alloc _).drewN _).drewN _⟩
            · rw [if_neg (by omega)]
              have dh : decide ((191 : Int) < (x1.toNat : Int)) = false := decide_eq_false (by omega)
              rw [if_neg (by omega)]
              have d2 : decide ((2 : Int) < (s.size : Int)) = false := decide_eq_false (by omega)
              clear hx2
              go_enter Tryd.func44, Tryd.ntmps44
              go_wp2_with (fail)
              go_quiet (fail)
              go_wp2_with (fail)
              (try go_quiet (fail))
              (try go_wp2_with (fail))
              go_ret
              exact ⟨rfl, by first | exact ((Only.refl _ _).alloc _).drewN _ | exact (((Only.refl _ _).alloc _).drewN _).drewN _⟩
        · rw [if_neg (by omega), if_neg (by omega)]
          have d1 : decide ((1 : Int) < (s.size : Int)) = false := decide_eq_false (by omega)
          have d2 : decide ((2 : Int) < (s.size : Int)) = false := decide_eq_false (by omega)
          clear hx1 hx2
          go_enter Tryd.func44, Tryd.ntmps44
          go_wp2_with (fail)
          go_quiet (fail)
          go_wp2_with (fail)
          (try go_quiet (fail))
          (try go_wp2_with (fail))
          go_ret
          exact ⟨rfl, by first | exact ((Only.refl _ _).alloc _).drewN _ | exact (((Only.refl _ _).alloc _).drewN _).drewN _⟩
    · have ha0 := (hT.2 2 (by omega)).1
      have ha1 := (hT.2 2 (by omega)).2
      rw [hX] at hc0 ⊢
      simp only [Lib.accLo, Lib.accHi, Nat.reduceMul, Nat.reduceAdd, Nat.reduceEqDiff, if_true, if_false, Nat.reduceMod, Nat.reduceDiv] at ha0 ha1 ⊢
      replace ha0 : w.cell? ⟨1, 4, none⟩ = some (.int .u8 128) := ha0
      replace ha1 : w.cell? ⟨1, 5, none⟩ = some (.int .u8 159) := ha1
      replace hc0 : w.cell? ⟨0, x0.toNat, none⟩ = some (.int .u8 35) := hc0
      clear hT hX
      by_cases hk : 3 ≤ s.size
      · rw [if_pos hk]
        have hk' : ¬ ((s.size : Int) < 3) := by omega
        clear hx1 hx2
        go_enter Tryd.func44, Tryd.ntmps44
        go_wp2
        go_ret
        exact ⟨rfl, .refl _ _⟩
      · rw [if_neg hk]
        have hk' : (s.size : Int) < 3 := by omega
        have Hk := Lib.hid hk
        by_cases h1 : 1 < s.size
        · have h1' : (1 : Int) < (s.size : Int) := by omega
          have d1 : decide ((1 : Int) < (s.size : Int)) = true := decide_eq_true (by omega)
          have hs1 : s[1]'(by omega) = x1 := by rw [← hx1]; exact (Utf8W.get!_of_lt s 1 (by omega)).symm
          by_cases hlo : x1.toNat < 128
          · rw [if_pos ⟨h1, .inl hlo⟩]
            have dl : decide ((x1.toNat : Int) < 128) = true := decide_eq_true (by omega)
            clear hx2
            go_enter Tryd.func44, Tryd.ntmps44
            go_wp2_with (fail)
            go_quiet (fail)
            go_wp2_with (fail)
            (try go_quiet (fail))
            (try go_wp2_with (fail))
            go_ret
            exact ⟨rfl, by first | exact ((Only.refl _ _).alloc _).drewN _ | exact (((Only.refl _ _).alloc _).drewN _).drewN _⟩
          · have dl : decide ((x1.toNat : Int) < 128) = false := decide_eq_false (by omega)
            by_cases hhi : 159 < x1.toNat
            · rw [if_pos ⟨h1, .inr hhi⟩]
              have dh : decide ((159 : Int) < (x1.toNat : Int)) = true := decide_eq_true (by omega)
              clear hx2
              go_enter Tryd.func44, Tryd.ntmps44
              go_wp2_with (fail)
              go_quiet (fail)
              go_wp2_with (fail)
              (try go_quiet (fail))
              (try go_wp2_with (fail))
              go_ret
              exact ⟨rfl, by first | exact ((Only.refl _ _).alloc _).drewN _ | exact (((Only.refl _ _).alloc _).drewN _).drewN _⟩
            · rw [if_neg (by omega)]
              have dh : decide ((159 : Int) < (x1.toNat : Int)) = false := decide_eq_false (by omega)
              rw [if_neg (by omega)]
              have d2 : decide ((2 : Int) < (s.size : Int)) = false := decide_eq_false (by omega)
              clear hx2
              go_enter Tryd.func44, Tryd.ntmps44
              go_wp2_with (fail)
              go_quiet (fail)
              go_wp2_with (fail)
              (try go_quiet (fail))
              (try go_wp2_with (fail))
              go_ret
              exact ⟨rfl, by first | exact ((Only.refl _ _).alloc _).drewN _ | exact (((Only.refl _ _).alloc _).drewN _).drewN _⟩
        · rw [if_neg (by omega), if_neg (by omega)]
          have d1 : decide ((1 : Int) < (s.size : Int)) = false := decide_eq_false (by omega)
          have d2 : decide ((2 : Int) < (s.size : Int)) = false := decide_eq_false (by omega)
          clear hx1 hx2
          go_enter Tryd.func44, Tryd.ntmps44
          go_wp2_with (fail)
          go_quiet (fail)
          go_wp2_with (fail)
          (try go_quiet (fail))
          (try go_wp2_with (fail))
          go_ret
          exact ⟨rfl, by first | exact ((Only.refl _ _).alloc _).drewN _ | exact (((Only.refl _ _).alloc _).drewN _).drewN _⟩
    · have ha0 := (hT.2 3 (by omega)).1
      have ha1 := (hT.2 3 (by omega)).2
      rw [hX] at hc0 ⊢
      simp only [Lib.accLo, Lib.accHi, Nat.reduceMul, Nat.reduceAdd, Nat.reduceEqDiff, if_true, if_false, Nat.reduceMod, Nat.reduceDiv] at ha0 ha1 ⊢
      replace ha0 : w.cell? ⟨1, 6, none⟩ = some (.int .u8 144) := ha0
      replace ha1 : w.cell? ⟨1, 7, none⟩ = some (.int .u8 191) := ha1
      replace hc0 : w.cell? ⟨0, x0.toNat, none⟩ = some (.int .u8 52) := hc0
      clear hT hX
      by_cases hk : 4 ≤ s.size
      · rw [if_pos hk]
        have hk' : ¬ ((s.size : Int) < 4) := by omega
        clear hx1 hx2
        go_enter Tryd.func44, Tryd.ntmps44
        go_wp2
        go_ret
        exact ⟨rfl, .refl _ _⟩
      · rw [if_neg hk]
        have hk' : (s.size : Int) < 4 := by omega
        have Hk := Lib.hid hk
        by_cases h1 : 1 < s.size
        · have h1' : (1 : Int) < (s.size : Int) := by omega
          have d1 : decide ((1 : Int) < (s.size : Int)) = true := decide_eq_true (by omega)
          have hs1 : s[1]'(by omega) = x1 := by rw [← hx1]; exact (Utf8W.get!_of_lt s 1 (by omega)).symm
          by_cases hlo : x1.toNat < 144
          · rw [if_pos ⟨h1, .inl hlo⟩]
            have dl : decide ((x1.toNat : Int) < 144) = true := decide_eq_true (by omega)
            clear hx2
            go_enter Tryd.func44, Tryd.ntmps44
            go_wp2_with (fail)
            go_quiet (fail)
            go_wp2_with (fail)
            (try go_quiet (fail))
            (try go_wp2_with (fail))
            go_ret
            exact ⟨rfl, by first | exact ((Only.refl _ _).alloc _).drewN _ | exact (((Only.refl _ _).alloc _).drewN _).drewN _⟩
          · have dl : decide ((x1.toNat : Int) < 144) = false := decide_eq_false (by omega)
            by_cases hhi : 191 < x1.toNat
            · rw [if_pos ⟨h1, .inr hhi⟩]
              have dh : decide ((191 : Int) < (x1.toNat : Int)) = true := decide_eq_true (by omega)
              clear hx2
              go_enter Tryd.func44, Tryd.ntmps44
              go_wp2_with (fail)
              go_quiet (fail)
              go_wp2_with (fail)
              (try go_quiet (fail))
              (try go_wp2_with (fail))
              go_ret
              exact ⟨rfl, by first | exact ((Only.refl _ _).alloc _).drewN _ | exact (((Only.refl _ _).alloc _).drewN _).drewN _⟩
            · rw [if_neg (by omega)]
              have dh : decide ((191 : Int) < (x1.toNat : Int)) = false := decide_eq_false (by omega)
              by_cases h2 : 2 < s.size
              · have h2' : (2 : Int) < (s.size : Int) := by omega
                have d2 : decide ((2 : Int) < (s.size : Int)) = true := decide_eq_true (by omega)
                have hs2 : s[2]'(by omega) = x2 := by rw [← hx2]; exact (Utf8W.get!_of_lt s 2 (by omega)).symm
                by_cases g1 : x2.toNat < 128
                · rw [if_pos ⟨h2, .inl g1⟩]
                  have e1 : decide ((x2.toNat : Int) < 128) = true := decide_eq_true (by omega)
                  go_enter Tryd.func44, Tryd.ntmps44
                  go_wp2_with (fail)
                  go_quiet (fail)
                  go_wp2_with (fail)
                  (try go_quiet (fail))
                  (try go_wp2_with (fail))
                  go_ret
                  exact ⟨rfl, by first | exact ((Only.refl _ _).alloc _).drewN _ | exact (((Only.refl _ _).alloc _).drewN _).drewN _⟩
                · have e1 : decide ((x2.toNat : Int) < 128) = false := decide_eq_false (by omega)
                  by_cases g2 : 191 < x2.toNat
                  · rw [if_pos ⟨h2, .inr g2⟩]
                    have e2 : decide ((191 : Int) < (x2.toNat : Int)) = true := decide_eq_true (by omega)
                    go_enter Tryd.func44, Tryd.ntmps44
                    go_wp2_with (fail)
                    go_quiet (fail)
                    go_wp2_with (fail)
                    (try go_quiet (fail))
                    (try go_wp2_with (fail))
                    go_ret
                    exact ⟨rfl, by first | exact ((Only.refl _ _).alloc _).drewN _ | exact (((Only.refl _ _).alloc _).drewN _).drewN _⟩
                  · rw [if_neg (by omega)]
                    have e2 : decide ((191 : Int) < (x2.toNat : Int)) = false := decide_eq_false (by omega)
                    go_enter Tryd.func44, Tryd.ntmps44
                    go_wp2_with (fail)
                    go_quiet (fail)
                    go_wp2_with (fail)
                    (try go_quiet (fail))
                    (try go_wp2_with (fail))
                    go_ret
                    exact ⟨rfl, by first | exact ((Only.refl _ _).alloc _).drewN _ | exact (((Only.refl _ _).alloc _).drewN _).drewN _⟩
              · rw [if_neg (by omega)]
                have d2 : decide ((2 : Int) < (s.size : Int)) = false := decide_eq_false (by omega)
                clear hx2
                go_enter Tryd.func44, Tryd.ntmps44
                go_wp2_with (fail)
                go_quiet (fail)
                go_wp2_with (fail)
                (try go_quiet (fail))
                (try go_wp2_with (fail))
                go_ret
                exact ⟨rfl, by first | exact ((Only.refl _ _).alloc _).drewN _ | exact (((Only.refl _ _).alloc _).drewN _).drewN _⟩
        · rw [if_neg (by omega), if_neg (by omega)]
          have d1 : decide ((1 : Int) < (s.size : Int)) = false := decide_eq_false (by omega)
          have d2 : decide ((2 : Int) < (s.size : Int)) = false := decide_eq_false (by omega)
          clear hx1 hx2
          go_enter Tryd.func44, Tryd.ntmps44
          go_wp2_with (fail)
          go_quiet (fail)
          go_wp2_with (fail)
          (try go_quiet (fail))
          (try go_wp2_with (fail))
          go_ret
          exact ⟨rfl, by first | exact ((Only.refl _ _).alloc _).drewN _ | exact (((Only.refl _ _).alloc _).drewN _).drewN _⟩
    · have ha0 := (hT.2 0 (by omega)).1
      have ha1 := (hT.2 0 (by omega)).2
      rw [hX] at hc0 ⊢
      simp only [Lib.accLo, Lib.accHi, Nat.reduceMul, Nat.reduceAdd, Nat.reduceEqDiff, if_true, if_false, Nat.reduceMod, Nat.reduceDiv] at ha0 ha1 ⊢
      replace ha0 : w.cell? ⟨1, 0, none⟩ = some (.int .u8 128) := ha0
      replace ha1 : w.cell? ⟨1, 1, none⟩ = some (.int .u8 191) := ha1
      replace hc0 : w.cell? ⟨0, x0.toNat, none⟩ = some (.int .u8 4) := hc0
      clear hT hX
      by_cases hk : 4 ≤ s.size
      · rw [if_pos hk]
        have hk' : ¬ ((s.size : Int) < 4) := by omega
        clear hx1 hx2
        go_enter Tryd.func44, Tryd.ntmps44
        go_wp2
        go_ret
        exact ⟨rfl, .refl _ _⟩
      · rw [if_neg hk]
        have hk' : (s.size : Int) < 4 := by omega
        have Hk := Lib.hid hk
        by_cases h1 : 1 < s.size
        · have h1' : (1 : Int) < (s.size : Int) := by omega
          have d1 : decide ((1 : Int) < (s.size : Int)) = true := decide_eq_true (by omega)
          have hs1 : s[1]'(by omega) = x1 := by rw [← hx1]; exact (Utf8W.get!_of_lt s 1 (by omega)).symm
          by_cases hlo : x1.toNat < 128
          · rw [if_pos ⟨h1, .inl hlo⟩]
            have dl : decide ((x1.toNat : Int) < 128) = true := decide_eq_true (by omega)
            clear hx2
            go_enter Tryd.func44, Tryd.ntmps44
            go_wp2_with (fail)
            go_quiet (fail)
            go_wp2_with (fail)
            (try go_quiet (fail))
            (try go_wp2_with (fail))
            go_ret
            exact ⟨rfl, by first | exact ((Only.refl _ _).alloc _).drewN _ | exact (((Only.refl _ _).alloc _).drewN _).drewN _⟩
          · have dl : decide ((x1.toNat : Int) < 128) = false := decide_eq_false (by omega)
            by_cases hhi : 191 < x1.toNat
            · rw [if_pos ⟨h1, .inr hhi⟩]
              have dh : decide ((191 : Int) < (x1.toNat : Int)) = true := decide_eq_true (by omega)
              clear hx2
              go_enter Tryd.func44, Tryd.ntmps44
              go_wp2_with (fail)
              go_quiet (fail)
              go_wp2_with (fail)
              (try go_quiet (fail))
              (try go_wp2_with (fail))
              go_ret
              exact ⟨rfl, by first | exact ((Only.refl _ _).alloc _).drewN _ | exact (((Only.refl _ _).alloc _).drewN _).drewN _⟩
            · rw [if_neg (by omega)]
              have dh : decide ((191 : Int) < (x1.toNat : Int)) = false := decide_eq_false (by omega)
              by_cases h2 : 2 < s.size
              · have h2' : (2 : Int) < (s.size : Int) := by omega
                have d2 : decide ((2 : Int) < (s.size : Int)) = true := decide_eq_true (by omega)
                have hs2 : s[2]'(by omega) = x2 := by rw [← hx2]; exact (Utf8W.get!_of_lt s 2 (by omega)).symm
                by_cases g1 : x2.toNat < 128
                · rw [if_pos ⟨h2, .inl g1⟩]
                  have e1 : decide ((x2.toNat : Int) < 128) = true := decide_eq_true (by omega)
                  go_enter Tryd.func44, Tryd.ntmps44
                  go_wp2_with (fail)
                  go_quiet (fail)
                  go_wp2_with (fail)
                  (try go_quiet (fail))
                  (try go_wp2_with (fail))
                  go_ret
                  exact ⟨rfl, by first | exact ((Only.refl _ _).alloc _).drewN _ | exact (((Only.refl _ _).alloc _).drewN _).drewN _⟩
                · have e1 : decide ((x2.toNat : Int) < 128) = false := decide_eq_false (by omega)
                  by_cases g2 : 191 < x2.toNat
                  · rw [if_pos ⟨h2, .inr g2⟩]
                    have e2 : decide ((191 : Int) < (x2.toNat : Int)) = true := decide_eq_true (by omega)
                    go_enter Tryd.func44, Tryd.ntmps44
                    go_wp2_with (fail)
                    go_quiet (fail)
                    go_wp2_with (fail)
                    (try go_quiet (fail))
                    (try go_wp2_with (fail))
                    go_ret
                    exact ⟨rfl, by first | exact ((Only.refl _ _).alloc _).drewN _ | exact (((Only.refl _ _).alloc _).drewN _).drewN _⟩
                  · rw [if_neg (by omega)]
                    have e2 : decide ((191 : Int) < (x2.toNat : Int)) = false := decide_eq_false (by omega)
                    go_enter Tryd.func44, Tryd.ntmps44
                    go_wp2_with (fail)
                    go_quiet (fail)
                    go_wp2_with (fail)
                    (try go_quiet (fail))
                    (try go_wp2_with (fail))
                    go_ret
                    exact ⟨rfl, by first | exact ((Only.refl _ _).alloc _).drewN _ | exact (((Only.refl _ _).alloc _).drewN _).drewN _⟩
              · rw [if_neg (by omega)]
                have d2 : decide ((2 : Int) < (s.size : Int)) = false := decide_eq_false (by omega)
                clear hx2
                go_enter Tryd.func44, Tryd.ntmps44
                go_wp2_with (fail)
                go_quiet (fail)
                go_wp2_with (fail)
                (try go_quiet (fail))
                (try go_wp2_with (fail))
                go_ret
                exact ⟨rfl, by first | exact ((Only.refl _ _).alloc _).drewN _ | exact (((Only.refl _ _).alloc _).drewN _).drewN _⟩
        · rw [if_neg (by omega), if_neg (by omega)]
          have d1 : decide ((1 : Int) < (s.size : Int)) = false := decide_eq_false (by omega)
          have d2 : decide ((2 : Int) < (s.size : Int)) = false := decide_eq_false (by omega)
          clear hx1 hx2
          go_enter Tryd.func44, Tryd.ntmps44
          go_wp2_with (fail)
          go_quiet (fail)
          go_wp2_with (fail)
          (try go_quiet (fail))
          (try go_wp2_with (fail))
          go_ret
          exact ⟨rfl, by first | exact ((Only.refl _ _).alloc _).drewN _ | exact (((Only.refl _ _).alloc _).drewN _).drewN _⟩
    · have ha0 := (hT.2 4 (by omega)).1
      have ha1 := (hT.2 4 (by omega)).2
      rw [hX] at hc0 ⊢
      simp only [Lib.accLo, Lib.accHi, Nat.reduceMul, Nat.reduceAdd, Nat.reduceEqDiff, if_true, if_false, Nat.reduceMod, Nat.reduceDiv] at ha0 ha1 ⊢
      replace ha0 : w.cell? ⟨1, 8, none⟩ = some (.int .u8 128) := ha0
      replace ha1 : w.cell? ⟨1, 9, none⟩ = some (.int .u8 143) := ha1
      replace hc0 : w.cell? ⟨0, x0.toNat, none⟩ = some (.int .u8 68) := hc0
      clear hT hX
      by_cases hk : 4 ≤ s.size
      · rw [if_pos hk]
        have hk' : ¬ ((s.size : Int) < 4) := by omega
        clear hx1 hx2
        go_enter Tryd.func44, Tryd.ntmps44
        go_wp2
        go_ret
        exact ⟨rfl, .refl _ _⟩
      · rw [if_neg hk]
        have hk' : (s.size : Int) < 4 := by omega
        have Hk := Lib.hid hk
        by_cases h1 : 1 < s.size
        · have h1' : (1 : Int) < (s.size : Int) := by omega
          have d1 : decide ((1 : Int) < (s.size : Int)) = true := decide_eq_true (by omega)
          have hs1 : s[1]'(by omega) = x1 := by rw [← hx1]; exact (Utf8W.get!_of_lt s 1 (by omega)).symm
          by_cases hlo : x1.toNat < 128
          · rw [if_pos ⟨h1, .inl hlo⟩]
            have dl : decide ((x1.toNat : Int) < 128) = true := decide_eq_true (by omega)
            clear hx2
            go_enter Tryd.func44, Tryd.ntmps44
            go_wp2_with (fail)
            go_quiet (fail)
            go_wp2_with (fail)
            (try go_quiet (fail))
            (try go_wp2_with (fail))
            go_ret
            exact ⟨rfl, by first | exact ((Only.refl _ _).alloc _).drewN _ | exact (((Only.refl _ _).alloc _).drewN _).drewN _⟩
          · have dl : decide ((x1.toNat : Int) < 128) = false := decide_eq_false (by omega)
            by_cases hhi : 143 < x1.toNat
            · rw [if_pos ⟨h1, .inr hhi⟩]
              have dh : decide ((143 : Int) < (x1.toNat : Int)) = true := decide_eq_true (by omega)
              clear hx2
              go_enter Tryd.func44, Tryd.ntmps44
              go_wp2_with (fail)
              go_quiet (fail)
              go_wp2_with (fail)
              (try go_quiet (fail))
              (try go_wp2_with (fail))
              go_ret
              exact ⟨rfl, by first | exact ((Only.refl _ _).alloc _).drewN _ | exact (((Only.refl _ _).alloc _).drewN _).drewN _⟩
            · rw [if_neg (by omega)]
              have dh : decide ((143 : Int) < (x1.toNat : Int)) = false := decide_eq_false (by omega)
              by_cases h2 : 2 < s.size
              · have h2' : (2 : Int) < (s.size : Int) := by omega
                have d2 : decide ((2 : Int) < (s.size : Int)) = true := decide_eq_true (by omega)
                have hs2 : s[2]'(by omega) = x2 := by rw [← hx2]; exact (Utf8W.get!_of_lt s 2 (by omega)).symm
                by_cases g1 : x2.toNat < 128
                · rw [if_pos ⟨h2, .inl g1⟩]
                  have e1 : decide ((x2.toNat : Int) < 128) = true := decide_eq_true (by omega)
                  go_enter Tryd.func44, Tryd.ntmps44
                  go_wp2_with (fail)
                  go_quiet (fail)
                  go_wp2_with (fail)
                  (try go_quiet (fail))
                  (try go_wp2_with (fail))
                  go_ret
                  exact ⟨rfl, by first | exact ((Only.refl _ _).alloc _).drewN _ | exact (((Only.refl _ _).alloc _).drewN _).drewN _⟩
                · have e1 : decide ((x2.toNat : Int) < 128) = false := decide_eq_false (by omega)
                  by_cases g2 : 191 < x2.toNat
                  · rw [if_pos ⟨h2, .inr g2⟩]
                    have e2 : decide ((191 : Int) < (x2.toNat : Int)) = true := decide_eq_true (by omega)
                    go_enter Tryd.func44, Tryd.ntmps44
                    go_wp2_with (fail)
                    go_quiet (fail)
                    go_wp2_with (fail)
                    (try go_quiet (fail))
                    (try go_wp2_with (fail))
                    go_ret
                    exact ⟨rfl, by first | exact ((Only.refl _ _).alloc _).drewN _ | exact (((Only.refl _ _).alloc _).drewN _).drewN _⟩
                  · rw [if_neg (by omega)]
                    have e2 : decide ((191 : Int) < (x2.toNat : Int)) = false := decide_eq_false (by omega)
                    go_enter Tryd.func44, Tryd.ntmps44
                    go_wp2_with (fail)
                    go_quiet (fail)
                    go_wp2_with (fail)
                    (try go_quiet (fail))
                    (try go_wp2_with (fail))
                    go_ret
                    exact ⟨rfl, by first | exact ((Only.refl _ _).alloc _).drewN _ | exact (((Only.refl _ _).alloc _).drewN _).drewN _⟩
              · rw [if_neg (by omega)]
                have d2 : decide ((2 : Int) < (s.size : Int)) = false := decide_eq_false (by omega)
                clear hx2
                go_enter Tryd.func44, Tryd.ntmps44
                go_wp2_with (fail)
                go_quiet (fail)
                go_wp2_with (fail)
                (try go_quiet (fail))
                (try go_wp2_with (fail))
                go_ret
                exact ⟨rfl, by first | exact ((Only.refl _ _).alloc _).drewN _ | exact (((Only.refl _ _).alloc _).drewN _).drewN _⟩
        · rw [if_neg (by omega), if_neg (by omega)]
          have d1 : decide ((1 : Int) < (s.size : Int)) = false := decide_eq_false (by omega)
          have d2 : decide ((2 : Int) < (s.size : Int)) = false := decide_eq_false (by omega)
          clear hx1 hx2
          go_enter Tryd.func44, Tryd.ntmps44
          go_wp2_with (fail)
          go_quiet (fail)
          go_wp2_with (fail)
          (try go_quiet (fail))
          (try go_wp2_with (fail))
          go_ret
          exact ⟨rfl, by first | exact ((Only.refl _ _).alloc _).drewN _ | exact (((Only.refl _ _).alloc _).drewN _).drewN _⟩
end Go.Proofs.YteadcibbpbbehaaDoor
