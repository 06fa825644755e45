/- Several texts in one: utf: the walks of first, beginning over the tables.; utf8.FullRuneInString at every string; beginning.; The reference of chapter 2: need, second, fits, Width, Begins.; The reference of chapter 2: Width, Begins, read. -/
import Derived.Test.YtemnanhoiacphaaDoorShelf
import Derived.Test.YtemnanhoiacphaaDoorPk1
import Derived.Test.YtemnanhoiacphaaDoorRows
import Derived.WalkKit
import Derived.Laws.ResultCell
import Derived.Shelf.Spec.BytesIndexFunc
import Derived.Deep.QuietTactic
import Derived.BigQuiet
set_option linter.unusedVariables false
set_option linter.unusedSimpArgs false
namespace Go.Proofs.YtemnanhoiacphaaDoor
open Go.RowKit

/-- the two tables of unicode/utf8 stand as they were laid -/
abbrev Tabs (w : World) : Prop := Lib.Utf8Tabs 0 1 w
theorem Tabs.only {w w' : World} {l : List Nat} (h : Tabs w) (hO : Only l w w') (h0 : 0 ∉ l) (h1 : 1 ∉ l) : Tabs w' :=
  ⟨fun c hc => hO.cellv (h.1 c hc) h0, fun i hi => ⟨hO.cellv (h.2 i hi).1 h1, hO.cellv (h.2 i hi).2 h1⟩⟩

theorem results_cell1 {fn : Func} {p : Tmp} {ty : TypeId} (h : fn.results = #[.cell p ty]) (tmps : Array Value) (P : Program) (w : World) :
    (results fn tmps).run P w = ((asAddr (tmps.getD p undef)).run P w).andThen fun a w₁ => (loadVar ty a).run P w₁ := by
  simp only [results, h]
  simp [Sem.run_bind, Result.andThen]

/-- an item -/
structure It where
  at_ : Nat
  n : Nat
  r : Nat
  bad : Bool
  deriving DecidableEq, Inhabited
def isBad (d : Nat × Nat) : Bool := decide (d.1 = 65533 ∧ d.2 = 1)
def It.enc (x : It) : List Value := [.int .i64 (x.at_ : Int), .int .i64 (x.n : Int), .int .i32 (x.r : Int), .bool x.bad]
def firstIt (s : ByteArray) (p : Nat) : It := ⟨p, (Lib.decodeGo s).2, (Lib.decodeGo s).1, isBad (Lib.decodeGo s)⟩

theorem load4 {w : World} {h0 : Nat} {v0 v1 v2 v3 : Value} (hb : Blk w h0 104 [v0, v1, v2, v3]) :
    (((asAddr (.pointer (some ⟨h0, 0, none⟩))).run Tryd.prog w).andThen fun a w₁ => (loadVar 104 a).run Tryd.prog w₁) = Result.ok (Value.agg #[v0, v1, v2, v3]) w := by
  have c0 : w.cell? ⟨h0, 0, none⟩ = some v0 := hb.cell 0
  have c1 : w.cell? ⟨h0, 1, none⟩ = some v1 := hb.cell 1
  have c2 : w.cell? ⟨h0, 2, none⟩ = some v2 := hb.cell 2
  have c3 : w.cell? ⟨h0, 3, none⟩ = some v3 := hb.cell 3
  go_simp

set_option maxRecDepth 100000 in
set_option maxHeartbeats 2000000 in
theorem first_any (s : ByteArray) (p : Nat) (w : World) (hT : Tabs w) :
    Calls Tryd.prog 46 #[.string s, .int .i64 (p : Int)] w fun e w' => e = .returned (.agg (firstIt s p).enc.toArray) ∧ Only [] w w' := by
  obtain ⟨h0, hh0⟩ : ∃ h, h = w.heap.size := ⟨_, rfl⟩
  have hb : Blk (w.alloc (.cells #[.int .i64 0, .int .i64 0, .int .i32 0, .bool false] 104)) h0 104 [.int .i64 0, .int .i64 0, .int .i32 0, .bool false] := Blk.new' _ _ _ hh0.symm rfl
  have hO := (Only.refl [] w).alloc (.cells #[.int .i64 0, .int .i64 0, .int .i32 0, .bool false] 104)
  go_enter Tryd.func46, Tryd.ntmps46
  go_wp2_with (fail)
  rw [← hh0]
  have hwh : w.heap.size ≤ h0 := by omega
  clear hh0
  refine name_it (p := fun y => Calls _ _ _ y _) ?_
  intro wa Ha
  rw [← Ha.out] at hb hO
  clear Ha
  refine (Tryd.utf8_DecodeRuneInString s wa (hT.only hO (by simp) (by simp))).mono ?_
  rintro e w2 ⟨rfl, hB⟩
  have hO2 := Only.of_below hB
  replace hb := hb.only hO2 (by simp)
  replace hO2 := hO.trans hO2
  obtain ⟨d, hd⟩ : ∃ d, d = Lib.decodeGo s := ⟨_, rfl⟩
  rw [← hd]
  obtain ⟨r, n⟩ := d
  simp only
  have Hd := Lib.hid hd
  have e0 : w2.cell? ⟨h0, 0, none⟩ = some (.int .i64 0) := hb.cell 0
  have e1 : w2.cell? ⟨h0, 1, none⟩ = some (.int .i64 0) := hb.cell 1
  have e2 : w2.cell? ⟨h0, 2, none⟩ = some (.int .i32 0) := hb.cell 2
  have e3 : w2.cell? ⟨h0, 3, none⟩ = some (.bool false) := hb.cell 3
  have z0 := hb.frozen 0
  have z1 := hb.frozen 1
  have z2 := hb.frozen 2
  have z3 := hb.frozen 3
  clear hd hB hO
  by_cases h1 : r = 65533
  · by_cases h2 : n = 1
    · subst h1 h2
      go_wp2_with (fail)
      (try simp only [Exit.inBlock, Exit.then])
      refine bodyPost_ret (v := .agg #[.int .i64 (p : Int), .int .i64 1, .int .i32 65533, .bool true]) ?_ rfl ⟨by (rw [It.enc, firstIt, ← Hd.out]) <;> rfl, ((((hO2.setCell (.inr hwh) _).setCell (.inr hwh) _).setCell (.inr hwh) _).setCell (.inr hwh) _)⟩
      rw [results_cell1 rfl]
      exact load4 ((((hb.set 0 _).set 1 _).set 2 _).set 3 _)
    · subst h1
      have h2' : ((n : Int) == 1) = false := by simp; omega
      have hbad : isBad (65533, n) = false := by simp [isBad, h2]
      go_wp2_with (fail)
      (try simp only [Exit.inBlock, Exit.then])
      refine bodyPost_ret (v := .agg #[.int .i64 (p : Int), .int .i64 (n : Int), .int .i32 65533, .bool false]) ?_ rfl ⟨by (rw [It.enc, firstIt, ← Hd.out, hbad]) <;> rfl, ((((hO2.setCell (.inr hwh) _).setCell (.inr hwh) _).setCell (.inr hwh) _).setCell (.inr hwh) _)⟩
      rw [results_cell1 rfl]
      exact load4 ((((hb.set 0 _).set 1 _).set 2 _).set 3 _)
  · have h1' : ¬ (r : Int) = 65533 := by omega
    have hbad : isBad (r, n) = false := by simp [isBad, h1]
    go_wp2_with (fail)
    (try simp only [Exit.inBlock, Exit.then])
    refine bodyPost_ret (v := .agg #[.int .i64 (p : Int), .int .i64 (n : Int), .int .i32 (r : Int), .bool false]) ?_ rfl ⟨by (rw [It.enc, firstIt, ← Hd.out, hbad]) <;> rfl, ((((hO2.setCell (.inr hwh) _).setCell (.inr hwh) _).setCell (.inr hwh) _).setCell (.inr hwh) _)⟩
    rw [results_cell1 rfl]
    exact load4 ((((hb.set 0 _).set 1 _).set 2 _).set 3 _)

/-- FullRuneInString, of bytes n, b0, b1, b2 (what lies beyond the end: 0) -/
def fullN (n b0 b1 b2 : Nat) : Bool :=
  if n = 0 then false
  else if Lib.firstT b0 % 8 ≤ n then true
  else if 1 < n ∧ (b1 < Lib.accLo (Lib.firstT b0 / 16) ∨ Lib.accHi (Lib.firstT b0 / 16) < b1) then true
  else if 2 < n ∧ (b2 < 128 ∨ 191 < b2) then true
  else false
def fullGo (s : ByteArray) : Bool := fullN s.size (s.get! 0).toNat (s.get! 1).toNat (s.get! 2).toNat
def beginsGo (s : ByteArray) : Bool := decide (s.size ≠ 0) && !fullGo s
end Go.Proofs.YtemnanhoiacphaaDoor

set_option linter.unusedVariables false
set_option linter.unusedSimpArgs false
namespace Go.Proofs.YtemnanhoiacphaaDoor
open Go.RowKit

set_option maxHeartbeats 8000000 in
set_option maxRecDepth 1000000 in
theorem full_any (s : ByteArray) (w : World) (hT : Tabs w) :
    Calls Tryd.prog 68 #[.string s] w fun e w' => e = .returned (.bool (fullGo s)) ∧ Only [] w w' := by
  by_cases h0 : s.size = 0
  · have hres : fullGo s = false := by unfold fullGo fullN; rw [if_pos h0]
    rw [hres]
    clear hres
    go_enter Tryd.func68, Tryd.ntmps68
    go_wp2
    go_ret
    exact ⟨rfl, .refl _ _⟩
  · have hz0 : (0 : Int) < (s.size : Int) := by omega
    have hz0' : ¬ (s.size : Int) = 0 := by omega
    obtain ⟨x0, hx0⟩ : ∃ x0, s.get! 0 = x0 := ⟨_, rfl⟩
    obtain ⟨x1, hx1⟩ : ∃ x1, s.get! 1 = x1 := ⟨_, rfl⟩
    obtain ⟨x2, hx2⟩ : ∃ x2, s.get! 2 = x2 := ⟨_, rfl⟩
    have hs0 : s[0]'(by omega) = x0 := by rw [← hx0]; exact (Utf8W.get!_of_lt s 0 (by omega)).symm
    have l0 := x0.toNat_lt; have l1 := x1.toNat_lt; have l2 := x2.toNat_lt
    have hres : fullGo s = fullN s.size x0.toNat x1.toNat x2.toNat := by unfold fullGo; rw [hx0, hx1, hx2]
    rw [hres]
    clear hres
    have hc0 := hT.1 x0.toNat (by omega)
    unfold fullN
    rw [if_neg h0]
    rcases Lib.firstT_cases x0.toNat with hX | hX | hX | hX | hX | hX | hX | hX | hX
    · rw [hX] at hc0 ⊢
      rw [if_pos (show 240 % 8 ≤ s.size by omega)]
      clear hT hX hx1 hx2
      have hk : ¬ ((s.size : Int) < 0) := by omega
      go_enter Tryd.func68, Tryd.ntmps68
      go_wp2
      go_ret
      exact ⟨rfl, .refl _ _⟩
    · rw [hX] at hc0 ⊢
      rw [if_pos (show 241 % 8 ≤ s.size by omega)]
      clear hT hX hx1 hx2
      have hk : ¬ ((s.size : Int) < 1) := by omega
      go_enter Tryd.func68, Tryd.ntmps68
      go_wp2
      go_ret
      exact ⟨rfl, .refl _ _⟩
    · have ha0 := (hT.2 0 (by omega)).1
      have ha1 := (hT.2 0 (by omega)).2
      rw [hX] at hc0 ⊢
      simp only [Lib.accLo, Lib.accHi, Nat.reduceMul, Nat.reduceAdd, Nat.reduceEqDiff, if_true, if_false, Nat.reduceMod, Nat.reduceDiv] at ha0 ha1 ⊢
      replace ha0 : w.cell? ⟨1, 0, none⟩ = some (.int .u8 128) := ha0
      replace ha1 : w.cell? ⟨1, 1, none⟩ = some (.int .u8 191) := ha1
      replace hc0 : w.cell? ⟨0, x0.toNat, none⟩ = some (.int .u8 2) := hc0
      clear hT hX
      by_cases hk : 2 ≤ s.size
      · rw [if_pos hk]
        have hk' : ¬ ((s.size : Int) < 2) := by omega
        clear hx1 hx2
        go_enter Tryd.func68, Tryd.ntmps68
        go_wp2
        go_ret
        exact ⟨rfl, .refl _ _⟩
      · rw [if_neg hk]
        have hk' : (s.size : Int) < 2 := by omega
        have Hk := Lib.hid hk
        rw [if_neg (by omega), if_neg (by omega)]
        have d1 : decide ((1 : Int) < (s.size : Int)) = false := decide_eq_false (by omega)
        have d2 : decide ((2 : Int) < (s.size : Int)) = false := decide_eq_false (by omega)
        clear hx1 hx2
        go_enter Tryd.func68, Tryd.ntmps68
        go_wp2_with (fail)
        go_quiet (fail)
        go_wp2_with (fail)
        (try go_quiet (fail))
        (try go_wp2_with (fail))
        go_ret
        exact ⟨rfl, by first | exact ((Only.refl _ _).alloc _).drewN _ | exact (((Only.refl _ _).alloc _).drewN _).drewN _⟩
    · have ha0 := (hT.2 1 (by omega)).1
      have ha1 := (hT.2 1 (by omega)).2
      rw [hX] at hc0 ⊢
      simp only [Lib.accLo, Lib.accHi, Nat.reduceMul, Nat.reduceAdd, Nat.reduceEqDiff, if_true, if_false, Nat.reduceMod, Nat.reduceDiv] at ha0 ha1 ⊢
      replace ha0 : w.cell? ⟨1, 2, none⟩ = some (.int .u8 160) := ha0
      replace ha1 : w.cell? ⟨1, 3, none⟩ = some (.int .u8 191) := ha1
      replace hc0 : w.cell? ⟨0, x0.toNat, none⟩ = some (.int .u8 19) := hc0
      clear hT hX
      by_cases hk : 3 ≤ s.size
      · rw [if_pos hk]
        have hk' : ¬ ((s.size : Int) < 3) := by omega
        clear hx1 hx2
        go_enter Tryd.func68, Tryd.ntmps68
        go_wp2
        go_ret
        exact ⟨rfl, .refl _ _⟩
      · rw [if_neg hk]
        have hk' : (s.size : Int) < 3 := by omega
        have Hk := Lib.hid hk
        by_cases h1 : 1 < s.size
        · have h1' : (1 : Int) < (s.size : Int) := by omega
          have d1 : decide ((1 : Int) < (s.size : Int)) = true := decide_eq_true (by omega)
          have hs1 : s[1]'(by omega) = x1 := by rw [← hx1]; exact (Utf8W.get!_of_lt s 1 (by omega)).symm
          by_cases hlo : x1.toNat < 160
          · rw [if_pos ⟨h1, .inl hlo⟩]
            have dl : decide ((x1.toNat : Int) < 160) = true := decide_eq_true (by omega)
            clear hx2
            go_enter Tryd.func68, Tryd.ntmps68
            go_wp2_with (fail)
            go_quiet (fail)
            go_wp2_with (fail)
            (try go_quiet (fail))
            (try go_wp2_with (fail))
            go_ret
            exact ⟨rfl, by first | exact ((Only.refl _ _).alloc _).drewN _ | exact (((Only.refl _ _).alloc _).drewN _).drewN _⟩
          · have dl : decide ((x1.toNat : Int) < 160) = false := decide_eq_false (by omega)
            by_cases hhi : 191 < x1.toNat
            · rw [if_pos ⟨h1, .inr hhi⟩]
              have dh : decide ((191 : Int) < (x1.toNat : Int)) = true := decide_eq_true (by omega)
              clear hx2
              go_enter Tryd.func68, Tryd.ntmps68
              go_wp2_with (fail)
              go_quiet (fail)
              go_wp2_with (fail)
              (try go_quiet (fail))
              (try go_wp2_with (fail))
              go_ret
              exact ⟨rfl, by first | exact ((Only.refl _ _).alloc _).drewN _ | exact (((Only.refl _ _).alloc _).drewN _).drewN _⟩
            · rw [if_neg (by omega)]
              have dh : decide ((191 : Int) < (x1.toNat : Int)) = false := decide_eq_false (by omega)
              rw [if_neg (by omega)]
              have d2 : decide ((2 : Int) < (s.size : Int)) = false := decide_eq_false (by omega)
              clear hx2
              go_enter Tryd.func68, Tryd.ntmps68
              go_wp2_with (fail)
              go_quiet (fail)
              go_wp2_with (fail)
              (try go_quiet (fail))
              (try go_wp2_with (fail))
              go_ret
              exact ⟨rfl, by first | exact ((Only.refl _ _).alloc _).drewN _ | exact (((Only.refl _ _).alloc _).drewN _).drewN _⟩
        · rw [if_neg (by omega), if_neg (by omega)]
          have d1 : decide ((1 : Int) < (s.size : Int)) = false := decide_eq_false (by omega)
          have d2 : decide ((2 : Int) < (s.size : Int)) = false := decide_eq_false (by omega)
          clear hx1 hx2
          go_enter Tryd.func68, Tryd.ntmps68
          go_wp2_with (fail)
          go_quiet (fail)
          go_wp2_with (fail)
          (try go_quiet (fail))
          (try go_wp2_with (fail))
          go_ret
          exact ⟨rfl, by first | exact ((Only.refl _ _).alloc _).drewN _ | exact (((Only.refl _ _).alloc _).drewN _).drewN _⟩
    · have ha0 := (hT.2 0 (by omega)).1
      have ha1 := (hT.2 0 (by omega)).2
      rw [hX] at hc0 ⊢
      simp only [Lib.accLo, Lib.accHi, Nat.reduceMul, Nat.reduceAdd, Nat.reduceEqDiff, if_true, if_false, Nat.reduceMod, Nat.reduceDiv] at ha0 ha1 ⊢
      replace ha0 : w.cell? ⟨1, 0, none⟩ = some (.int .u8 128) := ha0
      replace ha1 : w.cell? ⟨1, 1, none⟩ = some (.int .u8 191) := ha1
      replace hc0 : w.cell? ⟨0, x0.toNat, none⟩ = some (.int .u8 3) := hc0
      clear hT hX
      by_cases hk : 3 ≤ s.size
      · rw [if_pos hk]
        have hk' : ¬ ((s.size : Int) < 3) := by omega
        clear hx1 hx2
        go_enter Tryd.func68, Tryd.ntmps68
        go_wp2
        go_ret
        exact ⟨rfl, .refl _ _⟩
      · rw [if_neg hk]
        have hk' : (s.size : Int) < 3 := by omega
        have Hk := Lib.hid hk
        by_cases h1 : 1 < s.size
        · have h1' : (1 : Int) < (s.size : Int) := by omega
          have d1 : decide ((1 : Int) < (s.size : Int)) = true := decide_eq_true (by omega)
          have hs1 : s[1]'(by omega) = x1 := by rw [← hx1]; exact (Utf8W.get!_of_lt s 1 (by omega)).symm
          by_cases hlo : x1.toNat < 128
          · rw [if_pos ⟨h1, .inl hlo⟩]
            have dl : decide ((x1.toNat : Int) < 128) = true := decide_eq_true (by omega)
            clear hx2
            go_enter Tryd.func68, Tryd.ntmps68
            go_wp2_with (fail)
            go_quiet (fail)
            go_wp2_with (fail)
            (try go_quiet (fail))
            (try go_wp2_with (fail))
            go_ret
            exact ⟨rfl, by first | exact ((Only.refl _ _).alloc _).drewN _ | exact (((Only.refl _ _).alloc _).drewN _).drewN _⟩
          · have dl : decide ((x1.toNat : Int) < 128) = false := decide_eq_false (by omega)
            by_cases hhi : 191 < x1.toNat
            · rw [if_pos ⟨h1, .inr hhi⟩]
              have dh : decide ((191 : Int) < (x1.toNat : Int)) = true := decide_eq_true (by omega)
              clear hx2
              go_enter Tryd.func68, Tryd.ntmps68
              go_wp2_with (fail)
              go_quiet (fail)
              go_wp2_with (fail)
              (try go_quiet (fail))
              (try go_wp2_with (fail))
              go_ret
              exact ⟨rfl, by first | exact ((Only.refl _ _).alloc _).drewN _ | exact (((Only.refl _ _).alloc _).drewN _).drewN _⟩
            · rw [if_neg (by omega)]
              have dh : decide ((191 : Int) < (x1.toNat : Int)) = false := decide_eq_false (by omega)
              rw [if_neg (by omega)]
              have d2 : decide ((2 : Int) < (s.size : Int)) = false := decide_eq_false (by omega)
              clear hx2
              go_enter Tryd.func68, Tryd.ntmps68
              go_wp2_with (fail)
              go_quiet (fail)
              go_wp2_with (fail)
              (try go_quiet (fail))
              (try go_wp2_with (fail))
              go_ret
              exact ⟨rfl, by first | exact ((Only.refl _ _).alloc _).drewN _ | exact (((Only.refl _ _).alloc _).drewN _).drewN _⟩
        · rw [if_neg (by omega), if_neg (by omega)]
          have d1 : decide ((1 : Int) < (s.size : Int)) = false := decide_eq_false (by omega)
          have d2 : decide ((2 : Int) < (s.size : Int)) = false := decide_eq_false (by omega)
          clear hx1 hx2
          go_enter Tryd.func68, Tryd.ntmps68
          go_wp2_with (fail)
          go_quiet (fail)
          go_wp2_with (fail)
          (try go_quiet (fail))
          (try go_wp2_with (fail))
          go_ret
          exact ⟨rfl, by first | exact ((Only.refl _ _).alloc _).drewN _ | exact (((Only.refl _ _).alloc _).drewN _).drewN _⟩
    · have ha0 := (hT.2 2 (by omega)).1
      have ha1 := (hT.2 2 (by omega)).2
      rw [hX] at hc0 ⊢
      simp only [Lib.accLo, Lib.accHi, Nat.reduceMul, Nat.reduceAdd, Nat.reduceEqDiff, if_true, if_false, Nat.reduceMod, Nat.reduceDiv] at ha0 ha1 ⊢
      replace ha0 : w.cell? ⟨1, 4, none⟩ = some (.int .u8 128) := ha0
      replace ha1 : w.cell? ⟨1, 5, none⟩ = some (.int .u8 159) := ha1
      replace hc0 : w.cell? ⟨0, x0.toNat, none⟩ = some (.int .u8 35) := hc0
      clear hT hX
      by_cases hk : 3 ≤ s.size
      · rw [if_pos hk]
        have hk' : ¬ ((s.size : Int) < 3) := by omega
        clear hx1 hx2
        go_enter Tryd.func68, Tryd.ntmps68
        go_wp2
        go_ret
        exact ⟨rfl, .refl _ _⟩
      · rw [if_neg hk]
        have hk' : (s.size : Int) < 3 := by omega
        have Hk := Lib.hid hk
        by_cases h1 : 1 < s.size
        · have h1' : (1 : Int) < (s.size : Int) := by omega
          have d1 : decide ((1 : Int) < (s.size : Int)) = true := decide_eq_true (by omega)
          have hs1 : s[1]'(by omega) = x1 := by rw [← hx1]; exact (Utf8W.get!_of_lt s 1 (by omega)).symm
          by_cases hlo : x1.toNat < 128
          · rw [if_pos ⟨h1, .inl hlo⟩]
            have dl : decide ((x1.toNat : Int) < 128) = true := decide_eq_true (by omega)
            clear hx2
            go_enter Tryd.func68, Tryd.ntmps68
            go_wp2_with (fail)
            go_quiet (fail)
            go_wp2_with (fail)
            (try go_quiet (fail))
            (try go_wp2_with (fail))
            go_ret
            exact ⟨rfl, by first | exact ((Only.refl _ _).alloc _).drewN _ | exact (((Only.refl _ _).alloc _).drewN _).drewN _⟩
          · have dl : decide ((x1.toNat : Int) < 128) = false := decide_eq_false (by omega)
            by_cases hhi : 159 < x1.toNat
            · rw [if_pos ⟨h1, .inr hhi⟩]
              have dh : decide ((159 : Int) < (x1.toNat : Int)) = true := decide_eq_true (by omega)
              clear hx2
              go_enter Tryd.func68, Tryd.ntmps68
              go_wp2_with (fail)
              go_quiet (fail)
              go_wp2_with (fail)
              (try go_quiet (fail))
              (try go_wp2_with (fail))
              go_ret
              exact ⟨rfl, by first | exact ((Only.refl _ _).alloc _).drewN _ | exact (((Only.refl _ _).alloc _).drewN _).drewN _⟩
            · rw [if_neg (by omega)]
              have dh : decide ((159 : Int) < (x1.toNat : Int)) = false := decide_eq_false (by omega)
              rw [if_neg (by omega)]
              have d2 : decide ((2 : Int) < (s.size : Int)) = false := decide_eq_false (by omega)
              clear hx2
              go_enter Tryd.func68, Tryd.ntmps68
              go_wp2_with (fail)
              go_quiet (fail)
              go_wp2_with (fail)
              (try go_quiet (fail))
              (try go_wp2_with (fail))
              go_ret
              exact ⟨rfl, by first | exact ((Only.refl _ _).alloc _).drewN _ | exact (((Only.refl _ _).alloc _).drewN _).drewN _⟩
        · rw [if_neg (by omega), if_neg (by omega)]
          have d1 : decide ((1 : Int) < (s.size : Int)) = false := decide_eq_false (by omega)
          have d2 : decide ((2 : Int) < (s.size : Int)) = false := decide_eq_false (by omega)
          clear hx1 hx2
          go_enter Tryd.func68, Tryd.ntmps68
          go_wp2_with (fail)
          go_quiet (fail)
          go_wp2_with (fail)
          (try go_quiet (fail))
          (try go_wp2_with (fail))
          go_ret
          exact ⟨rfl, by first | exact ((Only.refl _ _).alloc _).drewN _ | exact (((Only.refl _ _).alloc _).drewN _).drewN _⟩
    · have ha0 := (hT.2 3 (by omega)).1
      have ha1 := (hT.2 3 (by omega)).2
      rw [hX] at hc0 ⊢
      simp only [Lib.accLo, Lib.accHi, Nat.reduceMul, Nat.reduceAdd, Nat.reduceEqDiff, if_true, if_false, Nat.reduceMod, Nat.reduceDiv] at ha0 ha1 ⊢
      replace ha0 : w.cell? ⟨1, 6, none⟩ = some (.int .u8 144) := ha0
      replace ha1 : w.cell? ⟨1, 7, none⟩ = some (.int .u8 191) := ha1
      replace hc0 : w.cell? ⟨0, x0.toNat, none⟩ = some (.int .u8 52) := hc0
      clear hT hX
      by_cases hk : 4 ≤ s.size
      · rw [if_pos hk]
        have hk' : ¬ ((s.size : Int) < 4) := by omega
        clear hx1 hx2
        go_enter Tryd.func68, Tryd.ntmps68
        go_wp2
        go_ret
        exact ⟨rfl, .refl _ _⟩
      · rw [if_neg hk]
        have hk' : (s.size : Int) < 4 := by omega
        have Hk := Lib.hid hk
        by_cases h1 : 1 < s.size
        · have h1' : (1 : Int) < (s.size : Int) := by omega
          have d1 : decide ((1 : Int) < (s.size : Int)) = true := decide_eq_true (by omega)
          have hs1 : s[1]'(by omega) = x1 := by rw [← hx1]; exact (Utf8W.get!_of_lt s 1 (by omega)).symm
          by_cases hlo : x1.toNat < 144
          · rw [if_pos ⟨h1, .inl hlo⟩]
            have dl : decide ((x1.toNat : Int) < 144) = true := decide_eq_true (by omega)
            clear hx2
            go_enter Tryd.func68, Tryd.ntmps68
            go_wp2_with (fail)
            go_quiet (fail)
            go_wp2_with (fail)
            (try go_quiet (fail))
            (try go_wp2_with (fail))
            go_ret
            exact ⟨rfl, by first | exact ((Only.refl _ _).alloc _).drewN _ | exact (((Only.refl _ _).alloc _).drewN _).drewN _⟩
          · have dl : decide ((x1.toNat : Int) < 144) = false := decide_eq_false (by omega)
            by_cases hhi : 191 < x1.toNat
            · rw [if_pos ⟨h1, .inr hhi⟩]
              have dh : decide ((191 : Int) < (x1.toNat : Int)) = true := decide_eq_true (by omega)
              clear hx2
              go_enter Tryd.func68, Tryd.ntmps68
              go_wp2_with (fail)
              go_quiet (fail)
              go_wp2_with (fail)
              (try go_quiet (fail))
              (try go_wp2_with (fail))
              go_ret
              exact ⟨rfl, by first | exact ((Only.refl _ _).alloc _).drewN _ | exact (((Only.refl _ _).alloc _).drewN _).drewN _⟩
            · rw [if_neg (by omega)]
              have dh : decide ((191 : Int) < (x1.toNat : Int)) = false := decide_eq_false (by omega)
              by_cases h2 : 2 < s.size
              · have h2' : (2 : Int) < (s.size : Int) := by omega
                have d2 : decide ((2 : Int) < (s.size : Int)) = true := decide_eq_true (by omega)
                have hs2 : s[2]'(by omega) = x2 := by rw [← hx2]; exact (Utf8W.get!_of_lt s 2 (by omega)).symm
                by_cases g1 : x2.toNat < 128
                · rw [if_pos ⟨h2, .inl g1⟩]
                  have e1 : decide ((x2.toNat : Int) < 128) = true := decide_eq_true (by omega)
                  go_enter Tryd.func68, Tryd.ntmps68
                  go_wp2_with (fail)
                  go_quiet (fail)
                  go_wp2_with (fail)
                  (try go_quiet (fail))
                  (try go_wp2_with (fail))
                  go_ret
                  exact ⟨rfl, by first | exact ((Only.refl _ _).alloc _).drewN _ | exact (((Only.refl _ _).alloc _).drewN _).drewN _⟩
                · have e1 : decide ((x2.toNat : Int) < 128) = false := decide_eq_false (by omega)
                  by_cases g2 : 191 < x2.toNat
                  · rw [if_pos ⟨h2, .inr g2⟩]
                    have e2 : decide ((191 : Int) < (x2.toNat : Int)) = true := decide_eq_true (by omega)
                    go_enter Tryd.func68, Tryd.ntmps68
                    go_wp2_with (fail)
                    go_quiet (fail)
                    go_wp2_with (fail)
                    (try go_quiet (fail))
                    (try go_wp2_with (fail))
                    go_ret
                    exact ⟨rfl, by first | exact ((Only.refl _ _).alloc _).drewN _ | exact (((Only.refl _ _).alloc _).drewN _).drewN _⟩
                  · rw [if_neg (by omega)]
                    have e2 : decide ((191 : Int) < (x2.toNat : Int)) = false := decide_eq_false (by omega)
                    go_enter Tryd.func68, Tryd.ntmps68
                    go_wp2_with (fail)
                    go_quiet (fail)
                    go_wp2_with (fail)
                    (try go_quiet (fail))
                    (try go_wp2_with (fail))
                    go_ret
                    exact ⟨rfl, by first | exact ((Only.refl _ _).alloc _).drewN _ | exact (((Only.refl _ _).alloc _).drewN _).drewN _⟩
              · rw [if_neg (by omega)]
                have d2 : decide ((2 : Int) < (s.size : Int)) = false := decide_eq_false (by omega)
                clear hx2
                go_enter Tryd.func68, Tryd.ntmps68
                go_wp2_with (fail)
                go_quiet (fail)
                go_wp2_with (fail)
                (try go_quiet (fail))
                (try go_wp2_with (fail))
                go_ret
                exact ⟨rfl, by first | exact ((Only.refl _ _).alloc _).drewN _ | exact (((Only.refl _ _).alloc _).drewN _).drewN _⟩
        · rw [if_neg (by omega), if_neg (by omega)]
          have d1 : decide ((1 : Int) < (s.size : Int)) = false := decide_eq_false (by omega)
          have d2 : decide ((2 : Int) < (s.size : Int)) = false := decide_eq_false (by omega)
          clear hx1 hx2
          go_enter Tryd.func68, Tryd.ntmps68
          go_wp2_with (fail)
          go_quiet (fail)
          go_wp2_with (fail)
          (try go_quiet (fail))
          (try go_wp2_with (fail))
          go_ret
          exact ⟨rfl, by first | exact ((Only.refl _ _).alloc _).drewN _ | exact (((Only.refl _ _).alloc _).drewN _).drewN _⟩
    · have ha0 := (hT.2 0 (by omega)).1
      have ha1 := (hT.2 0 (by omega)).2
      rw [hX] at hc0 ⊢
      simp only [Lib.accLo, Lib.accHi, Nat.reduceMul, Nat.reduceAdd, Nat.reduceEqDiff, if_true, if_false, Nat.reduceMod, Nat.reduceDiv] at ha0 ha1 ⊢
      replace ha0 : w.cell? ⟨1, 0, none⟩ = some (.int .u8 128) := ha0
      replace ha1 : w.cell? ⟨1, 1, none⟩ = some (.int .u8 191) := ha1
      replace hc0 : w.cell? ⟨0, x0.toNat, none⟩ = some (.int .u8 4) := hc0
      clear hT hX
      by_cases hk : 4 ≤ s.size
      · rw [if_pos hk]
        have hk' : ¬ ((s.size : Int) < 4) := by omega
        clear hx1 hx2
        go_enter Tryd.func68, Tryd.ntmps68
        go_wp2
        go_ret
        exact ⟨rfl, .refl _ _⟩
      · rw [if_neg hk]
        have hk' : (s.size : Int) < 4 := by omega
        have Hk := Lib.hid hk
        by_cases h1 : 1 < s.size
        · have h1' : (1 : Int) < (s.size : Int) := by omega
          have d1 : decide ((1 : Int) < (s.size : Int)) = true := decide_eq_true (by omega)
          have hs1 : s[1]'(by omega) = x1 := by rw [← hx1]; exact (Utf8W.get!_of_lt s 1 (by omega)).symm
          by_cases hlo : x1.toNat < 128
          · rw [if_pos ⟨h1, .inl hlo⟩]
            have dl : decide ((x1.toNat : Int) < 128) = true := decide_eq_true (by omega)
            clear hx2
            go_enter Tryd.func68, Tryd.ntmps68
            go_wp2_with (fail)
            go_quiet (fail)
            go_wp2_with (fail)
            (try go_quiet (fail))
            (try go_wp2_with (fail))
            go_ret
            exact ⟨rfl, by first | exact ((Only.refl _ _).alloc _).drewN _ | exact (((Only.refl _ _).alloc _).drewN _).drewN _⟩
          · have dl : decide ((x1.toNat : Int) < 128) = false := decide_eq_false (by omega)
            by_cases hhi : 191 < x1.toNat
            · rw [if_pos ⟨h1, .inr hhi⟩]
              have dh : decide ((191 : Int) < (x1.toNat : Int)) = true := decide_eq_true (by omega)
              clear hx2
              go_enter Tryd.func68, Tryd.ntmps68
              go_wp2_with (fail)
              go_quiet (fail)
              go_wp2_with (fail)
              (try go_quiet (fail))
              (try go_wp2_with (fail))
              go_ret
              exact ⟨rfl, by first | exact ((Only.refl _ _).alloc _).drewN _ | exact (((Only.refl _ _).alloc _).drewN _).drewN _⟩
            · rw [if_neg (by omega)]
              have dh : decide ((191 : Int) < (x1.toNat : Int)) = false := decide_eq_false (by omega)
              by_cases h2 : 2 < s.size
              · have h2' : (2 : Int) < (s.size : Int) := by omega
                have d2 : decide ((2 : Int) < (s.size : Int)) = true := decide_eq_true (by omega)
                have hs2 : s[2]'(by omega) = x2 := by rw [← hx2]; exact (Utf8W.get!_of_lt s 2 (by omega)).symm
                by_cases g1 : x2.toNat < 128
                · rw [if_pos ⟨h2, .inl g1⟩]
                  have e1 : decide ((x2.toNat : Int) < 128) = true := decide_eq_true (by omega)
                  go_enter Tryd.func68, Tryd.ntmps68
                  go_wp2_with (fail)
                  go_quiet (fail)
                  go_wp2_with (fail)
                  (try go_quiet (fail))
                  (try go_wp2_with (fail))
                  go_ret
                  exact ⟨rfl, by first | exact ((Only.refl _ _).alloc _).drewN _ | exact (((Only.refl _ _).alloc _).drewN _).drewN _⟩
                · have e1 : decide ((x2.toNat : Int) < 128) = false := decide_eq_false (by omega)
                  by_cases g2 : 191 < x2.toNat
                  · rw [if_pos ⟨h2, .inr g2⟩]
                    have e2 : decide ((191 : Int) < (x2.toNat : Int)) = true := decide_eq_true (by omega)
                    go_enter Tryd.func68, Tryd.ntmps68
                    go_wp2_with (fail)
                    go_quiet (fail)
                    go_wp2_with (fail)
                    (try go_quiet (fail))
                    (try go_wp2_with (fail))
                    go_ret
                    exact ⟨rfl, by first | exact ((Only.refl _ _).alloc _).drewN _ | exact (((Only.refl _ _).alloc _).drewN _).drewN _⟩
                  · rw [if_neg (by omega)]
                    have e2 : decide ((191 : Int) < (x2.toNat : Int)) = false := decide_eq_false (by omega)
                    go_enter Tryd.func68, Tryd.ntmps68
                    go_wp2_with (fail)
                    go_quiet (fail)
                    go_wp2_with (fail)
                    (try go_quiet (fail))
                    (try go_wp2_with (fail))
                    go_ret
                    exact ⟨rfl, by first | exact ((Only.refl _ _).alloc _).drewN _ | exact (((Only.refl _ _).alloc _).drewN _).drewN _⟩
              · rw [if_neg (by omega)]
                have d2 : decide ((2 : Int) < (s.size : Int)) = false := decide_eq_false (by omega)
                clear hx2
                go_enter Tryd.func68, Tryd.ntmps68
                go_wp2_with (fail)
                go_quiet (fail)
                go_wp2_with (fail)
                (try go_quiet (fail))
                (try go_wp2_with (fail))
                go_ret
                exact ⟨rfl, by first | exact ((Only.refl _ _).alloc _).drewN _ | exact (((Only.refl _ _).alloc _).drewN _).drewN _⟩
        · rw [if_neg (by omega), if_neg (by omega)]
          have d1 : decide ((1 : Int) < (s.size : Int)) = false := decide_eq_false (by omega)
          have d2 : decide ((2 : Int) < (s.size : Int)) = false := decide_eq_false (by omega)
          clear hx1 hx2
          go_enter Tryd.func68, Tryd.ntmps68
          go_wp2_with (fail)
          go_quiet (fail)
          go_wp2_with (fail)
          (try go_quiet (fail))
          (try go_wp2_with (fail))
          go_ret
          exact ⟨rfl, by first | exact ((Only.refl _ _).alloc _).drewN _ | exact (((Only.refl _ _).alloc _).drewN _).drewN _⟩
    · have ha0 := (hT.2 4 (by omega)).1
      have ha1 := (hT.2 4 (by omega)).2
      rw [hX] at hc0 ⊢
      simp only [Lib.accLo, Lib.accHi, Nat.reduceMul, Nat.reduceAdd, Nat.reduceEqDiff, if_true, if_false, Nat.reduceMod, Nat.reduceDiv] at ha0 ha1 ⊢
      replace ha0 : w.cell? ⟨1, 8, none⟩ = some (.int .u8 128) := ha0
      replace ha1 : w.cell? ⟨1, 9, none⟩ = some (.int .u8 143) := ha1
      replace hc0 : w.cell? ⟨0, x0.toNat, none⟩ = some (.int .u8 68) := hc0
      clear hT hX
      by_cases hk : 4 ≤ s.size
      · rw [if_pos hk]
        have hk' : ¬ ((s.size : Int) < 4) := by omega
        clear hx1 hx2
        go_enter Tryd.func68, Tryd.ntmps68
        go_wp2
        go_ret
        exact ⟨rfl, .refl _ _⟩
      · rw [if_neg hk]
        have hk' : (s.size : Int) < 4 := by omega
        have Hk := Lib.hid hk
        by_cases h1 : 1 < s.size
        · have h1' : (1 : Int) < (s.size : Int) := by omega
          have d1 : decide ((1 : Int) < (s.size : Int)) = true := decide_eq_true (by omega)
          have hs1 : s[1]'(by omega) = x1 := by rw [← hx1]; exact (Utf8W.get!_of_lt s 1 (by omega)).symm
          by_cases hlo : x1.toNat < 128
          · rw [if_pos ⟨h1, .inl hlo⟩]
            have dl : decide ((x1.toNat : Int) < 128) = true := decide_eq_true (by omega)
            clear hx2
            go_enter Tryd.func68, Tryd.ntmps68
            go_wp2_with (fail)
            go_quiet (fail)
            go_wp2_with (fail)
            (try go_quiet (fail))
            (try go_wp2_with (fail))
            go_ret
            exact ⟨rfl, by first | exact ((Only.refl _ _).alloc _).drewN _ | exact (((Only.refl _ _).alloc _).drewN _).drewN _⟩
          · have dl : decide ((x1.toNat : Int) < 128) = false := decide_eq_false (by omega)
            by_cases hhi : 143 < x1.toNat
            · rw [if_pos ⟨h1, .inr hhi⟩]
              have dh : decide ((143 : Int) < (x1.toNat : Int)) = true := decide_eq_true (by omega)
              clear hx2
              go_enter Tryd.func68, Tryd.ntmps68
              go_wp2_with (fail)
              go_quiet (fail)
              go_wp2_with (fail)
              (try go_quiet (fail))
              (try go_wp2_with (fail))
              go_ret
              exact ⟨rfl, by first | exact ((Only.refl _ _).alloc _).drewN _ | exact (((Only.refl _ _).alloc _).drewN _).drewN _⟩
            · rw [if_neg (by omega)]
              have dh : decide ((143 : Int) < (x1.toNat : Int)) = false := decide_eq_false (by omega)
              by_cases h2 : 2 < s.size
              · have h2' : (2 : Int) < (s.size : Int) := by omega
                have d2 : decide ((2 : Int) < (s.size : Int)) = true := decide_eq_true (by omega)
                have hs2 : s[2]'(by omega) = x2 := by rw [← hx2]; exact (Utf8W.get!_of_lt s 2 (by omega)).symm
                by_cases g1 : x2.toNat < 128
                · rw [if_pos ⟨h2, .inl g1⟩]
                  have e1 : decide ((x2.toNat : Int) < 128) = true := decide_eq_true (by omega)
                  go_enter Tryd.func68, Tryd.ntmps68
                  go_wp2_with (fail)
                  go_quiet (fail)
                  go_wp2_with (fail)
                  (try go_quiet (fail))
                  (try go_wp2_with (fail))
                  go_ret
                  exact ⟨rfl, by first | exact ((Only.refl _ _).alloc _).drewN _ | exact (((Only.refl _ _).alloc _).drewN _).drewN _⟩
                · have e1 : decide ((x2.toNat : Int) < 128) = false := decide_eq_false (by omega)
                  by_cases g2 : 191 < x2.toNat
                  · rw [if_pos ⟨h2, .inr g2⟩]
                    have e2 : decide ((191 : Int) < (x2.toNat : Int)) = true := decide_eq_true (by omega)
                    go_enter Tryd.func68, Tryd.ntmps68
                    go_wp2_with (fail)
                    go_quiet (fail)
                    go_wp2_with (fail)
                    (try go_quiet (fail))
                    (try go_wp2_with (fail))
                    go_ret
                    exact ⟨rfl, by first | exact ((Only.refl _ _).alloc _).drewN _ | exact (((Only.refl _ _).alloc _).drewN _).drewN _⟩
                  · rw [if_neg (by omega)]
                    have e2 : decide ((191 : Int) < (x2.toNat : Int)) = false := decide_eq_false (by omega)
                    go_enter Tryd.func68, Tryd.ntmps68
                    go_wp2_with (fail)
                    go_quiet (fail)
                    go_wp2_with (fail)
                    (try go_quiet (fail))
                    (try go_wp2_with (fail))
                    go_ret
                    exact ⟨rfl, by first | exact ((Only.refl _ _).alloc _).drewN _ | exact (((Only.refl _ _).alloc _).drewN _).drewN _⟩
              · rw [if_neg (by omega)]
                have d2 : decide ((2 : Int) < (s.size : Int)) = false := decide_eq_false (by omega)
                clear hx2
                go_enter Tryd.func68, Tryd.ntmps68
                go_wp2_with (fail)
                go_quiet (fail)
                go_wp2_with (fail)
                (try go_quiet (fail))
                (try go_wp2_with (fail))
                go_ret
                exact ⟨rfl, by first | exact ((Only.refl _ _).alloc _).drewN _ | exact (((Only.refl _ _).alloc _).drewN _).drewN _⟩
        · rw [if_neg (by omega), if_neg (by omega)]
          have d1 : decide ((1 : Int) < (s.size : Int)) = false := decide_eq_false (by omega)
          have d2 : decide ((2 : Int) < (s.size : Int)) = false := decide_eq_false (by omega)
          clear hx1 hx2
          go_enter Tryd.func68, Tryd.ntmps68
          go_wp2_with (fail)
          go_quiet (fail)
          go_wp2_with (fail)
          (try go_quiet (fail))
          (try go_wp2_with (fail))
          go_ret
          exact ⟨rfl, by first | exact ((Only.refl _ _).alloc _).drewN _ | exact (((Only.refl _ _).alloc _).drewN _).drewN _⟩
end Go.Proofs.YtemnanhoiacphaaDoor

set_option linter.unusedVariables false
set_option linter.unusedSimpArgs false
namespace Go.Proofs.YtemnanhoiacphaaDoor
open Go.RowKit

def needN (c : Nat) : Nat := if 194 ≤ c ∧ c ≤ 223 then 2 else if 224 ≤ c ∧ c ≤ 239 then 3 else if 240 ≤ c ∧ c ≤ 244 then 4 else 0
def secLo (c : Nat) : Nat := if c = 240 then 144 else if c = 224 then 160 else 128
def secHi (c : Nat) : Nat := if c = 244 then 143 else if c = 237 then 159 else 191
def secondN (c d : Nat) : Bool := decide (secLo c ≤ d ∧ d ≤ secHi c)
def contN (d : Nat) : Bool := decide (128 ≤ d ∧ d ≤ 191)
/-- fits, of the bytes at a place; m: how many bytes there are from there on -/
def fitsP (most m b0 b1 b2 b3 : Nat) : Nat :=
  if 1 < most ∧ 1 < m ∧ secondN b0 b1 = true then (if 2 < most ∧ 2 < m ∧ contN b2 = true then (if 3 < most ∧ 3 < m ∧ contN b3 = true then 4 else 3) else 2) else 1
def byteAt (s : ByteArray) (i : Nat) : Nat := (s.get! i).toNat
def fitsS (s : ByteArray) (p most : Nat) : Nat := fitsP most (s.size - p) (byteAt s p) (byteAt s (p + 1)) (byteAt s (p + 2)) (byteAt s (p + 3))
def widthS (s : ByteArray) (p : Nat) : Nat := if byteAt s p < 128 then 1 else if needN (byteAt s p) = 0 ∨ fitsS s p (needN (byteAt s p)) < needN (byteAt s p) then 0 else needN (byteAt s p)
def beginsS (s : ByteArray) (p : Nat) : Nat := if needN (byteAt s p) = 0 then 0 else fitsS s p (needN (byteAt s p) - 1)
theorem needN_le (c : Nat) : needN c ≤ 4 := by unfold needN; (repeat' split) <;> omega

theorem byte_lt' (s : ByteArray) (i : Nat) : byteAt s i < 256 := (s.get! i).toNat_lt
/-- an index into a text, as the walk reads it -/
theorem idx_str {P : Program} (ty : TypeId) (hu : P.underlying ty = some .string) (s : ByteArray) (i : Nat) (x : Int) (hx : x = (i : Int)) (h : i < s.size) (k : IntKind) (W : World) : (Instr.index ty (.string s) (.int k x)).run P W = .ok (.int .u8 ((byteAt s i : Nat) : Int)) W := by
  subst hx
  have e : s[i]? = some (s.get! i) := by rw [Utf8W.get!_of_lt s i h]; exact getElem?_pos s i h
  simp [Instr.index, asIntOf, run_underlying hu, e, byteAt]

set_option maxRecDepth 100000 in
set_option maxHeartbeats 1000000 in
theorem need_any (c : Nat) (w : World) : Calls Tryd.prog 96 #[.int .u8 (c : Int)] w fun e w' => e = .returned (.int .i64 (needN c : Int)) ∧ w = w' := by
  go_enter Tryd.func96, Tryd.ntmps96
  go_wp2
  all_goals
    go_ret
    exact ⟨ret_int (by unfold needN; (try simp at *) <;> (repeat' split) <;> omega), rfl⟩
set_option maxRecDepth 100000 in
set_option maxHeartbeats 1000000 in
theorem second_any (c d : Nat) (w : World) : Calls Tryd.prog 101 #[.int .u8 (c : Int), .int .u8 (d : Int)] w fun e w' => e = .returned (.bool (secondN c d)) ∧ w = w' := by
  go_enter Tryd.func101, Tryd.ntmps101
  go_wp2
  all_goals
    go_ret
    exact ⟨ret_bool (by unfold secondN secLo secHi; rw [Bool.eq_iff_iff]; (try simp at *) <;> (repeat' split) <;> omega), rfl⟩

set_option maxRecDepth 100000 in
set_option maxHeartbeats 4000000 in
theorem fits_any (s : ByteArray) (p most : Nat) (hp : p < s.size) (hm : most ≤ 4) (hs : s.size ≤ 140737488351232) (w : World) :
    Calls Tryd.prog 97 #[.string s, .int .i64 (p : Int), .int .i64 (most : Int)] w fun e w' => e = .returned (.int .i64 (fitsS s p most : Int)) ∧ w = w' := by
  obtain ⟨b0, hb0⟩ : ∃ b, b = byteAt s p := ⟨_, rfl⟩
  obtain ⟨b1, hb1⟩ : ∃ b, b = byteAt s (p + 1) := ⟨_, rfl⟩
  obtain ⟨b2, hb2⟩ : ∃ b, b = byteAt s (p + 2) := ⟨_, rfl⟩
  obtain ⟨b3, hb3⟩ : ∃ b, b = byteAt s (p + 3) := ⟨_, rfl⟩
  obtain ⟨m, hmm⟩ : ∃ m, m = s.size - p := ⟨_, rfl⟩
  have hres : fitsS s p most = fitsP most m b0 b1 b2 b3 := by unfold fitsS; rw [← hb0, ← hb1, ← hb2, ← hb3, ← hmm]
  rw [hres]
  have i0 := idx_str (P := Tryd.prog) 9 Tryd.underlying9 s p (p : Int) rfl hp
  rw [← hb0] at i0
  have i1 := fun h => idx_str (P := Tryd.prog) 9 Tryd.underlying9 s (p + 1) ((p : Int) + 1) (by omega) h
  have i2 := fun h => idx_str (P := Tryd.prog) 9 Tryd.underlying9 s (p + 2) ((p : Int) + 2) (by omega) h
  have i3 := fun h => idx_str (P := Tryd.prog) 9 Tryd.underlying9 s (p + 3) ((p : Int) + 3) (by omega) h
  rw [← hb1] at i1
  rw [← hb2] at i2
  rw [← hb3] at i3
  have Hm := Lib.hid hmm
  clear hres hb0 hb1 hb2 hb3 hmm
  have l0 : 2 ≤ 3 := by omega
  go_enter Tryd.func97, Tryd.ntmps97
  go_wp2_with (fail)
  go_loop [7] (fun vn => (vn = .int .i64 1) ∨ (vn = .int .i64 2 ∧ 1 < most ∧ 1 < m ∧ secondN b0 b1 = true) ∨ (vn = .int .i64 3 ∧ 2 < most ∧ 2 < m ∧ secondN b0 b1 = true ∧ contN b2 = true) ∨ (vn = .int .i64 4 ∧ 3 < most ∧ 3 < m ∧ secondN b0 b1 = true ∧ contN b2 = true ∧ contN b3 = true)) (fun vn => 4 - (intOf vn).toNat)
  case atStart => exact .inl rfl
  case round =>
    rcases hrel with rfl | ⟨rfl, h1, h2, h3⟩ | ⟨rfl, h1, h2, h3, h4⟩ | ⟨rfl, h1, h2, h3, h4, h5⟩
    · by_cases g1 : 1 < most
      · by_cases g2 : 1 < m
        · have j1 := i1 (by have := Hm.out; omega)
          have g1' : (1 : Int) < (most : Int) := by omega
          have g2' : (p : Int) + 1 < (s.size : Int) := by have := Hm.out; omega
          clear i1 i2 i3
          go_wp2_with (fail)
          refine (second_any b0 b1 _).mono ?_
          rintro e w2 ⟨rfl, rfl⟩
          obtain ⟨c, hc⟩ : ∃ c, c = secondN b0 b1 := ⟨_, rfl⟩
          rw [← hc]
          have Hc := Lib.hid hc
          clear hc
          cases c with
          | false =>
            go_wp2_with (fail)
            go_ret
            exact ⟨ret_int (by unfold fitsP; rw [if_neg (by rw [← Hc.out]; simp)]; rfl), rfl⟩
          | true =>
            go_wp2_with (fail)
            go_round
            case rel => exact .inr (.inl ⟨rfl, g1, g2, Hc.out.symm⟩)
            case measure => simp [intOf]
        · have g1' : (1 : Int) < (most : Int) := by omega
          have g2' : ¬ (p : Int) + 1 < (s.size : Int) := by have := Hm.out; omega
          clear i1 i2 i3
          go_wp2_with (fail)
          go_ret
          exact ⟨ret_int (by unfold fitsP; rw [if_neg (by omega)]; rfl), rfl⟩
      · have g1' : ¬ (1 : Int) < (most : Int) := by omega
        clear i1 i2 i3
        go_wp2_with (fail)
        go_ret
        exact ⟨ret_int (by unfold fitsP; rw [if_neg (by omega)]; rfl), rfl⟩
    · have H3 := Lib.hid h3
      clear h3
      by_cases g1 : 2 < most
      · by_cases g2 : 2 < m
        · have j1 := i2 (by have := Hm.out; omega)
          have g1' : (2 : Int) < (most : Int) := by omega
          have g2' : (p : Int) + 2 < (s.size : Int) := by have := Hm.out; omega
          clear i1 i2 i3
          by_cases k1 : b2 < 128
          · have k1' : (b2 : Int) < 128 := by omega
            go_wp2_with (fail)
            go_ret
            exact ⟨ret_int (by unfold fitsP; rw [if_pos ⟨by omega, by omega, H3.out⟩, if_neg (by unfold contN; simp; omega)]; rfl), rfl⟩
          · have k1' : ¬ (b2 : Int) < 128 := by omega
            by_cases k2 : 191 < b2
            · have k2' : 191 < (b2 : Int) := by omega
              go_wp2_with (fail)
              go_ret
              exact ⟨ret_int (by unfold fitsP; rw [if_pos ⟨by omega, by omega, H3.out⟩, if_neg (by unfold contN; simp; omega)]; rfl), rfl⟩
            · have k2' : ¬ 191 < (b2 : Int) := by omega
              go_wp2_with (fail)
              go_round
              case rel => exact .inr (.inr (.inl ⟨rfl, g1, g2, H3.out, by unfold contN; simp; omega⟩))
              case measure => simp [intOf]
        · have g1' : (2 : Int) < (most : Int) := by omega
          have g2' : ¬ (p : Int) + 2 < (s.size : Int) := by have := Hm.out; omega
          clear i1 i2 i3
          go_wp2_with (fail)
          go_ret
          exact ⟨ret_int (by unfold fitsP; rw [if_pos ⟨by omega, by omega, H3.out⟩, if_neg (by omega)]; rfl), rfl⟩
      · have g1' : ¬ (2 : Int) < (most : Int) := by omega
        clear i1 i2 i3
        go_wp2_with (fail)
        go_ret
        exact ⟨ret_int (by unfold fitsP; rw [if_pos ⟨by omega, by omega, H3.out⟩, if_neg (by omega)]; rfl), rfl⟩
    · have H3 := Lib.hid h3
      have H4 := Lib.hid h4
      clear h3 h4
      by_cases g1 : 3 < most
      · by_cases g2 : 3 < m
        · have j1 := i3 (by have := Hm.out; omega)
          have g1' : (3 : Int) < (most : Int) := by omega
          have g2' : (p : Int) + 3 < (s.size : Int) := by have := Hm.out; omega
          clear i1 i2 i3
          by_cases k1 : b3 < 128
          · have k1' : (b3 : Int) < 128 := by omega
            go_wp2_with (fail)
            go_ret
            exact ⟨ret_int (by unfold fitsP; rw [if_pos ⟨by omega, by omega, H3.out⟩, if_pos ⟨by omega, by omega, H4.out⟩, if_neg (by unfold contN; simp; omega)]; rfl), rfl⟩
          · have k1' : ¬ (b3 : Int) < 128 := by omega
            by_cases k2 : 191 < b3
            · have k2' : 191 < (b3 : Int) := by omega
              go_wp2_with (fail)
              go_ret
              exact ⟨ret_int (by unfold fitsP; rw [if_pos ⟨by omega, by omega, H3.out⟩, if_pos ⟨by omega, by omega, H4.out⟩, if_neg (by unfold contN; simp; omega)]; rfl), rfl⟩
            · have k2' : ¬ 191 < (b3 : Int) := by omega
              go_wp2_with (fail)
              go_round
              case rel => exact .inr (.inr (.inr ⟨rfl, g1, g2, H3.out, H4.out, by unfold contN; simp; omega⟩))
              case measure => simp [intOf]
        · have g1' : (3 : Int) < (most : Int) := by omega
          have g2' : ¬ (p : Int) + 3 < (s.size : Int) := by have := Hm.out; omega
          clear i1 i2 i3
          go_wp2_with (fail)
          go_ret
          exact ⟨ret_int (by unfold fitsP; rw [if_pos ⟨by omega, by omega, H3.out⟩, if_pos ⟨by omega, by omega, H4.out⟩, if_neg (by omega)]; rfl), rfl⟩
      · have g1' : ¬ (3 : Int) < (most : Int) := by omega
        clear i1 i2 i3
        go_wp2_with (fail)
        go_ret
        exact ⟨ret_int (by unfold fitsP; rw [if_pos ⟨by omega, by omega, H3.out⟩, if_pos ⟨by omega, by omega, H4.out⟩, if_neg (by omega)]; rfl), rfl⟩
    · obtain rfl : most = 4 := by omega
      have H3 := Lib.hid h3
      have H4 := Lib.hid h4
      have H5 := Lib.hid h5
      clear i1 i2 i3 h3 h4 h5
      go_wp2_with (fail)
      go_ret
      exact ⟨ret_int (by unfold fitsP; rw [if_pos ⟨by omega, by omega, H3.out⟩, if_pos ⟨by omega, by omega, H4.out⟩, if_pos ⟨by omega, by omega, H5.out⟩]; rfl), rfl⟩
end Go.Proofs.YtemnanhoiacphaaDoor

set_option linter.unusedVariables false
set_option linter.unusedSimpArgs false
namespace Go.Proofs.YtemnanhoiacphaaDoor
open Go.RowKit

set_option maxRecDepth 100000 in
set_option maxHeartbeats 4000000 in
theorem width_any (s : ByteArray) (p : Nat) (hp : p < s.size) (hs : s.size ≤ 140737488351232) (w : World) :
    Calls Tryd.prog 88 #[.string s, .int .i64 (p : Int)] w fun e w' => e = .returned (.int .i64 (widthS s p : Int)) ∧ w = w' := by
  obtain ⟨b0, hb0⟩ : ∃ b, b = byteAt s p := ⟨_, rfl⟩
  have i0 := idx_str (P := Tryd.prog) 9 Tryd.underlying9 s p (p : Int) rfl hp
  have hres : widthS s p = if b0 < 128 then 1 else if needN b0 = 0 ∨ fitsS s p (needN b0) < needN b0 then 0 else needN b0 := by unfold widthS; rw [← hb0]
  rw [← hb0] at i0
  obtain ⟨R, hR⟩ : ∃ R, R = widthS s p := ⟨_, rfl⟩
  rw [← hR]
  rw [hres] at hR
  have HR := Lib.hid hR
  clear hres hb0 hR
  have hnl := needN_le b0
  by_cases h1 : b0 < 128
  · have h1' : (b0 : Int) < 128 := by omega
    have H1 := Lib.hid h1
    clear h1
    go_enter Tryd.func88, Tryd.ntmps88
    go_wp2_with (fail)
    go_ret
    exact ⟨ret_int (by rw [HR.out, if_pos H1.out]; rfl), rfl⟩
  · have h1' : ¬ (b0 : Int) < 128 := by omega
    have H1 := Lib.hid h1
    clear h1
    go_enter Tryd.func88, Tryd.ntmps88
    go_wp2_with (fail)
    refine (need_any b0 _).mono ?_
    rintro e w2 ⟨rfl, rfl⟩
    obtain ⟨n, hn⟩ : ∃ n, n = needN b0 := ⟨_, rfl⟩
    rw [← hn] at hnl ⊢
    have Hn := Lib.hid hn
    clear hn
    by_cases h0 : n = 0
    · subst h0
      go_wp2_with (fail)
      go_ret
      exact ⟨ret_int (by rw [HR.out, if_neg H1.out, if_pos (.inl Hn.out.symm)]; rfl), rfl⟩
    · have h0' : ¬ (n : Int) = 0 := by omega
      go_wp2_with (fail)
      refine (fits_any s p n hp hnl hs _).mono ?_
      rintro e w3 ⟨rfl, rfl⟩
      obtain ⟨k, hk⟩ : ∃ k, k = fitsS s p n := ⟨_, rfl⟩
      rw [← hk]
      have Hk := Lib.hid hk
      clear hk
      by_cases hlt : k < n
      · have hlt' : (k : Int) < (n : Int) := by omega
        go_wp2_with (fail)
        go_ret
        exact ⟨ret_int (by rw [HR.out, if_neg H1.out, if_pos (.inr (by rw [← Hn.out, ← Hk.out]; exact hlt))]; rfl), rfl⟩
      · have hlt' : ¬ (k : Int) < (n : Int) := by omega
        go_wp2_with (fail)
        go_ret
        exact ⟨ret_int (by rw [HR.out, if_neg H1.out, if_neg (by rw [← Hn.out, ← Hk.out]; omega), Hn.out]), rfl⟩

set_option maxRecDepth 100000 in
set_option maxHeartbeats 4000000 in
theorem begins_any (s : ByteArray) (p : Nat) (hp : p < s.size) (hs : s.size ≤ 140737488351232) (w : World) :
    Calls Tryd.prog 90 #[.string s, .int .i64 (p : Int)] w fun e w' => e = .returned (.int .i64 (beginsS s p : Int)) ∧ w = w' := by
  obtain ⟨b0, hb0⟩ : ∃ b, b = byteAt s p := ⟨_, rfl⟩
  have i0 := idx_str (P := Tryd.prog) 9 Tryd.underlying9 s p (p : Int) rfl hp
  have hres : beginsS s p = if needN b0 = 0 then 0 else fitsS s p (needN b0 - 1) := by unfold beginsS; rw [← hb0]
  rw [← hb0] at i0
  obtain ⟨R, hR⟩ : ∃ R, R = beginsS s p := ⟨_, rfl⟩
  rw [← hR]
  rw [hres] at hR
  have HR := Lib.hid hR
  clear hres hb0 hR
  have hnl := needN_le b0
  go_enter Tryd.func90, Tryd.ntmps90
  go_wp2_with (fail)
  refine (need_any b0 _).mono ?_
  rintro e w2 ⟨rfl, rfl⟩
  obtain ⟨n, hn⟩ : ∃ n, n = needN b0 := ⟨_, rfl⟩
  rw [← hn] at hnl ⊢
  have Hn := Lib.hid hn
  clear hn
  by_cases h0 : n = 0
  · subst h0
    go_wp2_with (fail)
    go_ret
    exact ⟨ret_int (by rw [HR.out, if_pos Hn.out.symm]; rfl), rfl⟩
  · have h0' : ¬ (n : Int) = 0 := by omega
    obtain ⟨k, hk⟩ : ∃ k, k = n - 1 := ⟨_, rfl⟩
    have hk' : (n : Int) - 1 = (k : Int) := by omega
    have Hk := Lib.hid hk
    clear hk
    go_wp2_with (fail)
    refine (fits_any s p k hp (by have := Hk.out; omega) hs _).mono ?_
    rintro e w3 ⟨rfl, rfl⟩
    go_wp2_with (fail)
    go_ret
    exact ⟨ret_int (by rw [HR.out, ← Hn.out, if_neg h0, ← Hk.out]), rfl⟩

theorem and_tab (m : Nat) (k : Int) (h : ∀ x : Fin 256, bits .and .i32 ((x.val : Nat) : Int) k = ((x.val % m : Nat) : Int)) (b : Nat) (hb : b < 256) : bits .and .i32 (b : Int) k = ((b % m : Nat) : Int) := h ⟨b, hb⟩
theorem and31 (b : Nat) (hb : b < 256) : bits .and .i32 (b : Int) 31 = ((b % 32 : Nat) : Int) := and_tab 32 31 (by decide +kernel) b hb
theorem and15 (b : Nat) (hb : b < 256) : bits .and .i32 (b : Int) 15 = ((b % 16 : Nat) : Int) := and_tab 16 15 (by decide +kernel) b hb
theorem and7 (b : Nat) (hb : b < 256) : bits .and .i32 (b : Int) 7 = ((b % 8 : Nat) : Int) := and_tab 8 7 (by decide +kernel) b hb
theorem and63 (b : Nat) (hb : b < 256) : bits .and .i32 (b : Int) 63 = ((b % 64 : Nat) : Int) := and_tab 64 63 (by decide +kernel) b hb
/-- the rune of a sequence of n bytes -/
def readP (n b0 b1 b2 b3 : Nat) : Nat :=
  if n = 1 then b0 else if n = 2 then b0 % 32 * 64 + b1 % 64 else if n = 3 then b0 % 16 * 4096 + b1 % 64 * 64 + b2 % 64 else b0 % 8 * 262144 + b1 % 64 * 4096 + b2 % 64 * 64 + b3 % 64
def readS (s : ByteArray) (p n : Nat) : Nat := readP n (byteAt s p) (byteAt s (p + 1)) (byteAt s (p + 2)) (byteAt s (p + 3))

set_option maxRecDepth 100000 in
set_option maxHeartbeats 4000000 in
theorem read_any (s : ByteArray) (p n : Nat) (hn : 1 ≤ n ∧ n ≤ 4) (hp : p + n ≤ s.size) (hs : s.size ≤ 140737488351232) (w : World) :
    Calls Tryd.prog 89 #[.string s, .int .i64 (p : Int), .int .i64 (n : Int)] w fun e w' => e = .returned (.int .i32 (readS s p n : Int)) ∧ w = w' := by
  obtain ⟨b0, hb0⟩ : ∃ b, b = byteAt s p := ⟨_, rfl⟩
  obtain ⟨b1, hb1⟩ : ∃ b, b = byteAt s (p + 1) := ⟨_, rfl⟩
  obtain ⟨b2, hb2⟩ : ∃ b, b = byteAt s (p + 2) := ⟨_, rfl⟩
  obtain ⟨b3, hb3⟩ : ∃ b, b = byteAt s (p + 3) := ⟨_, rfl⟩
  have l0 : b0 < 256 := by rw [hb0]; exact byte_lt' _ _
  have l1 : b1 < 256 := by rw [hb1]; exact byte_lt' _ _
  have l2 : b2 < 256 := by rw [hb2]; exact byte_lt' _ _
  have l3 : b3 < 256 := by rw [hb3]; exact byte_lt' _ _
  have hres : readS s p n = readP n b0 b1 b2 b3 := by unfold readS; rw [← hb0, ← hb1, ← hb2, ← hb3]
  rw [hres]
  have i0 := idx_str (P := Tryd.prog) 9 Tryd.underlying9 s p (p : Int) rfl (by omega)
  rw [← hb0] at i0
  have i1 := fun h => idx_str (P := Tryd.prog) 9 Tryd.underlying9 s (p + 1) ((p : Int) + 1) (by omega) h
  have i2 := fun h => idx_str (P := Tryd.prog) 9 Tryd.underlying9 s (p + 2) ((p : Int) + 2) (by omega) h
  have i3 := fun h => idx_str (P := Tryd.prog) 9 Tryd.underlying9 s (p + 3) ((p : Int) + 3) (by omega) h
  rw [← hb1] at i1
  rw [← hb2] at i2
  rw [← hb3] at i3
  clear hres hb0 hb1 hb2 hb3
  rcases (show n = 1 ∨ n = 2 ∨ n = 3 ∨ n = 4 by omega) with rfl | rfl | rfl | rfl
  · clear i1 i2 i3
    go_enter Tryd.func89, Tryd.ntmps89
    go_wp2_with (fail)
    go_ret
    exact ⟨rfl, rfl⟩
  · have _ := trivial
    have j1 := i1 (by omega)
    have m0 := and31 b0 l0
    have m1 := and63 b1 l1
    obtain ⟨c0, hc0⟩ : ∃ c, c = b0 % 32 := ⟨_, rfl⟩
    rw [← hc0] at m0
    obtain ⟨c1, hc1⟩ : ∃ c, c = b1 % 64 := ⟨_, rfl⟩
    rw [← hc1] at m1
    have hres : readP 2 b0 b1 b2 b3 = (c0) * 64 + c1 := by unfold readP; simp only [Nat.reduceEqDiff, if_true, if_false]; omega
    rw [hres]
    have u0 : c0 < 32 := by omega
    have u1 : c1 < 64 := by omega
    clear i1 i2 i3 hres
    have Hc0 := Lib.hid hc0
    clear hc0
    have Hc1 := Lib.hid hc1
    clear hc1
    go_enter Tryd.func89, Tryd.ntmps89
    go_wp2_with (fail)
    go_loop [8, 7] (fun vi vr => (vi = .int .i64 1 ∧ vr = .int .i32 ((c0 : Nat) : Int)) ∨ (vi = .int .i64 2 ∧ vr = .int .i32 (((c0) * 64 + c1 : Nat) : Int))) (fun vi _ => 2 - (intOf vi).toNat)
    case atStart => exact .inl ⟨rfl, rfl⟩
    case round =>
      rcases hrel with ⟨rfl, rfl⟩ | ⟨rfl, rfl⟩
      · go_wp2_with (fail)
        go_round
        case rel => exact .inr (⟨rfl, by first | rfl | (apply congrArg (Value.int .i32); omega)⟩)
        case measure => simp [intOf]
      · go_wp2_with (fail)
        go_ret
        exact ⟨rfl, rfl⟩
  · have _ := trivial
    have j1 := i1 (by omega)
    have j2 := i2 (by omega)
    have m0 := and15 b0 l0
    have m1 := and63 b1 l1
    have m2 := and63 b2 l2
    obtain ⟨c0, hc0⟩ : ∃ c, c = b0 % 16 := ⟨_, rfl⟩
    rw [← hc0] at m0
    obtain ⟨c1, hc1⟩ : ∃ c, c = b1 % 64 := ⟨_, rfl⟩
    rw [← hc1] at m1
    obtain ⟨c2, hc2⟩ : ∃ c, c = b2 % 64 := ⟨_, rfl⟩
    rw [← hc2] at m2
    have hres : readP 3 b0 b1 b2 b3 = ((c0) * 64 + c1) * 64 + c2 := by unfold readP; simp only [Nat.reduceEqDiff, if_true, if_false]; omega
    rw [hres]
    have u0 : c0 < 16 := by omega
    have u1 : c1 < 64 := by omega
    have u2 : c2 < 64 := by omega
    clear i1 i2 i3 hres
    have Hc0 := Lib.hid hc0
    clear hc0
    have Hc1 := Lib.hid hc1
    clear hc1
    have Hc2 := Lib.hid hc2
    clear hc2
    go_enter Tryd.func89, Tryd.ntmps89
    go_wp2_with (fail)
    go_loop [8, 7] (fun vi vr => (vi = .int .i64 1 ∧ vr = .int .i32 ((c0 : Nat) : Int)) ∨ (vi = .int .i64 2 ∧ vr = .int .i32 (((c0) * 64 + c1 : Nat) : Int)) ∨ (vi = .int .i64 3 ∧ vr = .int .i32 ((((c0) * 64 + c1) * 64 + c2 : Nat) : Int))) (fun vi _ => 3 - (intOf vi).toNat)
    case atStart => exact .inl ⟨rfl, rfl⟩
    case round =>
      rcases hrel with ⟨rfl, rfl⟩ | ⟨rfl, rfl⟩ | ⟨rfl, rfl⟩
      · go_wp2_with (fail)
        go_round
        case rel => exact .inr (.inl ⟨rfl, by first | rfl | (apply congrArg (Value.int .i32); omega)⟩)
        case measure => simp [intOf]
      · go_wp2_with (fail)
        go_round
        case rel => exact .inr (.inr (⟨rfl, by first | rfl | (apply congrArg (Value.int .i32); omega)⟩))
        case measure => simp [intOf]
      · go_wp2_with (fail)
        go_ret
        exact ⟨rfl, rfl⟩
  · have _ := trivial
    have j1 := i1 (by omega)
    have j2 := i2 (by omega)
    have j3 := i3 (by omega)
    have m0 := and7 b0 l0
    have m1 := and63 b1 l1
    have m2 := and63 b2 l2
    have m3 := and63 b3 l3
    obtain ⟨c0, hc0⟩ : ∃ c, c = b0 % 8 := ⟨_, rfl⟩
    rw [← hc0] at m0
    obtain ⟨c1, hc1⟩ : ∃ c, c = b1 % 64 := ⟨_, rfl⟩
    rw [← hc1] at m1
    obtain ⟨c2, hc2⟩ : ∃ c, c = b2 % 64 := ⟨_, rfl⟩
    rw [← hc2] at m2
    obtain ⟨c3, hc3⟩ : ∃ c, c = b3 % 64 := ⟨_, rfl⟩
    rw [← hc3] at m3
    have hres : readP 4 b0 b1 b2 b3 = (((c0) * 64 + c1) * 64 + c2) * 64 + c3 := by unfold readP; simp only [Nat.reduceEqDiff, if_true, if_false]; omega
    rw [hres]
    have u0 : c0 < 8 := by omega
    have u1 : c1 < 64 := by omega
    have u2 : c2 < 64 := by omega
    have u3 : c3 < 64 := by omega
    clear i1 i2 i3 hres
    have Hc0 := Lib.hid hc0
    clear hc0
    have Hc1 := Lib.hid hc1
    clear hc1
    have Hc2 := Lib.hid hc2
    clear hc2
    have Hc3 := Lib.hid hc3
    clear hc3
    go_enter Tryd.func89, Tryd.ntmps89
    go_wp2_with (fail)
    go_loop [8, 7] (fun vi vr => (vi = .int .i64 1 ∧ vr = .int .i32 ((c0 : Nat) : Int)) ∨ (vi = .int .i64 2 ∧ vr = .int .i32 (((c0) * 64 + c1 : Nat) : Int)) ∨ (vi = .int .i64 3 ∧ vr = .int .i32 ((((c0) * 64 + c1) * 64 + c2 : Nat) : Int)) ∨ (vi = .int .i64 4 ∧ vr = .int .i32 (((((c0) * 64 + c1) * 64 + c2) * 64 + c3 : Nat) : Int))) (fun vi _ => 4 - (intOf vi).toNat)
    case atStart => exact .inl ⟨rfl, rfl⟩
    case round =>
      rcases hrel with ⟨rfl, rfl⟩ | ⟨rfl, rfl⟩ | ⟨rfl, rfl⟩ | ⟨rfl, rfl⟩
      · go_wp2_with (fail)
        go_round
        case rel => exact .inr (.inl ⟨rfl, by first | rfl | (apply congrArg (Value.int .i32); omega)⟩)
        case measure => simp [intOf]
      · go_wp2_with (fail)
        go_round
        case rel => exact .inr (.inr (.inl ⟨rfl, by first | rfl | (apply congrArg (Value.int .i32); omega)⟩))
        case measure => simp [intOf]
      · go_wp2_with (fail)
        go_round
        case rel => exact .inr (.inr (.inr (⟨rfl, by first | rfl | (apply congrArg (Value.int .i32); omega)⟩)))
        case measure => simp [intOf]
      · go_wp2_with (fail)
        go_ret
        exact ⟨rfl, rfl⟩
end Go.Proofs.YtemnanhoiacphaaDoor
