/- The reference's Check. -/
import Derived.Test.YtodgllnmepnpfaaDoorNew
import Derived.Deep.QuietTactic
import Derived.BigQuiet
set_option linter.unusedVariables false
set_option linter.unusedSimpArgs false
namespace Go.Proofs.YtodgllnmepnpfaaDoor
open Go.RowKit

theorem results_cell1 {fn : Func} {p : Tmp} {ty : TypeId} (h : fn.results = #[.cell p ty]) (tmps : Array Value) (P : Program) (w : World) :
    (results fn tmps).run P w = ((asAddr (tmps.getD p undef)).run P w).andThen fun a w₁ => (loadVar ty a).run P w₁ := by
  simp only [results, h]
  simp [Sem.run_bind, Result.andThen]
theorem load3r {w : World} {h0 : Nat} {v0 v1 v2 : Value} (hb : Blk w h0 75 [v0, v1, v2]) :
    (((asAddr (.pointer (some ⟨h0, 0, none⟩))).run Tryd.prog w).andThen fun a w₁ => (loadVar 75 a).run Tryd.prog w₁) = Result.ok (Value.agg #[v0, v1, v2]) w := by
  have c0 : w.cell? ⟨h0, 0, none⟩ = some v0 := hb.cell 0
  have c1 : w.cell? ⟨h0, 1, none⟩ = some v1 := hb.cell 1
  have c2 : w.cell? ⟨h0, 2, none⟩ = some v2 := hb.cell 2
  go_simp

theorem refMeet_o (n c m d : Nat) (A A' : Option Addr) (l b : List Sp) (w : World) (B : Nat) (hr : Rd w B 2 A n (ses l)) (hr' : Rd w B 2 A' m (ses b)) (hl : l.length = n) (hb : b.length = m) (hn : n ≤ 1000000) (hm : m ≤ 1000000) (hL : RightL l) (hR : RightL b) (om : Option Nat) (hom : meetFrom b 0 l = om) :
    Calls Tryd.prog 33 #[.slice A n c, .slice A' m d] w fun e w' => e = .returned (.tuple #[.int .i64 ((om.getD 0 : Nat) : Int), .bool om.isSome]) ∧ w' = w := by
  subst hom
  exact refMeet_any n c m d A A' l b w B hr hr' hl hb hn hm hL hR
def firstV : Option Nat → Value
  | none => .int .i64 (-1)
  | some r => .int .i64 (r : Int)

set_option maxRecDepth 100000 in
set_option maxHeartbeats 8000000 in
theorem refCheck_any (w : World) (A1 A2 A3 : Option Addr) (n1 n2 n3 c1 c2 c3 : Nat) (a b d : List Sp) (hn1 : a.length = n1) (hn2 : b.length = n2) (hn3 : d.length = n3)
    (s1 : n1 ≤ 17592186043904) (s2 : n2 ≤ 17592186043904) (s3 : n3 ≤ 17592186043904) (B : Nat) (r1 : Rd w B 2 A1 n1 (ses a)) (r2 : Rd w B 2 A2 n2 (ses b)) (r3 : Rd w B 2 A3 n3 (ses d)) :
    Calls Tryd.prog 23 #[.slice A1 n1 c1, .slice A2 n2 c2, .slice A3 n3 c3] w fun e w' => e = .returned (.agg #[.int .i64 ((checkW a b d).1 : Int), .int .i64 ((checkW a b d).2.1 : Int), .int .i64 ((checkW a b d).2.2 : Int)]) ∧ Only [] w w' := by
  have N1 := Lib.hid hn1
  have N2 := Lib.hid hn2
  have N3 := Lib.hid hn3
  clear hn1 hn2 hn3
  go_enter Tryd.func23, Tryd.ntmps23
  go_wp2_with (fail)
  obtain ⟨h0, hh0⟩ : ∃ h, h = w.heap.size := ⟨_, rfl⟩
  have hbR : Blk ((w.alloc (.cells #[.int .i64 0, .int .i64 0, .int .i64 0] 75)).alloc (.cells #[.slice A1 n1 c1, .slice A2 n2 c2, .slice A3 n3 c3] 30)) h0 75 [.int .i64 0, .int .i64 0, .int .i64 0] := (Blk.new' _ _ _ hh0.symm rfl : Blk (w.alloc (.cells #[.int .i64 0, .int .i64 0, .int .i64 0] 75)) h0 75 [.int .i64 0, .int .i64 0, .int .i64 0]).only ((Only.refl [] _).alloc _) (by simp)
  have hbT : Blk ((w.alloc (.cells #[.int .i64 0, .int .i64 0, .int .i64 0] 75)).alloc (.cells #[.slice A1 n1 c1, .slice A2 n2 c2, .slice A3 n3 c3] 30)) (h0 + 1) 30 [.slice A1 n1 c1, .slice A2 n2 c2, .slice A3 n3 c3] := Blk.new' _ _ _ (by simp; omega) rfl
  have hO4 := ((Only.refl [] w).alloc (.cells #[.int .i64 0, .int .i64 0, .int .i64 0] 75)).alloc (.cells #[.slice A1 n1 c1, .slice A2 n2 c2, .slice A3 n3 c3] 30)
  rw [← hh0]
  obtain ⟨g, hg⟩ : ∃ g, g = h0 + 1 := ⟨_, rfl⟩
  rw [← hg] at hbT ⊢
  have hgR : w.heap.size ≤ h0 := Nat.le_of_eq hh0.symm
  have Hh0 := Lib.hid hh0
  have Hg := Lib.hid hg
  clear hh0 hg
  refine name_it (p := fun y => Code.wp _ _ _ _ y) ?_
  intro w4 H4
  rw [← H4.out] at hbT hbR hO4
  replace r1 := r1.only hO4 (by simp)
  replace r2 := r2.only hO4 (by simp)
  replace r3 := r3.only hO4 (by simp)
  clear H4
  have t0 : w4.cell? ⟨g, 0, none⟩ = some (.slice A1 n1 c1) := hbT.cell 0
  have t1 : w4.cell? ⟨g, 1, none⟩ = some (.slice A2 n2 c2) := hbT.cell 1
  have t2 : w4.cell? ⟨g, 2, none⟩ = some (.slice A3 n3 c3) := hbT.cell 2
  go_loop [8] (fun vi => (vi = .int .i64 0) ∨ (vi = .int .i64 1 ∧ longW 0 a = none) ∨ (vi = .int .i64 2 ∧ longW 0 a = none ∧ longW 1 b = none) ∨ (vi = .int .i64 3 ∧ longW 0 a = none ∧ longW 1 b = none ∧ longW 2 d = none)) (fun vi => 3 - (intOf vi).toNat)
  case atStart => exact .inl rfl
  case round =>
    rcases hrel with rfl | ⟨rfl, g1⟩ | ⟨rfl, g1, g2⟩ | ⟨rfl, g1, g2, g3⟩
    · have _ := trivial
      by_cases hl : 512 < n1
      · have hs : longW 0 a = some (4, 1, 512) := by unfold longW; rw [if_pos (by rw [N1.out]; exact hl)]
        have hck : checkW a b d = (4, 1, 512) := firstSome 0 (congrArg some hs) (fun t ht => absurd ht (by omega))
        have Hck := Lib.hid hck
        have hbE := hbR
        have e0 := hbE.cell 0
        have e1 := hbE.cell 1
        have e2 := hbE.cell 2
        have z0 := hbE.frozen 0
        have z1 := hbE.frozen 1
        have z2 := hbE.frozen 2
        clear hck hs
        go_wp2_with (fail)
        (try simp only [Exit.inBlock, Exit.then])
        refine bodyPost_ret (v := .agg #[.int .i64 ((4 : Nat) : Int), .int .i64 ((1 : Nat) : Int), .int .i64 ((512 : Nat) : Int)]) ?_ rfl ⟨by rw [Hck.out], ((((hO4).setCell (.inr hgR) _).setCell (.inr hgR) _).setCell (.inr hgR) _)⟩
        rw [results_cell1 rfl]
        exact load3r (((hbE.set 0 _).set 1 _).set 2 _)
      · have G1 : RowKit.Hid (longW 0 a = none) := Lib.hid (by unfold longW; rw [if_neg (by rw [N1.out]; exact hl)])
        go_wp2_with (fail)
        go_round
        case rel => exact .inr (.inl ⟨rfl, G1.out⟩)
        case measure => simp [intOf]
    · have _ := trivial
      have G1 := Lib.hid g1
      clear g1
      by_cases hl : 512 < n2
      · have hs : longW 1 b = some (4, 2, 512) := by unfold longW; rw [if_pos (by rw [N2.out]; exact hl)]
        have hck : checkW a b d = (4, 2, 512) := firstSome 1 (congrArg some hs) (fun t ht => match t, ht with | 0, _ => congrArg some G1.out | t + 1, ht => absurd ht (by omega))
        have Hck := Lib.hid hck
        have hbE := hbR
        have e0 := hbE.cell 0
        have e1 := hbE.cell 1
        have e2 := hbE.cell 2
        have z0 := hbE.frozen 0
        have z1 := hbE.frozen 1
        have z2 := hbE.frozen 2
        clear hck hs
        go_wp2_with (fail)
        (try simp only [Exit.inBlock, Exit.then])
        refine bodyPost_ret (v := .agg #[.int .i64 ((4 : Nat) : Int), .int .i64 ((2 : Nat) : Int), .int .i64 ((512 : Nat) : Int)]) ?_ rfl ⟨by rw [Hck.out], ((((hO4).setCell (.inr hgR) _).setCell (.inr hgR) _).setCell (.inr hgR) _)⟩
        rw [results_cell1 rfl]
        exact load3r (((hbE.set 0 _).set 1 _).set 2 _)
      · have G2 : RowKit.Hid (longW 1 b = none) := Lib.hid (by unfold longW; rw [if_neg (by rw [N2.out]; exact hl)])
        go_wp2_with (fail)
        go_round
        case rel => exact .inr (.inr (.inl ⟨rfl, G1.out, G2.out⟩))
        case measure => simp [intOf]
    · have _ := trivial
      have G1 := Lib.hid g1
      have G2 := Lib.hid g2
      clear g1 g2
      by_cases hl : 512 < n3
      · have hs : longW 2 d = some (4, 3, 512) := by unfold longW; rw [if_pos (by rw [N3.out]; exact hl)]
        have hck : checkW a b d = (4, 3, 512) := firstSome 2 (congrArg some hs) (fun t ht => match t, ht with | 0, _ => congrArg some G1.out | 1, _ => congrArg some G2.out | t + 2, ht => absurd ht (by omega))
        have Hck := Lib.hid hck
        have hbE := hbR
        have e0 := hbE.cell 0
        have e1 := hbE.cell 1
        have e2 := hbE.cell 2
        have z0 := hbE.frozen 0
        have z1 := hbE.frozen 1
        have z2 := hbE.frozen 2
        clear hck hs
        go_wp2_with (fail)
        (try simp only [Exit.inBlock, Exit.then])
        refine bodyPost_ret (v := .agg #[.int .i64 ((4 : Nat) : Int), .int .i64 ((3 : Nat) : Int), .int .i64 ((512 : Nat) : Int)]) ?_ rfl ⟨by rw [Hck.out], ((((hO4).setCell (.inr hgR) _).setCell (.inr hgR) _).setCell (.inr hgR) _)⟩
        rw [results_cell1 rfl]
        exact load3r (((hbE.set 0 _).set 1 _).set 2 _)
      · have G3 : RowKit.Hid (longW 2 d = none) := Lib.hid (by unfold longW; rw [if_neg (by rw [N3.out]; exact hl)])
        go_wp2_with (fail)
        go_round
        case rel => exact .inr (.inr (.inr (⟨rfl, G1.out, G2.out, G3.out⟩)))
        case measure => simp [intOf]
    · have m1 : n1 ≤ 512 := by unfold longW at g1; rw [N1.out] at g1; by_cases h : 512 < n1 <;> simp [h] at g1; omega
      have m2 : n2 ≤ 512 := by unfold longW at g2; rw [N2.out] at g2; by_cases h : 512 < n2 <;> simp [h] at g2; omega
      have m3 : n3 ≤ 512 := by unfold longW at g3; rw [N3.out] at g3; by_cases h : 512 < n3 <;> simp [h] at g3; omega
      have G1 := Lib.hid g1
      have G2 := Lib.hid g2
      have G3 := Lib.hid g3
      clear g1 g2 g3
      go_wp2_with (fail)
      go_loopw [9] (fun vi wr => Only [] w4 wr ∧ ((vi = .int .i64 0) ∨ (vi = .int .i64 1 ∧ rightW 0 a = none) ∨ (vi = .int .i64 2 ∧ rightW 0 a = none ∧ rightW 1 b = none) ∨ (vi = .int .i64 3 ∧ rightW 0 a = none ∧ rightW 1 b = none ∧ rightW 2 d = none))) (fun vi _ => 3 - (intOf vi).toNat)
      case atStart => exact ⟨.refl _ _, .inl rfl⟩
      case round =>
        obtain ⟨hw, hrel⟩ := hrel
        clear t0 t1 t2
        rcases hrel with rfl | ⟨rfl, g4⟩ | ⟨rfl, g4, g5⟩ | ⟨rfl, g4, g5, g6⟩
        · have _ := trivial
          have t0 : wr.cell? ⟨g, 0, none⟩ = some (.slice A1 n1 c1) := hw.cellv (hbT.cell 0) (by simp)
          go_wp2_with (fail)
          refine (refRight_any n1 c1 A1 a wr B (r1.only hw (by simp)) N1.out (by omega)).mono ?_
          rintro e w5 ⟨rfl, hk5⟩
          have hO5 : Only [] w4 w5 := by obtain ⟨kk, rfl⟩ := hk5; exact hw.drewN kk
          clear hk5
          obtain ⟨⟨rx, ry⟩, hrr⟩ : ∃ rr, rr = rightFrom none 0 a := ⟨_, rfl⟩
          rw [← hrr]
          have hry := rightFrom_why none 0 a
          rw [← hrr] at hry
          simp only at hry ⊢
          have hs0 : ry ≠ 0 → rightW 0 a = some (ry, 1, rx) := fun h => by unfold rightW; rw [← hrr, if_neg h]
          have hs1 : ry = 0 → rightW 0 a = none := fun h => by unfold rightW; rw [← hrr, if_pos h]
          have Hs0 := Lib.hid hs0
          have Hs1 := Lib.hid hs1
          clear hrr hs0 hs1 t0
          by_cases hz : ry = 0
          · subst hz
            go_wp2_with (fail)
            go_roundw
            case rel => exact ⟨hO5, .inr (.inl ⟨rfl, Hs1.out rfl⟩)⟩
            case measure => simp [intOf]
          · have hs := Hs0.out hz
            have hz' : ¬ (ry : Int) = 0 := by omega
            have hck : checkW a b d = (ry, 1, rx) := firstSome 3 (congrArg some hs) (fun t ht => match t, ht with | 0, _ => congrArg some G1.out | 1, _ => congrArg some G2.out | 2, _ => congrArg some G3.out | t + 3, ht => absurd ht (by omega))
            have Hck := Lib.hid hck
            have hbE := hbR.only hO5 (by simp)
            have e0 := hbE.cell 0
            have e1 := hbE.cell 1
            have e2 := hbE.cell 2
            have z0 := hbE.frozen 0
            have z1 := hbE.frozen 1
            have z2 := hbE.frozen 2
            clear hck hs hry
            go_wp2_with (fail)
            (try simp only [Exit.inBlock, Exit.then])
            refine bodyPost_ret (v := .agg #[.int .i64 ((ry : Nat) : Int), .int .i64 ((1 : Nat) : Int), .int .i64 ((rx : Nat) : Int)]) ?_ rfl ⟨by rw [Hck.out], ((((hO4.trans hO5).setCell (.inr hgR) _).setCell (.inr hgR) _).setCell (.inr hgR) _)⟩
            rw [results_cell1 rfl]
            exact load3r (((hbE.set 0 _).set 1 _).set 2 _)
        · have _ := trivial
          have G4 := Lib.hid g4
          clear g4
          have t1 : wr.cell? ⟨g, 1, none⟩ = some (.slice A2 n2 c2) := hw.cellv (hbT.cell 1) (by simp)
          go_wp2_with (fail)
          refine (refRight_any n2 c2 A2 b wr B (r2.only hw (by simp)) N2.out (by omega)).mono ?_
          rintro e w5 ⟨rfl, hk5⟩
          have hO5 : Only [] w4 w5 := by obtain ⟨kk, rfl⟩ := hk5; exact hw.drewN kk
          clear hk5
          obtain ⟨⟨rx, ry⟩, hrr⟩ : ∃ rr, rr = rightFrom none 0 b := ⟨_, rfl⟩
          rw [← hrr]
          have hry := rightFrom_why none 0 b
          rw [← hrr] at hry
          simp only at hry ⊢
          have hs0 : ry ≠ 0 → rightW 1 b = some (ry, 2, rx) := fun h => by unfold rightW; rw [← hrr, if_neg h]
          have hs1 : ry = 0 → rightW 1 b = none := fun h => by unfold rightW; rw [← hrr, if_pos h]
          have Hs0 := Lib.hid hs0
          have Hs1 := Lib.hid hs1
          clear hrr hs0 hs1 t1
          by_cases hz : ry = 0
          · subst hz
            go_wp2_with (fail)
            go_roundw
            case rel => exact ⟨hO5, .inr (.inr (.inl ⟨rfl, G4.out, Hs1.out rfl⟩))⟩
            case measure => simp [intOf]
          · have hs := Hs0.out hz
            have hz' : ¬ (ry : Int) = 0 := by omega
            have hck : checkW a b d = (ry, 2, rx) := firstSome 4 (congrArg some hs) (fun t ht => match t, ht with | 0, _ => congrArg some G1.out | 1, _ => congrArg some G2.out | 2, _ => congrArg some G3.out | 3, _ => congrArg some G4.out | t + 4, ht => absurd ht (by omega))
            have Hck := Lib.hid hck
            have hbE := hbR.only hO5 (by simp)
            have e0 := hbE.cell 0
            have e1 := hbE.cell 1
            have e2 := hbE.cell 2
            have z0 := hbE.frozen 0
            have z1 := hbE.frozen 1
            have z2 := hbE.frozen 2
            clear hck hs hry
            go_wp2_with (fail)
            (try simp only [Exit.inBlock, Exit.then])
            refine bodyPost_ret (v := .agg #[.int .i64 ((ry : Nat) : Int), .int .i64 ((2 : Nat) : Int), .int .i64 ((rx : Nat) : Int)]) ?_ rfl ⟨by rw [Hck.out], ((((hO4.trans hO5).setCell (.inr hgR) _).setCell (.inr hgR) _).setCell (.inr hgR) _)⟩
            rw [results_cell1 rfl]
            exact load3r (((hbE.set 0 _).set 1 _).set 2 _)
        · have _ := trivial
          have G4 := Lib.hid g4
          have G5 := Lib.hid g5
          clear g4 g5
          have t2 : wr.cell? ⟨g, 2, none⟩ = some (.slice A3 n3 c3) := hw.cellv (hbT.cell 2) (by simp)
          go_wp2_with (fail)
          refine (refRight_any n3 c3 A3 d wr B (r3.only hw (by simp)) N3.out (by omega)).mono ?_
          rintro e w5 ⟨rfl, hk5⟩
          have hO5 : Only [] w4 w5 := by obtain ⟨kk, rfl⟩ := hk5; exact hw.drewN kk
          clear hk5
          obtain ⟨⟨rx, ry⟩, hrr⟩ : ∃ rr, rr = rightFrom none 0 d := ⟨_, rfl⟩
          rw [← hrr]
          have hry := rightFrom_why none 0 d
          rw [← hrr] at hry
          simp only at hry ⊢
          have hs0 : ry ≠ 0 → rightW 2 d = some (ry, 3, rx) := fun h => by unfold rightW; rw [← hrr, if_neg h]
          have hs1 : ry = 0 → rightW 2 d = none := fun h => by unfold rightW; rw [← hrr, if_pos h]
          have Hs0 := Lib.hid hs0
          have Hs1 := Lib.hid hs1
          clear hrr hs0 hs1 t2
          by_cases hz : ry = 0
          · subst hz
            go_wp2_with (fail)
            go_roundw
            case rel => exact ⟨hO5, .inr (.inr (.inr (⟨rfl, G4.out, G5.out, Hs1.out rfl⟩)))⟩
            case measure => simp [intOf]
          · have hs := Hs0.out hz
            have hz' : ¬ (ry : Int) = 0 := by omega
            have hck : checkW a b d = (ry, 3, rx) := firstSome 5 (congrArg some hs) (fun t ht => match t, ht with | 0, _ => congrArg some G1.out | 1, _ => congrArg some G2.out | 2, _ => congrArg some G3.out | 3, _ => congrArg some G4.out | 4, _ => congrArg some G5.out | t + 5, ht => absurd ht (by omega))
            have Hck := Lib.hid hck
            have hbE := hbR.only hO5 (by simp)
            have e0 := hbE.cell 0
            have e1 := hbE.cell 1
            have e2 := hbE.cell 2
            have z0 := hbE.frozen 0
            have z1 := hbE.frozen 1
            have z2 := hbE.frozen 2
            clear hck hs hry
            go_wp2_with (fail)
            (try simp only [Exit.inBlock, Exit.then])
            refine bodyPost_ret (v := .agg #[.int .i64 ((ry : Nat) : Int), .int .i64 ((3 : Nat) : Int), .int .i64 ((rx : Nat) : Int)]) ?_ rfl ⟨by rw [Hck.out], ((((hO4.trans hO5).setCell (.inr hgR) _).setCell (.inr hgR) _).setCell (.inr hgR) _)⟩
            rw [results_cell1 rfl]
            exact load3r (((hbE.set 0 _).set 1 _).set 2 _)
        · have G4 := Lib.hid g4
          have G5 := Lib.hid g5
          have G6 := Lib.hid g6
          clear g4 g5 g6
          have R1 : RightL a := RightL.of (by have h := G4.out; unfold rightW at h; split at h; assumption; cases h)
          have R2 : RightL b := RightL.of (by have h := G5.out; unfold rightW at h; split at h; assumption; cases h)
          have R3 : RightL d := RightL.of (by have h := G6.out; unfold rightW at h; split at h; assumption; cases h)
          go_wp2_with (fail)
          go_loopw [12] (fun vi wy => Only [] w4 wy ∧ ((vi = .int .i64 1) ∨ (vi = .int .i64 2 ∧ over1 a b = none) ∨ (vi = .int .i64 3 ∧ over1 a b = none ∧ over2 a b d = none))) (fun vi _ => 3 - (intOf vi).toNat)
          case atStart => exact ⟨hw, .inl rfl⟩
          case round =>
            clear hw
            obtain ⟨hw, hrel⟩ := hrel
            rcases hrel with rfl | ⟨rfl, g7⟩ | ⟨rfl, g7, g8⟩
            · go_wp2_with (fail)
              go_loopw [14, 13] (fun vj vr wx => Only [] w4 wx ∧ ∃ o : Option Nat, vr = firstV o ∧ ((vj = .int .i64 0 ∧ o = none) ∨ (vj = .int .i64 1 ∧ o = meetFrom a 0 b))) (fun vj _ _ => 1 - (intOf vj).toNat)
              case atStart => exact ⟨hw, none, rfl, .inl ⟨rfl, rfl⟩⟩
              case round =>
                clear hw
                obtain ⟨hw, o, rfl, hrel⟩ := hrel
                rcases hrel with ⟨rfl, ho⟩ | ⟨rfl, ho⟩
                · have Ho := Lib.hid ho
                  clear ho
                  have t1 : wr.cell? ⟨g, 1, none⟩ = some (.slice A2 n2 c2) := hw.cellv (hbT.cell 1) (by simp)
                  have t0 : wr.cell? ⟨g, 0, none⟩ = some (.slice A1 n1 c1) := hw.cellv (hbT.cell 0) (by simp)
                  obtain ⟨om, hom⟩ : ∃ om, meetFrom a 0 b = om := ⟨_, rfl⟩
                  have Hx := Lib.hid hom
                  clear hom
                  go_upto_region 20 with (fail)
                  go_quiet ((go_at_call 33; exact Calls.quiet_of_same (refMeet_o n2 c2 n1 c1 A2 A1 b a (wr.drewN _) B ((r2.only hw (by simp)).drewN _) ((r1.only hw (by simp)).drewN _) N2.out N1.out (by omega) (by omega) R2 R1 om Hx.out)))
                  cases om with
                  | none =>
                    obtain rfl : o = none := Ho.out
                    simp only [firstV, Option.getD_none, Option.getD_some, Option.isSome]
                    go_wp2_with (fail)
                    go_roundw
                    case rel => exact ⟨hw.drewN _, none, rfl, .inr ⟨rfl, Hx.out.symm⟩⟩
                    case measure => simp [intOf]
                  | some r =>
                    obtain rfl : o = none := Ho.out
                    simp only [firstV, Option.getD_none, Option.getD_some, Option.isSome]
                    go_wp2_with (fail)
                    go_roundw
                    case rel => exact ⟨hw.drewN _, some r, rfl, .inr ⟨rfl, Hx.out.symm⟩⟩
                    case measure => simp [intOf]
                · have hov : over1 a b = o.map fun r => (16, 2, r) := by rw [ho]; rfl
                  have Hov := Lib.hid hov
                  clear ho hov
                  cases o with
                  | none =>
                    simp only [firstV]
                    go_wp2_with (fail)
                    go_roundw
                    case rel => exact ⟨hw, .inr (.inl ⟨rfl, Hov.out⟩)⟩
                    case measure => simp [intOf]
                  | some r =>
                    simp only [firstV]
                    have hs : over1 a b = some (16, 2, r) := Hov.out
                    have hck : checkW a b d = (16, 2, r) := firstSome 6 (congrArg some hs) (fun t ht => match t, ht with | 0, _ => congrArg some G1.out | 1, _ => congrArg some G2.out | 2, _ => congrArg some G3.out | 3, _ => congrArg some G4.out | 4, _ => congrArg some G5.out | 5, _ => congrArg some G6.out | t + 6, ht => absurd ht (by omega))
                    have Hck := Lib.hid hck
                    have hbE := hbR.only hw (by simp)
                    have e0 := hbE.cell 0
                    have e1 := hbE.cell 1
                    have e2 := hbE.cell 2
                    have z0 := hbE.frozen 0
                    have z1 := hbE.frozen 1
                    have z2 := hbE.frozen 2
                    clear hck hs
                    go_wp2_with (fail)
                    (try simp only [Exit.inBlock, Exit.then])
                    refine bodyPost_ret (v := .agg #[.int .i64 ((16 : Nat) : Int), .int .i64 ((2 : Nat) : Int), .int .i64 ((r : Nat) : Int)]) ?_ rfl ⟨by rw [Hck.out], ((((hO4.trans hw).setCell (.inr hgR) _).setCell (.inr hgR) _).setCell (.inr hgR) _)⟩
                    rw [results_cell1 rfl]
                    exact load3r (((hbE.set 0 _).set 1 _).set 2 _)
            · have G7 := Lib.hid g7
              clear g7
              go_wp2_with (fail)
              go_loopw [14, 13] (fun vj vr wx => Only [] w4 wx ∧ ∃ o : Option Nat, vr = firstV o ∧ ((vj = .int .i64 0 ∧ o = none) ∨ (vj = .int .i64 1 ∧ o = meetFrom a 0 d) ∨ (vj = .int .i64 2 ∧ o = least2 (meetFrom a 0 d) (meetFrom b 0 d)))) (fun vj _ _ => 2 - (intOf vj).toNat)
              case atStart => exact ⟨hw, none, rfl, .inl ⟨rfl, rfl⟩⟩
              case round =>
                clear hw
                obtain ⟨hw, o, rfl, hrel⟩ := hrel
                rcases hrel with ⟨rfl, ho⟩ | ⟨rfl, ho⟩ | ⟨rfl, ho⟩
                · have Ho := Lib.hid ho
                  clear ho
                  have t2 : wr.cell? ⟨g, 2, none⟩ = some (.slice A3 n3 c3) := hw.cellv (hbT.cell 2) (by simp)
                  have t0 : wr.cell? ⟨g, 0, none⟩ = some (.slice A1 n1 c1) := hw.cellv (hbT.cell 0) (by simp)
                  obtain ⟨om, hom⟩ : ∃ om, meetFrom a 0 d = om := ⟨_, rfl⟩
                  have Hx := Lib.hid hom
                  clear hom
                  go_upto_region 20 with (fail)
                  go_quiet ((go_at_call 33; exact Calls.quiet_of_same (refMeet_o n3 c3 n1 c1 A3 A1 d a (wr.drewN _) B ((r3.only hw (by simp)).drewN _) ((r1.only hw (by simp)).drewN _) N3.out N1.out (by omega) (by omega) R3 R1 om Hx.out)))
                  cases om with
                  | none =>
                    obtain rfl : o = none := Ho.out
                    simp only [firstV, Option.getD_none, Option.getD_some, Option.isSome]
                    go_wp2_with (fail)
                    go_roundw
                    case rel => exact ⟨hw.drewN _, none, rfl, .inr (.inl ⟨rfl, Hx.out.symm⟩)⟩
                    case measure => simp [intOf]
                  | some r =>
                    obtain rfl : o = none := Ho.out
                    simp only [firstV, Option.getD_none, Option.getD_some, Option.isSome]
                    go_wp2_with (fail)
                    go_roundw
                    case rel => exact ⟨hw.drewN _, some r, rfl, .inr (.inl ⟨rfl, Hx.out.symm⟩)⟩
                    case measure => simp [intOf]
                · have Ho := Lib.hid ho
                  clear ho
                  have t2 : wr.cell? ⟨g, 2, none⟩ = some (.slice A3 n3 c3) := hw.cellv (hbT.cell 2) (by simp)
                  have t1 : wr.cell? ⟨g, 1, none⟩ = some (.slice A2 n2 c2) := hw.cellv (hbT.cell 1) (by simp)
                  obtain ⟨om, hom⟩ : ∃ om, meetFrom b 0 d = om := ⟨_, rfl⟩
                  have Hx := Lib.hid hom
                  clear hom
                  go_upto_region 20 with (fail)
                  go_quiet ((go_at_call 33; exact Calls.quiet_of_same (refMeet_o n3 c3 n2 c2 A3 A2 d b (wr.drewN _) B ((r3.only hw (by simp)).drewN _) ((r2.only hw (by simp)).drewN _) N3.out N2.out (by omega) (by omega) R3 R2 om Hx.out)))
                  cases om with
                  | none =>
                    cases o with
                    | none =>
                      simp only [firstV, Option.getD_none, Option.getD_some, Option.isSome]
                      go_wp2_with (fail)
                      go_roundw
                      case rel => exact ⟨hw.drewN _, none, rfl, .inr (.inr ⟨rfl, by rw [← Ho.out, Hx.out]; rfl⟩)⟩
                      case measure => simp [intOf]
                    | some x =>
                      simp only [firstV, Option.getD_none, Option.getD_some, Option.isSome]
                      go_wp2_with (fail)
                      go_roundw
                      case rel => exact ⟨hw.drewN _, some x, rfl, .inr (.inr ⟨rfl, by rw [← Ho.out, Hx.out]; rfl⟩)⟩
                      case measure => simp [intOf]
                  | some r =>
                    cases o with
                    | none =>
                      simp only [firstV, Option.getD_none, Option.getD_some, Option.isSome]
                      go_wp2_with (fail)
                      go_roundw
                      case rel => exact ⟨hw.drewN _, some r, rfl, .inr (.inr ⟨rfl, by rw [← Ho.out, Hx.out]; rfl⟩)⟩
                      case measure => simp [intOf]
                    | some x =>
                      simp only [firstV, Option.getD_none, Option.getD_some, Option.isSome]
                      by_cases hrx : r < x
                      · go_wp2_with (fail)
                        go_roundw
                        case rel => exact ⟨hw.drewN _, some (min x r), by simp only [firstV]; apply congrArg (Value.int .i64); omega, .inr (.inr ⟨rfl, by rw [← Ho.out, Hx.out]; rfl⟩)⟩
                        case measure => simp [intOf]
                      · go_wp2_with (fail)
                        go_roundw
                        case rel => exact ⟨hw.drewN _, some (min x r), by simp only [firstV]; apply congrArg (Value.int .i64); omega, .inr (.inr ⟨rfl, by rw [← Ho.out, Hx.out]; rfl⟩)⟩
                        case measure => simp [intOf]
                · have hov : over2 a b d = o.map fun r => (16, 3, r) := by rw [ho]; rfl
                  have Hov := Lib.hid hov
                  clear ho hov
                  cases o with
                  | none =>
                    simp only [firstV]
                    go_wp2_with (fail)
                    go_roundw
                    case rel => exact ⟨hw, .inr (.inr ⟨rfl, G7.out, Hov.out⟩)⟩
                    case measure => simp [intOf]
                  | some r =>
                    simp only [firstV]
                    have hs : over2 a b d = some (16, 3, r) := Hov.out
                    have hck : checkW a b d = (16, 3, r) := firstSome 7 (congrArg some hs) (fun t ht => match t, ht with | 0, _ => congrArg some G1.out | 1, _ => congrArg some G2.out | 2, _ => congrArg some G3.out | 3, _ => congrArg some G4.out | 4, _ => congrArg some G5.out | 5, _ => congrArg some G6.out | 6, _ => congrArg some G7.out | t + 7, ht => absurd ht (by omega))
                    have Hck := Lib.hid hck
                    have hbE := hbR.only hw (by simp)
                    have e0 := hbE.cell 0
                    have e1 := hbE.cell 1
                    have e2 := hbE.cell 2
                    have z0 := hbE.frozen 0
                    have z1 := hbE.frozen 1
                    have z2 := hbE.frozen 2
                    clear hck hs
                    go_wp2_with (fail)
                    (try simp only [Exit.inBlock, Exit.then])
                    refine bodyPost_ret (v := .agg #[.int .i64 ((16 : Nat) : Int), .int .i64 ((3 : Nat) : Int), .int .i64 ((r : Nat) : Int)]) ?_ rfl ⟨by rw [Hck.out], ((((hO4.trans hw).setCell (.inr hgR) _).setCell (.inr hgR) _).setCell (.inr hgR) _)⟩
                    rw [results_cell1 rfl]
                    exact load3r (((hbE.set 0 _).set 1 _).set 2 _)
            · have G7 := Lib.hid g7
              have G8 := Lib.hid g8
              clear g7 g8
              go_wp2_with (fail)
              refine (refIn_any n3 c3 A3 d 32 wr B (r3.only hw (by simp)) N3.out (by omega)).mono ?_
              rintro e wr ⟨rfl, rfl⟩
              obtain ⟨x0, hx0⟩ : ∃ x, x = inSpans d 32 := ⟨_, rfl⟩
              rw [← hx0]
              have F0 := Lib.hid hx0
              clear hx0
              cases x0 with
              | false =>
                have hs : blankW a b d = some (20, 3, 0) := by unfold blankW; rw [if_neg]; intro h; have hf := F0.out; simp_all
                have hck : checkW a b d = (20, 3, 0) := firstSome 8 (congrArg some hs) (fun t ht => match t, ht with | 0, _ => congrArg some G1.out | 1, _ => congrArg some G2.out | 2, _ => congrArg some G3.out | 3, _ => congrArg some G4.out | 4, _ => congrArg some G5.out | 5, _ => congrArg some G6.out | 6, _ => congrArg some G7.out | 7, _ => congrArg some G8.out | t + 8, ht => absurd ht (by omega))
                have Hck := Lib.hid hck
                have hbE := hbR.only hw (by simp)
                have e0 := hbE.cell 0
                have e1 := hbE.cell 1
                have e2 := hbE.cell 2
                have z0 := hbE.frozen 0
                have z1 := hbE.frozen 1
                have z2 := hbE.frozen 2
                clear hck hs
                go_wp2_with (fail)
                (try simp only [Exit.inBlock, Exit.then])
                refine bodyPost_ret (v := .agg #[.int .i64 ((20 : Nat) : Int), .int .i64 ((3 : Nat) : Int), .int .i64 ((0 : Nat) : Int)]) ?_ rfl ⟨by rw [Hck.out], ((((hO4.trans hw).setCell (.inr hgR) _).setCell (.inr hgR) _).setCell (.inr hgR) _)⟩
                rw [results_cell1 rfl]
                exact load3r (((hbE.set 0 _).set 1 _).set 2 _)
              | true =>
                go_wp2_with (fail)
                refine (refIn_any n1 c1 A1 a 39 wr B (r1.only hw (by simp)) N1.out (by omega)).mono ?_
                rintro e wr ⟨rfl, rfl⟩
                obtain ⟨x1, hx1⟩ : ∃ x, x = inSpans a 39 := ⟨_, rfl⟩
                rw [← hx1]
                have F1 := Lib.hid hx1
                clear hx1
                cases x1 with
                | true =>
                  have hs : blankW a b d = some (20, 3, 0) := by unfold blankW; rw [if_neg]; intro h; have hf := F1.out; simp_all
                  have hck : checkW a b d = (20, 3, 0) := firstSome 8 (congrArg some hs) (fun t ht => match t, ht with | 0, _ => congrArg some G1.out | 1, _ => congrArg some G2.out | 2, _ => congrArg some G3.out | 3, _ => congrArg some G4.out | 4, _ => congrArg some G5.out | 5, _ => congrArg some G6.out | 6, _ => congrArg some G7.out | 7, _ => congrArg some G8.out | t + 8, ht => absurd ht (by omega))
                  have Hck := Lib.hid hck
                  have hbE := hbR.only hw (by simp)
                  have e0 := hbE.cell 0
                  have e1 := hbE.cell 1
                  have e2 := hbE.cell 2
                  have z0 := hbE.frozen 0
                  have z1 := hbE.frozen 1
                  have z2 := hbE.frozen 2
                  clear hck hs
                  go_wp2_with (fail)
                  (try simp only [Exit.inBlock, Exit.then])
                  refine bodyPost_ret (v := .agg #[.int .i64 ((20 : Nat) : Int), .int .i64 ((3 : Nat) : Int), .int .i64 ((0 : Nat) : Int)]) ?_ rfl ⟨by rw [Hck.out], ((((hO4.trans hw).setCell (.inr hgR) _).setCell (.inr hgR) _).setCell (.inr hgR) _)⟩
                  rw [results_cell1 rfl]
                  exact load3r (((hbE.set 0 _).set 1 _).set 2 _)
                | false =>
                  go_wp2_with (fail)
                  refine (refIn_any n2 c2 A2 b 39 wr B (r2.only hw (by simp)) N2.out (by omega)).mono ?_
                  rintro e wr ⟨rfl, rfl⟩
                  obtain ⟨x2, hx2⟩ : ∃ x, x = inSpans b 39 := ⟨_, rfl⟩
                  rw [← hx2]
                  have F2 := Lib.hid hx2
                  clear hx2
                  cases x2 with
                  | true =>
                    have hs : blankW a b d = some (20, 3, 0) := by unfold blankW; rw [if_neg]; intro h; have hf := F2.out; simp_all
                    have hck : checkW a b d = (20, 3, 0) := firstSome 8 (congrArg some hs) (fun t ht => match t, ht with | 0, _ => congrArg some G1.out | 1, _ => congrArg some G2.out | 2, _ => congrArg some G3.out | 3, _ => congrArg some G4.out | 4, _ => congrArg some G5.out | 5, _ => congrArg some G6.out | 6, _ => congrArg some G7.out | 7, _ => congrArg some G8.out | t + 8, ht => absurd ht (by omega))
                    have Hck := Lib.hid hck
                    have hbE := hbR.only hw (by simp)
                    have e0 := hbE.cell 0
                    have e1 := hbE.cell 1
                    have e2 := hbE.cell 2
                    have z0 := hbE.frozen 0
                    have z1 := hbE.frozen 1
                    have z2 := hbE.frozen 2
                    clear hck hs
                    go_wp2_with (fail)
                    (try simp only [Exit.inBlock, Exit.then])
                    refine bodyPost_ret (v := .agg #[.int .i64 ((20 : Nat) : Int), .int .i64 ((3 : Nat) : Int), .int .i64 ((0 : Nat) : Int)]) ?_ rfl ⟨by rw [Hck.out], ((((hO4.trans hw).setCell (.inr hgR) _).setCell (.inr hgR) _).setCell (.inr hgR) _)⟩
                    rw [results_cell1 rfl]
                    exact load3r (((hbE.set 0 _).set 1 _).set 2 _)
                  | false =>
                    go_wp2_with (fail)
                    refine (refIn_any n3 c3 A3 d 39 wr B (r3.only hw (by simp)) N3.out (by omega)).mono ?_
                    rintro e wr ⟨rfl, rfl⟩
                    obtain ⟨x3, hx3⟩ : ∃ x, x = inSpans d 39 := ⟨_, rfl⟩
                    rw [← hx3]
                    have F3 := Lib.hid hx3
                    clear hx3
                    cases x3 with
                    | true =>
                      have hs : blankW a b d = some (20, 3, 0) := by unfold blankW; rw [if_neg]; intro h; have hf := F3.out; simp_all
                      have hck : checkW a b d = (20, 3, 0) := firstSome 8 (congrArg some hs) (fun t ht => match t, ht with | 0, _ => congrArg some G1.out | 1, _ => congrArg some G2.out | 2, _ => congrArg some G3.out | 3, _ => congrArg some G4.out | 4, _ => congrArg some G5.out | 5, _ => congrArg some G6.out | 6, _ => congrArg some G7.out | 7, _ => congrArg some G8.out | t + 8, ht => absurd ht (by omega))
                      have Hck := Lib.hid hck
                      have hbE := hbR.only hw (by simp)
                      have e0 := hbE.cell 0
                      have e1 := hbE.cell 1
                      have e2 := hbE.cell 2
                      have z0 := hbE.frozen 0
                      have z1 := hbE.frozen 1
                      have z2 := hbE.frozen 2
                      clear hck hs
                      go_wp2_with (fail)
                      (try simp only [Exit.inBlock, Exit.then])
                      refine bodyPost_ret (v := .agg #[.int .i64 ((20 : Nat) : Int), .int .i64 ((3 : Nat) : Int), .int .i64 ((0 : Nat) : Int)]) ?_ rfl ⟨by rw [Hck.out], ((((hO4.trans hw).setCell (.inr hgR) _).setCell (.inr hgR) _).setCell (.inr hgR) _)⟩
                      rw [results_cell1 rfl]
                      exact load3r (((hbE.set 0 _).set 1 _).set 2 _)
                    | false =>
                      have hs : blankW a b d = none := by unfold blankW; rw [if_pos ⟨F0.out.symm, F1.out.symm, F2.out.symm, F3.out.symm⟩]
                      have hck : checkW a b d = (0, 0, 0) := noneW (by intro u hu; simp only [stagesW, List.mem_cons, List.not_mem_nil, or_false] at hu; rcases hu with rfl | rfl | rfl | rfl | rfl | rfl | rfl | rfl | rfl <;> first | exact G1.out | exact G2.out | exact G3.out | exact G4.out | exact G5.out | exact G6.out | exact G7.out | exact G8.out | exact hs)
                      have Hck := Lib.hid hck
                      have hbE := hbR.only hw (by simp)
                      have e0 := hbE.cell 0
                      have e1 := hbE.cell 1
                      have e2 := hbE.cell 2
                      have z0 := hbE.frozen 0
                      have z1 := hbE.frozen 1
                      have z2 := hbE.frozen 2
                      clear hck hs
                      go_wp2_with (fail)
                      (try simp only [Exit.inBlock, Exit.then])
                      refine bodyPost_ret (v := .agg #[.int .i64 ((0 : Nat) : Int), .int .i64 ((0 : Nat) : Int), .int .i64 ((0 : Nat) : Int)]) ?_ rfl ⟨by rw [Hck.out], ((((hO4.trans hw).setCell (.inr hgR) _).setCell (.inr hgR) _).setCell (.inr hgR) _)⟩
                      rw [results_cell1 rfl]
                      exact load3r (((hbE.set 0 _).set 1 _).set 2 _)
end Go.Proofs.YtodgllnmepnpfaaDoor
