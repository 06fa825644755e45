/- classes.New. -/
import Derived.Test.YtodgllnmepnpfaaDoorNew0
set_option linter.unusedVariables false
set_option linter.unusedSimpArgs false
namespace Go.Proofs.YtodgllnmepnpfaaDoor
open Go.RowKit

theorem load3 {w : World} {h0 : Nat} {v0 v1 v2 u : Value} (hb : Blk w h0 25 [v0, v1, v2]) :
    (((asAddr (.pointer (some ⟨h0, 0, none⟩))).run Tryd.prog w).andThen fun a w₁ => ((loadVar 25 a).run Tryd.prog w₁).andThen fun v w₂ => Result.ok (Value.tuple #[u, v]) w₂) = Result.ok (Value.tuple #[u, Value.agg #[v0, v1, v2]]) w := by
  have c0 : w.cell? ⟨h0, 0, none⟩ = some v0 := hb.cell 0
  have c1 : w.cell? ⟨h0, 1, none⟩ = some v1 := hb.cell 1
  have c2 : w.cell? ⟨h0, 2, none⟩ = some v2 := hb.cell 2
  go_simp
set_option maxRecDepth 100000 in
set_option maxHeartbeats 8000000 in
theorem new_any (w : World) (A1 A2 A3 : Option Addr) (n1 n2 n3 c1 c2 c3 : Nat) (a b d : List Sp) (hn1 : a.length = n1) (hn2 : b.length = n2) (hn3 : d.length = n3)
    (s1 : n1 ≤ 17592186043904) (s2 : n2 ≤ 17592186043904) (s3 : n3 ≤ 17592186043904) (B : Nat) (r1 : Rd w B 2 A1 n1 (ses a)) (r2 : Rd w B 2 A2 n2 (ses b)) (r3 : Rd w B 2 A3 n3 (ses d)) :
    Calls Tryd.prog 6 #[.slice A1 n1 c1, .slice A2 n2 c2, .slice A3 n3 c3] w fun e w' => ∃ v, e = .returned (.tuple #[v, .agg #[.int .i64 ((checkW a b d).1 : Int), .int .i64 ((checkW a b d).2.1 : Int), .int .i64 ((checkW a b d).2.2 : Int)]]) ∧ Only [] w w' ∧
      ((∃ g, v = .pointer (some ⟨g, 0, none⟩) ∧ (checkW a b d).1 = 0 ∧ Tab w' w.heap.size g a b d) ∨ (v = .pointer none ∧ (checkW a b d).1 ≠ 0)) := by
  have N1 := Lib.hid hn1
  have N2 := Lib.hid hn2
  have N3 := Lib.hid hn3
  clear hn1 hn2 hn3
  go_enter Tryd.func6, Tryd.ntmps6
  go_wp2_with (fail)
  obtain ⟨h0, hh0⟩ : ∃ h, h = w.heap.size := ⟨_, rfl⟩
  rw [← hh0]
  have hbR : Blk (w.alloc (.cells #[.int .i64 0, .int .i64 0, .int .i64 0] 25)) h0 25 [.int .i64 0, .int .i64 0, .int .i64 0] := Blk.new' _ _ _ hh0.symm rfl
  obtain ⟨wa, hwa⟩ : ∃ wa, wa = w.alloc (.cells #[.int .i64 0, .int .i64 0, .int .i64 0] 25) := ⟨_, rfl⟩
  have hO0 : Only [] w wa := by rw [hwa]; exact (Only.refl _ _).alloc _
  have hza : h0 + 1 ≤ wa.heap.size := by rw [hwa]; simp; omega
  rw [← hwa] at hbR ⊢
  have Hwa := Lib.hid hwa
  have Hh0 := Lib.hid hh0
  clear hwa hh0
  refine (clone_any n1 c1 A1 a wa B (r1.only hO0 (by simp)) s1).mono ?_
  rintro e w1 ⟨D1, k1, rfl, q1, hO1, f1⟩
  replace f1 : ∀ ad, D1 = some ad → h0 + 1 ≤ ad.block := fun ad h => Nat.le_trans hza (f1 ad h)
  have hz1 := Nat.le_trans hza hO1.size
  replace hbR := hbR.only hO1 (by simp)
  replace hO1 := hO0.trans hO1
  go_wp2_with (fail)
  refine (clone_any n2 c2 A2 b w1 B (r2.only hO1 (by simp)) s2).mono ?_
  rintro e w2 ⟨D2, k2, rfl, q2, hO2, f2⟩
  replace hbR := hbR.only hO2 (by simp)
  replace q1 := (q1.only hO2 (by simp)).more hO2.size
  replace f2 : ∀ ad, D2 = some ad → h0 + 1 ≤ ad.block := fun ad h => Nat.le_trans hz1 (f2 ad h)
  have hz2 := Nat.le_trans hz1 hO2.size
  replace hO2 := hO1.trans hO2
  go_wp2_with (fail)
  refine (clone_any n3 c3 A3 d w2 B (r3.only hO2 (by simp)) s3).mono ?_
  rintro e w3 ⟨D3, k3, rfl, q3, hO3, f3⟩
  replace hbR := hbR.only hO3 (by simp)
  replace q1 := (q1.only hO3 (by simp)).more hO3.size
  replace q2 := (q2.only hO3 (by simp)).more hO3.size
  replace f3 : ∀ ad, D3 = some ad → h0 + 1 ≤ ad.block := fun ad h => Nat.le_trans hz2 (f3 ad h)
  have hz3 := Nat.le_trans hz2 hO3.size
  replace hO3 := hO2.trans hO3
  go_wp2_with (fail)
  obtain ⟨g, hg⟩ : ∃ g, g = w3.heap.size := ⟨_, rfl⟩
  rw [← hg]
  have hbT : Blk (w3.alloc (.cells #[.slice D1 n1 k1, .slice D2 n2 k2, .slice D3 n3 k3] 64)) g 64 [.slice D1 n1 k1, .slice D2 n2 k2, .slice D3 n3 k3] := Blk.new' _ _ _ hg.symm rfl
  have hO34 := (Only.refl [] w3).alloc (.cells #[.slice D1 n1 k1, .slice D2 n2 k2, .slice D3 n3 k3] 64)
  have hgw : h0 + 1 ≤ g := by rw [hg]; exact hz3
  have Hg := Lib.hid hg
  clear hg
  refine name_it (p := fun y => Code.wp _ _ _ _ y) ?_
  intro w4 H4
  rw [← H4.out] at hbT hO34
  replace hbR := hbR.only hO34 (by simp)
  replace q1 := (q1.only hO34 (by simp)).more hO34.size
  replace q2 := (q2.only hO34 (by simp)).more hO34.size
  replace q3 := (q3.only hO34 (by simp)).more hO34.size
  have hO4 := hO3.trans hO34
  have hgR : w.heap.size ≤ h0 := Nat.le_of_eq Hh0.out.symm
  have hgR2 : w.heap.size = h0 := Hh0.out.symm
  have HgR := Lib.hid hgR2
  clear hgR2 hza hz1 hz2 hz3 hO0 hO1 hO2 hO3 hO34 r1 r2 r3 H4 Hg Hwa Hh0
  have hix := index3 _ _ _ D1 D2 D3 n1 n2 n3 k1 k2 k3 rfl rfl rfl
  have ix0 := fun W => (hix W).1
  have ix1 := fun W => (hix W).2.1
  have ix2 := fun W => (hix W).2.2
  clear hix
  have t0 : w4.cell? ⟨g, 0, none⟩ = some (.slice D1 n1 k1) := hbT.cell 0
  have t1 : w4.cell? ⟨g, 1, none⟩ = some (.slice D2 n2 k2) := hbT.cell 1
  have t2 : w4.cell? ⟨g, 2, none⟩ = some (.slice D3 n3 k3) := hbT.cell 2
  go_loop [36] (fun vi => (vi = .int .i64 0) ∨ (vi = .int .i64 1 ∧ longW 0 a = none) ∨ (vi = .int .i64 2 ∧ longW 0 a = none ∧ longW 1 b = none) ∨ (vi = .int .i64 3 ∧ longW 0 a = none ∧ longW 1 b = none ∧ longW 2 d = none)) (fun vi => 3 - (intOf vi).toNat)
  case atStart => exact .inl rfl
  case round =>
    rcases hrel with rfl | ⟨rfl, g1⟩ | ⟨rfl, g1, g2⟩ | ⟨rfl, g1, g2, g3⟩
    · have _ := trivial
      by_cases hl : 512 < n1
      · have hs : longW 0 a = some (4, 1, 512) := by unfold longW; rw [if_pos (by rw [N1.out]; exact hl)]
        have hck : checkW a b d = (4, 1, 512) := firstSome 0 (congrArg some hs) (fun t ht => absurd ht (by omega))
        have Hck := Lib.hid hck
        have hbE := hbR
        have e0 := hbE.cell 0
        have e1 := hbE.cell 1
        have e2 := hbE.cell 2
        have z0 := hbE.frozen 0
        have z1 := hbE.frozen 1
        have z2 := hbE.frozen 2
        clear hck hs
        go_wp2_with (fail)
        (try simp only [Exit.inBlock, Exit.then])
        refine bodyPost_ret (v := .tuple #[.pointer none, .agg #[.int .i64 ((4 : Nat) : Int), .int .i64 ((1 : Nat) : Int), .int .i64 ((512 : Nat) : Int)]]) ?_ rfl ⟨.pointer none, by rw [Hck.out], ((((hO4).setCell (.inr hgR) _).setCell (.inr hgR) _).setCell (.inr hgR) _), .inr ⟨rfl, by rw [Hck.out]; simp⟩⟩
        rw [results_tmp_cell rfl]
        exact load3 (((hbE.set 0 _).set 1 _).set 2 _)
      · have G1 : RowKit.Hid (longW 0 a = none) := Lib.hid (by unfold longW; rw [if_neg (by rw [N1.out]; exact hl)])
        go_wp2_with (fail)
        go_round
        case rel => exact .inr (.inl ⟨rfl, G1.out⟩)
        case measure => simp [intOf]
    · have _ := trivial
      have G1 := Lib.hid g1
      clear g1
      by_cases hl : 512 < n2
      · have hs : longW 1 b = some (4, 2, 512) := by unfold longW; rw [if_pos (by rw [N2.out]; exact hl)]
        have hck : checkW a b d = (4, 2, 512) := firstSome 1 (congrArg some hs) (fun t ht => match t, ht with | 0, _ => congrArg some G1.out | t + 1, ht => absurd ht (by omega))
        have Hck := Lib.hid hck
        have hbE := hbR
        have e0 := hbE.cell 0
        have e1 := hbE.cell 1
        have e2 := hbE.cell 2
        have z0 := hbE.frozen 0
        have z1 := hbE.frozen 1
        have z2 := hbE.frozen 2
        clear hck hs
        go_wp2_with (fail)
        (try simp only [Exit.inBlock, Exit.then])
        refine bodyPost_ret (v := .tuple #[.pointer none, .agg #[.int .i64 ((4 : Nat) : Int), .int .i64 ((2 : Nat) : Int), .int .i64 ((512 : Nat) : Int)]]) ?_ rfl ⟨.pointer none, by rw [Hck.out], ((((hO4).setCell (.inr hgR) _).setCell (.inr hgR) _).setCell (.inr hgR) _), .inr ⟨rfl, by rw [Hck.out]; simp⟩⟩
        rw [results_tmp_cell rfl]
        exact load3 (((hbE.set 0 _).set 1 _).set 2 _)
      · have G2 : RowKit.Hid (longW 1 b = none) := Lib.hid (by unfold longW; rw [if_neg (by rw [N2.out]; exact hl)])
        go_wp2_with (fail)
        go_round
        case rel => exact .inr (.inr (.inl ⟨rfl, G1.out, G2.out⟩))
        case measure => simp [intOf]
    · have _ := trivial
      have G1 := Lib.hid g1
      have G2 := Lib.hid g2
      clear g1 g2
      by_cases hl : 512 < n3
      · have hs : longW 2 d = some (4, 3, 512) := by unfold longW; rw [if_pos (by rw [N3.out]; exact hl)]
        have hck : checkW a b d = (4, 3, 512) := firstSome 2 (congrArg some hs) (fun t ht => match t, ht with | 0, _ => congrArg some G1.out | 1, _ => congrArg some G2.out | t + 2, ht => absurd ht (by omega))
        have Hck := Lib.hid hck
        have hbE := hbR
        have e0 := hbE.cell 0
        have e1 := hbE.cell 1
        have e2 := hbE.cell 2
        have z0 := hbE.frozen 0
        have z1 := hbE.frozen 1
        have z2 := hbE.frozen 2
        clear hck hs
        go_wp2_with (fail)
        (try simp only [Exit.inBlock, Exit.then])
        refine bodyPost_ret (v := .tuple #[.pointer none, .agg #[.int .i64 ((4 : Nat) : Int), .int .i64 ((3 : Nat) : Int), .int .i64 ((512 : Nat) : Int)]]) ?_ rfl ⟨.pointer none, by rw [Hck.out], ((((hO4).setCell (.inr hgR) _).setCell (.inr hgR) _).setCell (.inr hgR) _), .inr ⟨rfl, by rw [Hck.out]; simp⟩⟩
        rw [results_tmp_cell rfl]
        exact load3 (((hbE.set 0 _).set 1 _).set 2 _)
      · have G3 : RowKit.Hid (longW 2 d = none) := Lib.hid (by unfold longW; rw [if_neg (by rw [N3.out]; exact hl)])
        go_wp2_with (fail)
        go_round
        case rel => exact .inr (.inr (.inr (⟨rfl, G1.out, G2.out, G3.out⟩)))
        case measure => simp [intOf]
    · have m1 : n1 ≤ 512 := by unfold longW at g1; rw [N1.out] at g1; by_cases h : 512 < n1 <;> simp [h] at g1; omega
      have m2 : n2 ≤ 512 := by unfold longW at g2; rw [N2.out] at g2; by_cases h : 512 < n2 <;> simp [h] at g2; omega
      have m3 : n3 ≤ 512 := by unfold longW at g3; rw [N3.out] at g3; by_cases h : 512 < n3 <;> simp [h] at g3; omega
      have G1 := Lib.hid g1
      have G2 := Lib.hid g2
      have G3 := Lib.hid g3
      clear g1 g2 g3
      go_wp2_with (fail)
      go_loopw [51] (fun vi wr => Only [] w4 wr ∧ ((vi = .int .i64 0) ∨ (vi = .int .i64 1 ∧ rightW 0 a = none) ∨ (vi = .int .i64 2 ∧ rightW 0 a = none ∧ rightW 1 b = none) ∨ (vi = .int .i64 3 ∧ rightW 0 a = none ∧ rightW 1 b = none ∧ rightW 2 d = none))) (fun vi _ => 3 - (intOf vi).toNat)
      case atStart => exact ⟨.refl _ _, .inl rfl⟩
      case round =>
        obtain ⟨hw, hrel⟩ := hrel
        clear t0 t1 t2
        rcases hrel with rfl | ⟨rfl, g4⟩ | ⟨rfl, g4, g5⟩ | ⟨rfl, g4, g5, g6⟩
        · have _ := trivial
          go_wp2_with (fail)
          refine (right_any n1 k1 D1 a wr w4.heap.size (q1.only hw (by simp)) hw.size N1.out (by omega)).mono ?_
          rintro e w5 ⟨rfl, hO5⟩
          replace hO5 := hw.trans hO5
          obtain ⟨⟨rx, ry⟩, hrr⟩ : ∃ rr, rr = rightFrom none 0 a := ⟨_, rfl⟩
          rw [← hrr]
          have hry := rightFrom_why none 0 a
          rw [← hrr] at hry
          simp only at hry ⊢
          have hs0 : ry ≠ 0 → rightW 0 a = some (ry, 1, rx) := fun h => by unfold rightW; rw [← hrr, if_neg h]
          have hs1 : ry = 0 → rightW 0 a = none := fun h => by unfold rightW; rw [← hrr, if_pos h]
          have Hs0 := Lib.hid hs0
          have Hs1 := Lib.hid hs1
          clear hrr hs0 hs1
          by_cases hz : ry = 0
          · subst hz
            go_wp2_with (fail)
            go_roundw
            case rel => exact ⟨hO5, .inr (.inl ⟨rfl, Hs1.out rfl⟩)⟩
            case measure => simp [intOf]
          · have hs := Hs0.out hz
            have hck : checkW a b d = (ry, 1, rx) := firstSome 3 (congrArg some hs) (fun t ht => match t, ht with | 0, _ => congrArg some G1.out | 1, _ => congrArg some G2.out | 2, _ => congrArg some G3.out | t + 3, ht => absurd ht (by omega))
            have Hck := Lib.hid hck
            have hbE := hbR.only hO5 (by simp)
            have e0 := hbE.cell 0
            have e1 := hbE.cell 1
            have e2 := hbE.cell 2
            have z0 := hbE.frozen 0
            have z1 := hbE.frozen 1
            have z2 := hbE.frozen 2
            clear hck hs hry
            have hz' : ¬ (ry : Int) = 0 := by omega
            go_wp2_with (fail)
            (try simp only [Exit.inBlock, Exit.then])
            refine bodyPost_ret (v := .tuple #[.pointer none, .agg #[.int .i64 ((ry : Nat) : Int), .int .i64 ((1 : Nat) : Int), .int .i64 ((rx : Nat) : Int)]]) ?_ rfl ⟨.pointer none, by rw [Hck.out], ((((hO4.trans hO5).setCell (.inr hgR) _).setCell (.inr hgR) _).setCell (.inr hgR) _), .inr ⟨rfl, by rw [Hck.out]; exact hz⟩⟩
            rw [results_tmp_cell rfl]
            exact load3 (((hbE.set 0 _).set 1 _).set 2 _)
        · have _ := trivial
          have G4 := Lib.hid g4
          clear g4
          go_wp2_with (fail)
          refine (right_any n2 k2 D2 b wr w4.heap.size (q2.only hw (by simp)) hw.size N2.out (by omega)).mono ?_
          rintro e w5 ⟨rfl, hO5⟩
          replace hO5 := hw.trans hO5
          obtain ⟨⟨rx, ry⟩, hrr⟩ : ∃ rr, rr = rightFrom none 0 b := ⟨_, rfl⟩
          rw [← hrr]
          have hry := rightFrom_why none 0 b
          rw [← hrr] at hry
          simp only at hry ⊢
          have hs0 : ry ≠ 0 → rightW 1 b = some (ry, 2, rx) := fun h => by unfold rightW; rw [← hrr, if_neg h]
          have hs1 : ry = 0 → rightW 1 b = none := fun h => by unfold rightW; rw [← hrr, if_pos h]
          have Hs0 := Lib.hid hs0
          have Hs1 := Lib.hid hs1
          clear hrr hs0 hs1
          by_cases hz : ry = 0
          · subst hz
            go_wp2_with (fail)
            go_roundw
            case rel => exact ⟨hO5, .inr (.inr (.inl ⟨rfl, G4.out, Hs1.out rfl⟩))⟩
            case measure => simp [intOf]
          · have hs := Hs0.out hz
            have hck : checkW a b d = (ry, 2, rx) := firstSome 4 (congrArg some hs) (fun t ht => match t, ht with | 0, _ => congrArg some G1.out | 1, _ => congrArg some G2.out | 2, _ => congrArg some G3.out | 3, _ => congrArg some G4.out | t + 4, ht => absurd ht (by omega))
            have Hck := Lib.hid hck
            have hbE := hbR.only hO5 (by simp)
            have e0 := hbE.cell 0
            have e1 := hbE.cell 1
            have e2 := hbE.cell 2
            have z0 := hbE.frozen 0
            have z1 := hbE.frozen 1
            have z2 := hbE.frozen 2
            clear hck hs hry
            have hz' : ¬ (ry : Int) = 0 := by omega
            go_wp2_with (fail)
            (try simp only [Exit.inBlock, Exit.then])
            refine bodyPost_ret (v := .tuple #[.pointer none, .agg #[.int .i64 ((ry : Nat) : Int), .int .i64 ((2 : Nat) : Int), .int .i64 ((rx : Nat) : Int)]]) ?_ rfl ⟨.pointer none, by rw [Hck.out], ((((hO4.trans hO5).setCell (.inr hgR) _).setCell (.inr hgR) _).setCell (.inr hgR) _), .inr ⟨rfl, by rw [Hck.out]; exact hz⟩⟩
            rw [results_tmp_cell rfl]
            exact load3 (((hbE.set 0 _).set 1 _).set 2 _)
        · have _ := trivial
          have G4 := Lib.hid g4
          have G5 := Lib.hid g5
          clear g4 g5
          go_wp2_with (fail)
          refine (right_any n3 k3 D3 d wr w4.heap.size (q3.only hw (by simp)) hw.size N3.out (by omega)).mono ?_
          rintro e w5 ⟨rfl, hO5⟩
          replace hO5 := hw.trans hO5
          obtain ⟨⟨rx, ry⟩, hrr⟩ : ∃ rr, rr = rightFrom none 0 d := ⟨_, rfl⟩
          rw [← hrr]
          have hry := rightFrom_why none 0 d
          rw [← hrr] at hry
          simp only at hry ⊢
          have hs0 : ry ≠ 0 → rightW 2 d = some (ry, 3, rx) := fun h => by unfold rightW; rw [← hrr, if_neg h]
          have hs1 : ry = 0 → rightW 2 d = none := fun h => by unfold rightW; rw [← hrr, if_pos h]
          have Hs0 := Lib.hid hs0
          have Hs1 := Lib.hid hs1
          clear hrr hs0 hs1
          by_cases hz : ry = 0
          · subst hz
            go_wp2_with (fail)
            go_roundw
            case rel => exact ⟨hO5, .inr (.inr (.inr (⟨rfl, G4.out, G5.out, Hs1.out rfl⟩)))⟩
            case measure => simp [intOf]
          · have hs := Hs0.out hz
            have hck : checkW a b d = (ry, 3, rx) := firstSome 5 (congrArg some hs) (fun t ht => match t, ht with | 0, _ => congrArg some G1.out | 1, _ => congrArg some G2.out | 2, _ => congrArg some G3.out | 3, _ => congrArg some G4.out | 4, _ => congrArg some G5.out | t + 5, ht => absurd ht (by omega))
            have Hck := Lib.hid hck
            have hbE := hbR.only hO5 (by simp)
            have e0 := hbE.cell 0
            have e1 := hbE.cell 1
            have e2 := hbE.cell 2
            have z0 := hbE.frozen 0
            have z1 := hbE.frozen 1
            have z2 := hbE.frozen 2
            clear hck hs hry
            have hz' : ¬ (ry : Int) = 0 := by omega
            go_wp2_with (fail)
            (try simp only [Exit.inBlock, Exit.then])
            refine bodyPost_ret (v := .tuple #[.pointer none, .agg #[.int .i64 ((ry : Nat) : Int), .int .i64 ((3 : Nat) : Int), .int .i64 ((rx : Nat) : Int)]]) ?_ rfl ⟨.pointer none, by rw [Hck.out], ((((hO4.trans hO5).setCell (.inr hgR) _).setCell (.inr hgR) _).setCell (.inr hgR) _), .inr ⟨rfl, by rw [Hck.out]; exact hz⟩⟩
            rw [results_tmp_cell rfl]
            exact load3 (((hbE.set 0 _).set 1 _).set 2 _)
        · have G4 := Lib.hid g4
          have G5 := Lib.hid g5
          have G6 := Lib.hid g6
          clear g4 g5 g6
          have t0 := hw.cellv (hbT.cell 0) (by simp)
          have t1 := hw.cellv (hbT.cell 1) (by simp)
          have t2 := hw.cellv (hbT.cell 2) (by simp)
          replace t0 : wr.cell? ⟨g, 0, none⟩ = some (.slice D1 n1 k1) := t0
          replace t1 : wr.cell? ⟨g, 1, none⟩ = some (.slice D2 n2 k2) := t1
          replace t2 : wr.cell? ⟨g, 2, none⟩ = some (.slice D3 n3 k3) := t2
          have R1 : RightL a := RightL.of (by have h := G4.out; unfold rightW at h; split at h; assumption; cases h)
          have R2 : RightL b := RightL.of (by have h := G5.out; unfold rightW at h; split at h; assumption; cases h)
          have R3 : RightL d := RightL.of (by have h := G6.out; unfold rightW at h; split at h; assumption; cases h)
          go_wp2_with (fail)
          go_loopw [72] (fun vi wy => Only [] w4 wy ∧ ((vi = .int .i64 0) ∨ (vi = .int .i64 1) ∨ (vi = .int .i64 2 ∧ over1 a b = none) ∨ (vi = .int .i64 3 ∧ over1 a b = none ∧ over2 a b d = none))) (fun vi _ => 3 - (intOf vi).toNat)
          case atStart => exact ⟨hw, .inl rfl⟩
          case round =>
            clear t0 t1 t2 hw
            obtain ⟨hw, hrel⟩ := hrel
            rcases hrel with rfl | rfl | ⟨rfl, g7⟩ | ⟨rfl, g7, g8⟩
            · go_wp2_with (fail)
              go_loopw [84, 17, 18] (fun vj vr vo wx => wx = wr ∧ vj = .int .i64 0 ∧ vr = .int .i64 n1 ∧ vo = .bool false) (fun _ _ _ _ => 0)
              case atStart => exact ⟨rfl, rfl, rfl, rfl⟩
              case round =>
                obtain ⟨rfl, rfl, rfl, rfl⟩ := hrel
                go_wp2_with (fail)
                go_roundw
                case rel => exact ⟨hw, .inr (.inl rfl)⟩
                case measure => simp [intOf]
            · go_wp2_with (fail)
              go_loopw [84, 17, 18] (fun vj vr vo wx => Only [] w4 wx ∧ ∃ o : Option Nat, vr = .int .i64 ((o.getD n2 : Nat) : Int) ∧ vo = .bool o.isSome ∧ ((vj = .int .i64 0 ∧ o = none) ∨ (vj = .int .i64 1 ∧ o = meetFrom a 0 b))) (fun vj _ _ _ => 1 - (intOf vj).toNat)
              case atStart => exact ⟨hw, none, rfl, rfl, .inl ⟨rfl, rfl⟩⟩
              case round =>
                clear hw
                obtain ⟨hw, o, rfl, rfl, hrel⟩ := hrel
                rcases hrel with ⟨rfl, ho⟩ | ⟨rfl, ho⟩
                · have Ho := Lib.hid ho
                  clear ho
                  have t0 := hw.cellv (hbT.cell 0) (by simp)
                  replace t0 : wr.cell? ⟨g, 0, none⟩ = some (.slice D1 n1 k1) := t0
                  go_wp2_with (fail)
                  refine (meet_any n2 k2 n1 k1 D2 D1 b a wr w4.heap.size (q2.only hw (by simp)) (q1.only hw (by simp)) hw.size N2.out N1.out (by omega) (by omega) R2 R1).mono ?_
                  rintro e w6 ⟨rfl, hO6⟩
                  replace hO6 := hw.trans hO6
                  obtain ⟨om, hom⟩ : ∃ om, om = meetFrom a 0 b := ⟨_, rfl⟩
                  have hlt : ∀ r, om = some r → r < n2 := fun r h => by have h2 := meetFrom_lt (hom.symm.trans h); rw [N2.out] at h2; omega
                  rw [← hom]
                  have Hx := Lib.hid hom
                  clear hom t0
                  unfold metV
                  cases om with
                  | none =>
                    clear hlt
                    go_wp2_with (fail)
                    go_roundw
                    case rel => exact ⟨hO6, none, by (rw [Ho.out]) <;> rfl, by rw [Ho.out], .inr ⟨rfl, Hx.out⟩⟩
                    case measure => simp [intOf]
                  | some r =>
                    have hr' := hlt r rfl
                    clear hlt
                    obtain rfl : o = none := Ho.out
                    simp only [Option.getD_none, Option.getD_some, Option.isSome]
                    go_wp2_with (fail)
                    go_roundw
                    case rel => exact ⟨hO6, some r, by simp only [Option.getD_some] <;> apply congrArg (Value.int .i64) <;> first | rfl | omega | (split <;> omega), rfl, .inr ⟨rfl, Hx.out⟩⟩
                    case measure => simp [intOf]
                · have hov : over1 a b = o.map fun r => (16, 2, r) := by rw [ho]; rfl
                  have Hov := Lib.hid hov
                  clear ho hov
                  cases o with
                  | none =>
                    simp only [Option.getD_none, Option.getD_some, Option.isSome]
                    go_wp2_with (fail)
                    go_roundw
                    case rel => exact ⟨hw, .inr (.inr (.inl ⟨rfl, Hov.out⟩))⟩
                    case measure => simp [intOf]
                  | some r =>
                    simp only [Option.getD_none, Option.getD_some, Option.isSome]
                    have hs : over1 a b = some (16, 2, r) := Hov.out
                    have hck : checkW a b d = (16, 2, r) := firstSome 6 (congrArg some hs) (fun t ht => match t, ht with | 0, _ => congrArg some G1.out | 1, _ => congrArg some G2.out | 2, _ => congrArg some G3.out | 3, _ => congrArg some G4.out | 4, _ => congrArg some G5.out | 5, _ => congrArg some G6.out | t + 6, ht => absurd ht (by omega))
                    have Hck := Lib.hid hck
                    have hbE := hbR.only hw (by simp)
                    have e0 := hbE.cell 0
                    have e1 := hbE.cell 1
                    have e2 := hbE.cell 2
                    have z0 := hbE.frozen 0
                    have z1 := hbE.frozen 1
                    have z2 := hbE.frozen 2
                    clear hck hs
                    go_wp2_with (fail)
                    (try simp only [Exit.inBlock, Exit.then])
                    refine bodyPost_ret (v := .tuple #[.pointer none, .agg #[.int .i64 ((16 : Nat) : Int), .int .i64 ((2 : Nat) : Int), .int .i64 ((r : Nat) : Int)]]) ?_ rfl ⟨.pointer none, by rw [Hck.out], ((((hO4.trans hw).setCell (.inr hgR) _).setCell (.inr hgR) _).setCell (.inr hgR) _), .inr ⟨rfl, by rw [Hck.out]; simp⟩⟩
                    rw [results_tmp_cell rfl]
                    exact load3 (((hbE.set 0 _).set 1 _).set 2 _)
            · have G7 := Lib.hid g7
              clear g7
              go_wp2_with (fail)
              go_loopw [84, 17, 18] (fun vj vr vo wx => Only [] w4 wx ∧ ∃ o : Option Nat, vr = .int .i64 ((o.getD n3 : Nat) : Int) ∧ vo = .bool o.isSome ∧ ((vj = .int .i64 0 ∧ o = none) ∨ (vj = .int .i64 1 ∧ o = meetFrom a 0 d) ∨ (vj = .int .i64 2 ∧ o = least2 (meetFrom a 0 d) (meetFrom b 0 d)))) (fun vj _ _ _ => 2 - (intOf vj).toNat)
              case atStart => exact ⟨hw, none, rfl, rfl, .inl ⟨rfl, rfl⟩⟩
              case round =>
                clear hw
                obtain ⟨hw, o, rfl, rfl, hrel⟩ := hrel
                rcases hrel with ⟨rfl, ho⟩ | ⟨rfl, ho⟩ | ⟨rfl, ho⟩
                · have Ho := Lib.hid ho
                  clear ho
                  have t0 := hw.cellv (hbT.cell 0) (by simp)
                  replace t0 : wr.cell? ⟨g, 0, none⟩ = some (.slice D1 n1 k1) := t0
                  go_wp2_with (fail)
                  refine (meet_any n3 k3 n1 k1 D3 D1 d a wr w4.heap.size (q3.only hw (by simp)) (q1.only hw (by simp)) hw.size N3.out N1.out (by omega) (by omega) R3 R1).mono ?_
                  rintro e w6 ⟨rfl, hO6⟩
                  replace hO6 := hw.trans hO6
                  obtain ⟨om, hom⟩ : ∃ om, om = meetFrom a 0 d := ⟨_, rfl⟩
                  have hlt : ∀ r, om = some r → r < n3 := fun r h => by have h2 := meetFrom_lt (hom.symm.trans h); rw [N3.out] at h2; omega
                  rw [← hom]
                  have Hx := Lib.hid hom
                  clear hom t0
                  unfold metV
                  cases om with
                  | none =>
                    clear hlt
                    go_wp2_with (fail)
                    go_roundw
                    case rel => exact ⟨hO6, none, by (rw [Ho.out]) <;> rfl, by rw [Ho.out], .inr (.inl ⟨rfl, Hx.out⟩)⟩
                    case measure => simp [intOf]
                  | some r =>
                    have hr' := hlt r rfl
                    clear hlt
                    obtain rfl : o = none := Ho.out
                    simp only [Option.getD_none, Option.getD_some, Option.isSome]
                    go_wp2_with (fail)
                    go_roundw
                    case rel => exact ⟨hO6, some r, by simp only [Option.getD_some] <;> apply congrArg (Value.int .i64) <;> first | rfl | omega | (split <;> omega), rfl, .inr (.inl ⟨rfl, Hx.out⟩)⟩
                    case measure => simp [intOf]
                · have Ho := Lib.hid ho
                  clear ho
                  have t1 := hw.cellv (hbT.cell 1) (by simp)
                  replace t1 : wr.cell? ⟨g, 1, none⟩ = some (.slice D2 n2 k2) := t1
                  go_wp2_with (fail)
                  refine (meet_any n3 k3 n2 k2 D3 D2 d b wr w4.heap.size (q3.only hw (by simp)) (q2.only hw (by simp)) hw.size N3.out N2.out (by omega) (by omega) R3 R2).mono ?_
                  rintro e w6 ⟨rfl, hO6⟩
                  replace hO6 := hw.trans hO6
                  obtain ⟨om, hom⟩ : ∃ om, om = meetFrom b 0 d := ⟨_, rfl⟩
                  have hlt : ∀ r, om = some r → r < n3 := fun r h => by have h2 := meetFrom_lt (hom.symm.trans h); rw [N3.out] at h2; omega
                  rw [← hom]
                  have Hx := Lib.hid hom
                  clear hom t1
                  unfold metV
                  cases om with
                  | none =>
                    clear hlt
                    go_wp2_with (fail)
                    go_roundw
                    case rel => exact ⟨hO6, o, rfl, rfl, .inr (.inr ⟨rfl, by rw [← Hx.out, ← Ho.out]; cases o <;> rfl⟩)⟩
                    case measure => simp [intOf]
                  | some r =>
                    have hr' := hlt r rfl
                    clear hlt
                    cases o with
                    | none =>
                      simp only [Option.getD_none, Option.getD_some, Option.isSome]
                      go_wp2_with (fail)
                      go_roundw
                      case rel => exact ⟨hO6, some r, by simp only [Option.getD_some] <;> apply congrArg (Value.int .i64) <;> first | rfl | omega | (split <;> omega), rfl, .inr (.inr ⟨rfl, by rw [← Hx.out, ← Ho.out]; rfl⟩)⟩
                      case measure => simp [intOf]
                    | some x =>
                      simp only [Option.getD_none, Option.getD_some, Option.isSome]
                      go_wp2_with (fail)
                      go_roundw
                      case rel => exact ⟨hO6, some (min x r), by simp only [Option.getD_some] <;> apply congrArg (Value.int .i64) <;> first | rfl | omega | (split <;> omega), rfl, .inr (.inr ⟨rfl, by rw [← Hx.out, ← Ho.out]; rfl⟩)⟩
                      case measure => simp [intOf]
                · have hov : over2 a b d = o.map fun r => (16, 3, r) := by rw [ho]; rfl
                  have Hov := Lib.hid hov
                  clear ho hov
                  cases o with
                  | none =>
                    simp only [Option.getD_none, Option.getD_some, Option.isSome]
                    go_wp2_with (fail)
                    go_roundw
                    case rel => exact ⟨hw, .inr (.inr (.inr ⟨rfl, G7.out, Hov.out⟩))⟩
                    case measure => simp [intOf]
                  | some r =>
                    simp only [Option.getD_none, Option.getD_some, Option.isSome]
                    have hs : over2 a b d = some (16, 3, r) := Hov.out
                    have hck : checkW a b d = (16, 3, r) := firstSome 7 (congrArg some hs) (fun t ht => match t, ht with | 0, _ => congrArg some G1.out | 1, _ => congrArg some G2.out | 2, _ => congrArg some G3.out | 3, _ => congrArg some G4.out | 4, _ => congrArg some G5.out | 5, _ => congrArg some G6.out | 6, _ => congrArg some G7.out | t + 7, ht => absurd ht (by omega))
                    have Hck := Lib.hid hck
                    have hbE := hbR.only hw (by simp)
                    have e0 := hbE.cell 0
                    have e1 := hbE.cell 1
                    have e2 := hbE.cell 2
                    have z0 := hbE.frozen 0
                    have z1 := hbE.frozen 1
                    have z2 := hbE.frozen 2
                    clear hck hs
                    go_wp2_with (fail)
                    (try simp only [Exit.inBlock, Exit.then])
                    refine bodyPost_ret (v := .tuple #[.pointer none, .agg #[.int .i64 ((16 : Nat) : Int), .int .i64 ((3 : Nat) : Int), .int .i64 ((r : Nat) : Int)]]) ?_ rfl ⟨.pointer none, by rw [Hck.out], ((((hO4.trans hw).setCell (.inr hgR) _).setCell (.inr hgR) _).setCell (.inr hgR) _), .inr ⟨rfl, by rw [Hck.out]; simp⟩⟩
                    rw [results_tmp_cell rfl]
                    exact load3 (((hbE.set 0 _).set 1 _).set 2 _)
            · have G7 := Lib.hid g7
              have G8 := Lib.hid g8
              have hbk := blank_kind g8
              have Hbk := Lib.hid hbk
              clear g7 g8 hbk
              have hT : Tab wr (h0 + 1) g a b d := ⟨⟨D1, D2, D3, k1, k2, k3, by rw [N1.out, N2.out, N3.out]; exact hbT.only hw (by simp), hgw, by rw [N1.out]; exact (q1.only hw (by simp)).more hw.size, by rw [N2.out]; exact (q2.only hw (by simp)).more hw.size, by rw [N3.out]; exact (q3.only hw (by simp)).more hw.size, f1, f2, f3⟩, by rw [N1.out, N2.out, N3.out]; exact ⟨m1, m2, m3⟩, ⟨R1, R2, R3⟩⟩
              go_wp2_with (fail)
              refine (of_any wr _ g a b d hT 32).mono ?_
              rintro e w7 ⟨rfl, hO7⟩
              replace hT := hT.only hO7 (by simp)
              replace hO7 := hw.trans hO7
              obtain ⟨K1, hK1⟩ : ∃ K, K = kindOf a b d 32 := ⟨_, rfl⟩
              rw [← hK1]
              have HK1 := Lib.hid hK1
              clear hK1
              by_cases h3 : K1 = 3
              · subst h3
                go_wp2_with (fail)
                refine (of_any w7 _ g a b d hT 39).mono ?_
                rintro e w8 ⟨rfl, hO8⟩
                replace hT := hT.only hO8 (by simp)
                replace hO8 := hO7.trans hO8
                obtain ⟨K2, hK2⟩ : ∃ K, K = kindOf a b d 39 := ⟨_, rfl⟩
                rw [← hK2]
                have HK2 := Lib.hid hK2
                clear hK2
                by_cases h4 : K2 = 4
                · subst h4
                  have hs : blankW a b d = none := (Hbk.out.1).2 ⟨HK1.out.symm, HK2.out.symm⟩
                  have hck : checkW a b d = (0, 0, 0) := noneW (by intro u hu; simp only [stagesW, List.mem_cons, List.not_mem_nil, or_false] at hu; rcases hu with rfl | rfl | rfl | rfl | rfl | rfl | rfl | rfl | rfl <;> first | exact G1.out | exact G2.out | exact G3.out | exact G4.out | exact G5.out | exact G6.out | exact G7.out | exact G8.out | exact hs)
                  have Hck := Lib.hid hck
                  have hbE := hbR.only hO8 (by simp)
                  have e0 := hbE.cell 0
                  have e1 := hbE.cell 1
                  have e2 := hbE.cell 2
                  have z0 := hbE.frozen 0
                  have z1 := hbE.frozen 1
                  have z2 := hbE.frozen 2
                  clear hck hs
                  go_wp2_with (fail)
                  (try simp only [Exit.inBlock, Exit.then])
                  refine bodyPost_ret (v := .tuple #[.pointer (some ⟨g, 0, none⟩), .agg #[.int .i64 ((0 : Nat) : Int), .int .i64 ((0 : Nat) : Int), .int .i64 ((0 : Nat) : Int)]]) ?_ rfl ⟨.pointer (some ⟨g, 0, none⟩), by rw [Hck.out], ((((hO4.trans hO8).setCell (.inr hgR) _).setCell (.inr hgR) _).setCell (.inr hgR) _), .inl ⟨g, rfl, by rw [Hck.out], ?_⟩⟩
                  · rw [results_tmp_cell rfl]
                    exact load3 (((hbE.set 0 _).set 1 _).set 2 _)
                  · exact (hT.only ((((Only.refl [h0] w8).setCell (.inl (by simp)) _).setCell (.inl (by simp)) _).setCell (.inl (by simp)) _) (by simp)).base (by rw [HgR.out]; omega)
                · have hs : blankW a b d = some (20, 3, 0) := by
                    rcases Hbk.out.2 with h | h
                    · exact absurd ((Hbk.out.1).1 h).2.symm (by rw [← HK2.out]; exact fun e => h4 e.symm)
                    · exact h
                  have hz' : ¬ (K2 : Int) = 4 := by omega
                  have hck : checkW a b d = (20, 3, 0) := firstSome 8 (congrArg some hs) (fun t ht => match t, ht with | 0, _ => congrArg some G1.out | 1, _ => congrArg some G2.out | 2, _ => congrArg some G3.out | 3, _ => congrArg some G4.out | 4, _ => congrArg some G5.out | 5, _ => congrArg some G6.out | 6, _ => congrArg some G7.out | 7, _ => congrArg some G8.out | t + 8, ht => absurd ht (by omega))
                  have Hck := Lib.hid hck
                  have hbE := hbR.only hO8 (by simp)
                  have e0 := hbE.cell 0
                  have e1 := hbE.cell 1
                  have e2 := hbE.cell 2
                  have z0 := hbE.frozen 0
                  have z1 := hbE.frozen 1
                  have z2 := hbE.frozen 2
                  clear hck hs
                  go_wp2_with (fail)
                  (try simp only [Exit.inBlock, Exit.then])
                  refine bodyPost_ret (v := .tuple #[.pointer none, .agg #[.int .i64 ((20 : Nat) : Int), .int .i64 ((3 : Nat) : Int), .int .i64 ((0 : Nat) : Int)]]) ?_ rfl ⟨.pointer none, by rw [Hck.out], ((((hO4.trans hO8).setCell (.inr hgR) _).setCell (.inr hgR) _).setCell (.inr hgR) _), .inr ⟨rfl, by rw [Hck.out]; simp⟩⟩
                  rw [results_tmp_cell rfl]
                  exact load3 (((hbE.set 0 _).set 1 _).set 2 _)
              · have hs : blankW a b d = some (20, 3, 0) := by
                  rcases Hbk.out.2 with h | h
                  · exact absurd ((Hbk.out.1).1 h).1.symm (by rw [← HK1.out]; exact fun e => h3 e.symm)
                  · exact h
                have hz' : ¬ (K1 : Int) = 3 := by omega
                have hck : checkW a b d = (20, 3, 0) := firstSome 8 (congrArg some hs) (fun t ht => match t, ht with | 0, _ => congrArg some G1.out | 1, _ => congrArg some G2.out | 2, _ => congrArg some G3.out | 3, _ => congrArg some G4.out | 4, _ => congrArg some G5.out | 5, _ => congrArg some G6.out | 6, _ => congrArg some G7.out | 7, _ => congrArg some G8.out | t + 8, ht => absurd ht (by omega))
                have Hck := Lib.hid hck
                have hbE := hbR.only hO7 (by simp)
                have e0 := hbE.cell 0
                have e1 := hbE.cell 1
                have e2 := hbE.cell 2
                have z0 := hbE.frozen 0
                have z1 := hbE.frozen 1
                have z2 := hbE.frozen 2
                clear hck hs
                go_wp2_with (fail)
                (try simp only [Exit.inBlock, Exit.then])
                refine bodyPost_ret (v := .tuple #[.pointer none, .agg #[.int .i64 ((20 : Nat) : Int), .int .i64 ((3 : Nat) : Int), .int .i64 ((0 : Nat) : Int)]]) ?_ rfl ⟨.pointer none, by rw [Hck.out], ((((hO4.trans hO7).setCell (.inr hgR) _).setCell (.inr hgR) _).setCell (.inr hgR) _), .inr ⟨rfl, by rw [Hck.out]; simp⟩⟩
                rw [results_tmp_cell rfl]
                exact load3 (((hbE.set 0 _).set 1 _).set 2 _)
end Go.Proofs.YtodgllnmepnpfaaDoor
