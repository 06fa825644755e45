/- The law's 'right': New answers as the document's Check. -/
import Derived.Test.YtodgllnmepnpfaaDoorChk
set_option linter.unusedVariables false
set_option linter.unusedSimpArgs false
namespace Go.Proofs.YtodgllnmepnpfaaDoor
open Go.RowKit

set_option maxRecDepth 100000 in
set_option maxHeartbeats 4000000 in
theorem rightLaw_any (w : World) (X Y A1 A2 A3 : Option Addr) (p q u v n1 n2 n3 c1 c2 c3 : Nat) (a b d : List Sp) (hn1 : a.length = n1) (hn2 : b.length = n2) (hn3 : d.length = n3)
    (s1 : n1 ≤ 17592186043904) (s2 : n2 ≤ 17592186043904) (s3 : n3 ≤ 17592186043904) (B : Nat) (r1 : Rd w B 2 A1 n1 (ses a)) (r2 : Rd w B 2 A2 n2 (ses b)) (r3 : Rd w B 2 A3 n3 (ses d)) :
    Calls Tryd.prog 10 #[.agg #[.slice X p q, .slice Y u v, .slice A1 n1 c1, .slice A2 n2 c2, .slice A3 n3 c3]] w fun e w' => ∃ t, e = .returned (.tuple #[t, .bool (decide ((checkW a b d).1 = 0)), .bool true]) ∧ Only [] w w' ∧
      ((∃ g, t = .pointer (some ⟨g, 0, none⟩) ∧ (checkW a b d).1 = 0 ∧ Tab w' w.heap.size g a b d) ∨ (t = .pointer none ∧ (checkW a b d).1 ≠ 0)) := by
  obtain ⟨h0, hh0⟩ : ∃ h, h = w.heap.size := ⟨_, rfl⟩
  have hb : Blk (w.alloc (.cells #[.slice X p q, .slice Y u v, .slice A1 n1 c1, .slice A2 n2 c2, .slice A3 n3 c3] 44)) h0 44 [.slice X p q, .slice Y u v, .slice A1 n1 c1, .slice A2 n2 c2, .slice A3 n3 c3] := Blk.new' _ _ _ hh0.symm rfl
  have hO := (Only.refl [] w).alloc (.cells #[.slice X p q, .slice Y u v, .slice A1 n1 c1, .slice A2 n2 c2, .slice A3 n3 c3] 44)
  go_enter Tryd.func10, Tryd.ntmps10
  go_wp2_with (fail)
  rw [← hh0]
  have hwh : w.heap.size ≤ h0 := by omega
  have Hh0 := Lib.hid hh0
  clear hh0
  refine name_it (p := fun y => Calls _ _ _ y _) ?_
  intro wa Ha
  rw [← Ha.out] at hb hO
  clear Ha
  replace r1 := r1.only hO (by simp)
  replace r2 := r2.only hO (by simp)
  replace r3 := r3.only hO (by simp)
  refine (new_any wa A1 A2 A3 n1 n2 n3 c1 c2 c3 a b d hn1 hn2 hn3 s1 s2 s3 B r1 r2 r3).mono ?_
  rintro e w1 ⟨t, rfl, hO1, ht⟩
  obtain ⟨x, hx⟩ : ∃ x, x = checkW a b d := ⟨_, rfl⟩
  rw [← hx] at ht ⊢
  obtain ⟨x, y, z⟩ := x
  simp only at ht ⊢
  have Hx := Lib.hid hx
  have Hn1 := Lib.hid hn1
  have Hn2 := Lib.hid hn2
  have Hn3 := Lib.hid hn3
  have Ht := Lib.hid ht
  clear hx hn1 hn2 hn3 ht
  obtain ⟨h1, hh1⟩ : ∃ h, h = w1.heap.size := ⟨_, rfl⟩
  have hb1 : Blk (w1.alloc (.cells #[.int .i64 (x : Int), .int .i64 (y : Int), .int .i64 (z : Int)] 25)) h1 25 [.int .i64 (x : Int), .int .i64 (y : Int), .int .i64 (z : Int)] := Blk.new' _ _ _ hh1.symm rfl
  have hOa := hO1.alloc (.cells #[.int .i64 (x : Int), .int .i64 (y : Int), .int .i64 (z : Int)] 25)
  have hb2 := hb.only hOa (by simp)
  have q2 : (w1.alloc (.cells #[.int .i64 (x : Int), .int .i64 (y : Int), .int .i64 (z : Int)] 25)).cell? ⟨h0, 2, none⟩ = some (.slice A1 n1 c1) := hb2.cell 2
  have q3 : (w1.alloc (.cells #[.int .i64 (x : Int), .int .i64 (y : Int), .int .i64 (z : Int)] 25)).cell? ⟨h0, 3, none⟩ = some (.slice A2 n2 c2) := hb2.cell 3
  have q4 : (w1.alloc (.cells #[.int .i64 (x : Int), .int .i64 (y : Int), .int .i64 (z : Int)] 25)).cell? ⟨h0, 4, none⟩ = some (.slice A3 n3 c3) := hb2.cell 4
  go_wp2_with (fail)
  rw [← hh1]
  have Hh1 := Lib.hid hh1
  clear hh1
  refine name_it (p := fun y => Calls _ _ _ y _) ?_
  intro w2 H2
  rw [← H2.out] at hb1 hOa
  clear q2 q3 q4 hb2 hb
  refine (refCheck_any w2 A1 A2 A3 n1 n2 n3 c1 c2 c3 a b d Hn1.out Hn2.out Hn3.out s1 s2 s3 B (r1.only hOa (by simp)) (r2.only hOa (by simp)) (r3.only hOa (by simp))).mono ?_
  rintro e w3 ⟨rfl, hO3⟩
  rw [← Hx.out]
  simp only
  obtain ⟨h2, hh2⟩ : ∃ h, h = w3.heap.size := ⟨_, rfl⟩
  have hOb := hO3.alloc (.cells #[.int .i64 (x : Int), .int .i64 (y : Int), .int .i64 (z : Int)] 75)
  replace hb1 := hb1.only hOb (by simp)
  have hTO : Only [] w1 (w3.alloc (.cells #[.int .i64 (x : Int), .int .i64 (y : Int), .int .i64 (z : Int)] 75)) := by
    have h := (Only.refl [] w1).alloc (.cells #[.int .i64 (x : Int), .int .i64 (y : Int), .int .i64 (z : Int)] 25)
    rw [← H2.out] at h
    exact h.trans hOb
  have hEnd : Only [] w (w3.alloc (.cells #[.int .i64 (x : Int), .int .i64 (y : Int), .int .i64 (z : Int)] 75)) := (hO.trans hO1).trans hTO
  have hb2 : Blk (w3.alloc (.cells #[.int .i64 (x : Int), .int .i64 (y : Int), .int .i64 (z : Int)] 75)) h2 75 [.int .i64 (x : Int), .int .i64 (y : Int), .int .i64 (z : Int)] := Blk.new' _ _ _ hh2.symm rfl
  clear hOb
  go_upto_region 3 with (fail)
  rw [← hh2]
  refine name_it (p := fun y => Code.wp _ _ _ _ y) ?_
  intro w4 H4
  rw [← H4.out] at hTO hEnd hb1 hb2
  clear H4 hh2 H2 hO3 hOa
  have q0 : w4.cell? ⟨h1, 0, none⟩ = some (.int .i64 (x : Int)) := hb1.cell 0
  have q1 : w4.cell? ⟨h1, 1, none⟩ = some (.int .i64 (y : Int)) := hb1.cell 1
  have q2 : w4.cell? ⟨h1, 2, none⟩ = some (.int .i64 (z : Int)) := hb1.cell 2
  have p0 : w4.cell? ⟨h2, 0, none⟩ = some (.int .i64 (x : Int)) := hb2.cell 0
  have p1 : w4.cell? ⟨h2, 1, none⟩ = some (.int .i64 (y : Int)) := hb2.cell 1
  have p2 : w4.cell? ⟨h2, 2, none⟩ = some (.int .i64 (z : Int)) := hb2.cell 2
  clear hb1 hb2
  rcases Ht.out with ⟨g, rfl, hz, hT⟩ | ⟨rfl, hz⟩
  · subst hz
    replace hT := (hT.only hTO (by simp)).base (base' := w.heap.size) hO.size
    replace q0 : w4.cell? ⟨h1, 0, none⟩ = some (.int .i64 0) := q0
    replace p0 : w4.cell? ⟨h2, 0, none⟩ = some (.int .i64 0) := p0
    clear Ht
    go_wp2_with (fail)
    go_ret3
    exact ⟨_, by rw [← Hx.out]; rfl, hEnd, .inl ⟨g, rfl, by rw [← Hx.out], hT⟩⟩
  · have hz' : ((x : Int) == 0) = false := by simp; omega
    clear Ht
    go_wp2_with (fail)
    go_ret3
    exact ⟨_, by rw [← Hx.out, decide_eq_false hz]; rfl, hEnd, .inr ⟨rfl, by rw [← Hx.out]; exact hz⟩⟩
end Go.Proofs.YtodgllnmepnpfaaDoor
