/- classes: Kind; the reference's Of, Kind. -/
import Derived.Test.YtodgllnmepnpfaaDoorCls
set_option linter.unusedVariables false
set_option linter.unusedSimpArgs false
namespace Go.Proofs.YtodgllnmepnpfaaDoor
open Go.RowKit

set_option maxRecDepth 100000 in
set_option maxHeartbeats 4000000 in
theorem kind_any (w : World) (base g : Nat) (a b d : List Sp) (hT : Tab w base g a b d) (hbw : base ≤ w.heap.size) (x y r : Int) (bad : Bool) :
    Calls Tryd.prog 15 #[.pointer (some ⟨g, 0, none⟩), .agg #[.int .i64 x, .int .i64 y, .int .i32 r, .bool bad]] w fun e w' => e = .returned (.int .i64 ((if bad = true then 4 else kindOf a b d r : Nat) : Int)) ∧ Only [] w w' := by
  have hT2 := hT.only ((Only.refl [] w).alloc (.cells #[.int .i64 x, .int .i64 y, .int .i32 r, .bool bad] 58)) (by simp)
  have hO := (Only.refl [] w).alloc (.cells #[.int .i64 x, .int .i64 y, .int .i32 r, .bool bad] 58)
  cases bad with
  | true =>
    clear hT hT2
    go_enter Tryd.func15, Tryd.ntmps15
    go_wp2_with (fail)
    go_ret
    exact ⟨rfl, hO⟩
  | false =>
    go_enter Tryd.func15, Tryd.ntmps15
    go_wp2_with (fail)
    refine (of_any _ base g a b d hT2 r).mono ?_
    rintro e w2 ⟨rfl, hO2⟩
    go_wp2_with (fail)
    go_ret
    exact ⟨rfl, hO.trans hO2⟩

set_option maxRecDepth 100000 in
set_option maxHeartbeats 4000000 in
theorem refOf_any (w : World) (X Y A1 A2 A3 : Option Addr) (p q u v n1 n2 n3 c1 c2 c3 : Nat) (a b d : List Sp) (r : Int) (hn1 : a.length = n1) (hn2 : b.length = n2) (hn3 : d.length = n3)
    (s1 : n1 ≤ 17592186043904) (s2 : n2 ≤ 17592186043904) (s3 : n3 ≤ 17592186043904) (B : Nat) (r1 : Rd w B 2 A1 n1 (ses a)) (r2 : Rd w B 2 A2 n2 (ses b)) (r3 : Rd w B 2 A3 n3 (ses d)) :
    Calls Tryd.prog 36 #[.agg #[.slice X p q, .slice Y u v, .slice A1 n1 c1, .slice A2 n2 c2, .slice A3 n3 c3], .int .i32 r] w fun e w' => e = .returned (.int .i64 (kindOf a b d r : Int)) ∧ Only [] w w' := by
  obtain ⟨h0, hh0⟩ : ∃ h, h = w.heap.size := ⟨_, rfl⟩
  have hb : Blk (w.alloc (.cells #[.slice X p q, .slice Y u v, .slice A1 n1 c1, .slice A2 n2 c2, .slice A3 n3 c3] 44)) h0 44 [.slice X p q, .slice Y u v, .slice A1 n1 c1, .slice A2 n2 c2, .slice A3 n3 c3] := Blk.new' _ _ _ hh0.symm rfl
  obtain ⟨w1, hw1⟩ : ∃ w1, w1 = w.alloc (.cells #[.slice X p q, .slice Y u v, .slice A1 n1 c1, .slice A2 n2 c2, .slice A3 n3 c3] 44) := ⟨_, rfl⟩
  have hO : Only [] w w1 := by rw [hw1]; exact (Only.refl _ _).alloc _
  rw [← hw1] at hb
  have q2 : w1.cell? ⟨h0, 2, none⟩ = some (.slice A1 n1 c1) := hb.cell 2
  have q3 : w1.cell? ⟨h0, 3, none⟩ = some (.slice A2 n2 c2) := hb.cell 3
  have q4 : w1.cell? ⟨h0, 4, none⟩ = some (.slice A3 n3 c3) := hb.cell 4
  have N1 := Lib.hid hn1
  have N2 := Lib.hid hn2
  have N3 := Lib.hid hn3
  clear hn1 hn2 hn3 hb
  replace r1 := r1.only hO (by simp)
  replace r2 := r2.only hO (by simp)
  replace r3 := r3.only hO (by simp)
  go_enter Tryd.func36, Tryd.ntmps36
  go_wp2_with (fail)
  rw [← hw1, ← hh0]
  have Hw1 := Lib.hid hw1
  clear hw1 hh0
  refine (refIn_any n1 c1 A1 a r _ B r1 N1.out (by omega)).mono ?_
  rintro e w2 ⟨rfl, rfl⟩
  obtain ⟨x, hx⟩ : ∃ x, x = inSpans a r := ⟨_, rfl⟩
  rw [← hx]
  have F1 := Lib.hid hx
  clear hx
  cases x with
  | true =>
    go_wp2_with (fail)
    go_ret
    exact ⟨by unfold kindOf; rw [if_pos F1.out.symm]; rfl, hO⟩
  | false =>
    go_wp2_with (fail)
    refine (refIn_any n2 c2 A2 b r _ B r2 N2.out (by omega)).mono ?_
    rintro e w2 ⟨rfl, rfl⟩
    obtain ⟨x, hx⟩ : ∃ x, x = inSpans b r := ⟨_, rfl⟩
    rw [← hx]
    have F2 := Lib.hid hx
    clear hx
    cases x with
    | true =>
      go_wp2_with (fail)
      go_ret
      exact ⟨by unfold kindOf; rw [if_neg (by rw [← F1.out]; simp)]; rw [if_pos F2.out.symm]; rfl, hO⟩
    | false =>
      go_wp2_with (fail)
      refine (refIn_any n3 c3 A3 d r _ B r3 N3.out (by omega)).mono ?_
      rintro e w2 ⟨rfl, rfl⟩
      obtain ⟨x, hx⟩ : ∃ x, x = inSpans d r := ⟨_, rfl⟩
      rw [← hx]
      have F3 := Lib.hid hx
      clear hx
      cases x with
      | true =>
        go_wp2_with (fail)
        go_ret
        exact ⟨by unfold kindOf; rw [if_neg (by rw [← F1.out]; simp)]; rw [if_neg (by rw [← F2.out]; simp)]; rw [if_pos F3.out.symm]; rfl, hO⟩
      | false =>
        go_wp2_with (fail)
        go_ret
        exact ⟨by unfold kindOf; rw [if_neg (by rw [← F1.out]; simp), if_neg (by rw [← F2.out]; simp), if_neg (by rw [← F3.out]; simp)]; rfl, hO⟩

set_option maxRecDepth 100000 in
set_option maxHeartbeats 4000000 in
theorem refKind_any (w : World) (X Y A1 A2 A3 : Option Addr) (p q u v n1 n2 n3 c1 c2 c3 : Nat) (a b d : List Sp) (x y r : Int) (bad : Bool) (hn1 : a.length = n1) (hn2 : b.length = n2) (hn3 : d.length = n3)
    (s1 : n1 ≤ 17592186043904) (s2 : n2 ≤ 17592186043904) (s3 : n3 ≤ 17592186043904) (B : Nat) (r1 : Rd w B 2 A1 n1 (ses a)) (r2 : Rd w B 2 A2 n2 (ses b)) (r3 : Rd w B 2 A3 n3 (ses d)) :
    Calls Tryd.prog 25 #[.agg #[.slice X p q, .slice Y u v, .slice A1 n1 c1, .slice A2 n2 c2, .slice A3 n3 c3], .agg #[.int .i64 x, .int .i64 y, .int .i32 r, .bool bad]] w fun e w' => e = .returned (.int .i64 ((if bad = true then 4 else kindOf a b d r : Nat) : Int)) ∧ Only [] w w' := by
  have hO := ((Only.refl [] w).alloc (.cells #[.slice X p q, .slice Y u v, .slice A1 n1 c1, .slice A2 n2 c2, .slice A3 n3 c3] 44)).alloc (.cells #[.int .i64 x, .int .i64 y, .int .i32 r, .bool bad] 80)
  replace r1 := r1.only hO (by simp)
  replace r2 := r2.only hO (by simp)
  replace r3 := r3.only hO (by simp)
  cases bad with
  | true =>
    clear r1 r2 r3
    go_enter Tryd.func25, Tryd.ntmps25
    go_wp2_with (fail)
    go_ret
    exact ⟨rfl, hO⟩
  | false =>
    go_enter Tryd.func25, Tryd.ntmps25
    go_wp2_with (fail)
    refine (refOf_any _ X Y A1 A2 A3 p q u v n1 n2 n3 c1 c2 c3 a b d r hn1 hn2 hn3 s1 s2 s3 B r1 r2 r3).mono ?_
    rintro e w2 ⟨rfl, hO2⟩
    go_wp2_with (fail)
    go_ret
    exact ⟨rfl, hO.trans hO2⟩
end Go.Proofs.YtodgllnmepnpfaaDoor
