/- ClassesKinds: the walk. -/
import Derived.Test.YtodgllnmepnpfaaKnow2
import Derived.Deep.RegionHeld3
namespace Go.Proofs.Ytodgllnmepnpfaa
open Go.RowKit

set_option maxRecDepth 100000 in
set_option maxHeartbeats 4000000 in
theorem classesKinds_core (w : World) (X Y A1 A2 A3 : Option Addr) (p q u v n1 n2 n3 c1 c2 c3 : Nat) (a b d : List Sp) (hn1 : a.length = n1) (hn2 : b.length = n2) (hn3 : d.length = n3)
    (s1 : n1 ≤ 17592186043904) (s2 : n2 ≤ 17592186043904) (s3 : n3 ≤ 17592186043904) (B : Nat) (r1 : Rd w B 2 A1 n1 (ses a)) (r2 : Rd w B 2 A2 n2 (ses b)) (r3 : Rd w B 2 A3 n3 (ses d)) (r x y z : Int) (bad : Bool) :
    Calls Try.prog 5 #[.agg #[.slice X p q, .slice Y u v, .slice A1 n1 c1, .slice A2 n2 c2, .slice A3 n3 c3], .int .i32 r, .agg #[.int .i64 x, .int .i64 y, .int .i32 z, .bool bad]] w fun e w' => e = .returned (.bool true) ∧ Only [] w w' := by
  obtain ⟨h0, hh0⟩ : ∃ h, h = w.heap.size := ⟨_, rfl⟩
  have hb : Blk ((w.alloc (.cells #[.slice X p q, .slice Y u v, .slice A1 n1 c1, .slice A2 n2 c2, .slice A3 n3 c3] 32)).alloc (.cells #[.int .i64 x, .int .i64 y, .int .i32 z, .bool bad] 41)) h0 32 [.slice X p q, .slice Y u v, .slice A1 n1 c1, .slice A2 n2 c2, .slice A3 n3 c3] := (Blk.new' _ _ _ hh0.symm rfl).alloc _
  have hb2 : Blk ((w.alloc (.cells #[.slice X p q, .slice Y u v, .slice A1 n1 c1, .slice A2 n2 c2, .slice A3 n3 c3] 32)).alloc (.cells #[.int .i64 x, .int .i64 y, .int .i32 z, .bool bad] 41)) (h0 + 1) 41 [.int .i64 x, .int .i64 y, .int .i32 z, .bool bad] := Blk.new' _ _ _ (by simp; omega) rfl
  have hO := ((Only.refl [] w).alloc (.cells #[.slice X p q, .slice Y u v, .slice A1 n1 c1, .slice A2 n2 c2, .slice A3 n3 c3] 32)).alloc (.cells #[.int .i64 x, .int .i64 y, .int .i32 z, .bool bad] 41)
  go_enter Try.func5, Try.ntmps5
  go_wp2_with (fail)
  rw [← hh0]
  obtain ⟨h1, hh1⟩ : ∃ h, h = h0 + 1 := ⟨_, rfl⟩
  rw [← hh1] at hb2 ⊢
  have Hh0 := Lib.hid hh0
  have Hh1 := Lib.hid hh1
  clear hh0 hh1
  refine name_it (p := fun y => Calls _ _ _ y _) ?_
  intro wa Ha
  rw [← Ha.out] at hb hb2 hO
  clear Ha
  replace r1 := r1.only hO (by simp)
  replace r2 := r2.only hO (by simp)
  replace r3 := r3.only hO (by simp)
  refine (rightLaw_any wa X Y A1 A2 A3 p q u v n1 n2 n3 c1 c2 c3 a b d hn1 hn2 hn3 s1 s2 s3 B r1 r2 r3).mono ?_
  rintro e w1 ⟨t, rfl, hO1, ht⟩
  have N1 := Lib.hid hn1
  have N2 := Lib.hid hn2
  have N3 := Lib.hid hn3
  clear hn1 hn2 hn3
  replace hb := hb.only hO1 (by simp)
  replace hb2 := hb2.only hO1 (by simp)
  replace r1 := r1.only hO1 (by simp)
  replace r2 := r2.only hO1 (by simp)
  replace r3 := r3.only hO1 (by simp)
  have hO2 := hO.trans hO1
  rcases ht with ⟨g, rfl, hz, hT⟩ | ⟨rfl, hne⟩
  · rw [decide_eq_true hz]
    clear hz
    obtain ⟨K, hK⟩ : ∃ K, K = kindOf a b d r := ⟨_, rfl⟩
    obtain ⟨K2, hK2⟩ : ∃ K2, K2 = (if bad = true then 4 else kindOf a b d z) := ⟨_, rfl⟩
    have HK := Lib.hid hK
    have HK2 := Lib.hid hK2
    have HT := Lib.hid hT
    have Hr1 := Lib.hid r1
    have Hr2 := Lib.hid r2
    have Hr3 := Lib.hid r3
    have hbw : wa.heap.size ≤ w1.heap.size := hO1.size
    clear hK hK2 hT r1 r2 r3 hO hO1
    go_upto_region 4 with (fail)
    have kS : ∀ w', Only [] w1 w' → w'.cell? ⟨h0, 0, none⟩ = some (.slice X p q) ∧ w'.cell? ⟨h0, 1, none⟩ = some (.slice Y u v) ∧ w'.cell? ⟨h0, 2, none⟩ = some (.slice A1 n1 c1) ∧ w'.cell? ⟨h0, 3, none⟩ = some (.slice A2 n2 c2) ∧ w'.cell? ⟨h0, 4, none⟩ = some (.slice A3 n3 c3) ∧ w'.cell? ⟨h1, 0, none⟩ = some (.int .i64 x) ∧ w'.cell? ⟨h1, 1, none⟩ = some (.int .i64 y) ∧ w'.cell? ⟨h1, 2, none⟩ = some (.int .i32 z) ∧ w'.cell? ⟨h1, 3, none⟩ = some (.bool bad) ∧ Only [] w1 w' := fun w' h => by
      have e1 := hb.only h (by simp)
      have e2 := hb2.only h (by simp)
      exact ⟨e1.cell 0, e1.cell 1, e1.cell 2, e1.cell 3, e1.cell 4, e2.cell 0, e2.cell 1, e2.cell 2, e2.cell 3, h⟩
    have KS := Lib.hid kS
    clear kS hb hb2
    go_region_held3 (fun w' => w'.cell? ⟨h0, 0, none⟩ = some (.slice X p q) ∧ w'.cell? ⟨h0, 1, none⟩ = some (.slice Y u v) ∧ w'.cell? ⟨h0, 2, none⟩ = some (.slice A1 n1 c1) ∧ w'.cell? ⟨h0, 3, none⟩ = some (.slice A2 n2 c2) ∧ w'.cell? ⟨h0, 4, none⟩ = some (.slice A3 n3 c3) ∧ w'.cell? ⟨h1, 0, none⟩ = some (.int .i64 x) ∧ w'.cell? ⟨h1, 1, none⟩ = some (.int .i64 y) ∧ w'.cell? ⟨h1, 2, none⟩ = some (.int .i32 z) ∧ w'.cell? ⟨h1, 3, none⟩ = some (.bool bad) ∧ Only [] w1 w')
      (first | exact KS.out _ (Only.drew (Only.refl _ _)) | exact KS.out _ (by assumption))
      (first
        | (go_at_call 10
           obtain ⟨-, -, -, -, -, -, -, -, -, hcur⟩ := (by assumption : _ ∧ _ ∧ _ ∧ _ ∧ _ ∧ _ ∧ _ ∧ _ ∧ _ ∧ Only [] w1 _)
           refine (of_any _ _ g a b d (HT.out.only hcur (by simp)) r).mono ?_
           rintro e w5 ⟨rfl, hO5⟩
           rw [← HK.out]
           replace hO5 := hcur.trans hO5
           clear hcur)
        | (go_at_call 11
           obtain ⟨-, -, -, -, -, -, -, -, -, hcur⟩ := (by assumption : _ ∧ _ ∧ _ ∧ _ ∧ _ ∧ _ ∧ _ ∧ _ ∧ _ ∧ Only [] w1 _)
           refine (refOf_any _ X Y A1 A2 A3 p q u v n1 n2 n3 c1 c2 c3 a b d r N1.out N2.out N3.out s1 s2 s3 B (Hr1.out.only hcur (by simp)) (Hr2.out.only hcur (by simp)) (Hr3.out.only hcur (by simp))).mono ?_
           rintro e w5 ⟨rfl, hO5⟩
           rw [← HK.out]
           replace hO5 := hcur.trans hO5
           clear hcur)
        | (go_at_call 12
           obtain ⟨-, -, -, -, -, -, -, -, -, hcur⟩ := (by assumption : _ ∧ _ ∧ _ ∧ _ ∧ _ ∧ _ ∧ _ ∧ _ ∧ _ ∧ Only [] w1 _)
           refine (kind_any _ _ g a b d (HT.out.only hcur (by simp)) (Nat.le_trans hbw hcur.size) x y z bad).mono ?_
           rintro e w5 ⟨rfl, hO5⟩
           rw [← HK2.out]
           replace hO5 := hcur.trans hO5
           clear hcur)
        | (go_at_call 13
           obtain ⟨-, -, -, -, -, -, -, -, -, hcur⟩ := (by assumption : _ ∧ _ ∧ _ ∧ _ ∧ _ ∧ _ ∧ _ ∧ _ ∧ _ ∧ Only [] w1 _)
           refine (refKind_any _ X Y A1 A2 A3 p q u v n1 n2 n3 c1 c2 c3 a b d x y z bad N1.out N2.out N3.out s1 s2 s3 B (Hr1.out.only hcur (by simp)) (Hr2.out.only hcur (by simp)) (Hr3.out.only hcur (by simp))).mono ?_
           rintro e w5 ⟨rfl, hO5⟩
           rw [← HK2.out]
           replace hO5 := hcur.trans hO5
           clear hcur)
        | (go_at_call 9
           obtain ⟨-, -, -, -, -, -, -, -, -, hcur⟩ := (by assumption : _ ∧ _ ∧ _ ∧ _ ∧ _ ∧ _ ∧ _ ∧ _ ∧ _ ∧ Only [] w1 _)
           refine (known_any _).mono ?_
           rintro e w5 ⟨rfl, hO5⟩
           replace hO5 := hcur.trans hO5
           clear hcur))
    all_goals
      go_wp2
      go_ret
      exact ⟨rfl, hO2.trans hO5⟩
  · rw [decide_eq_false hne]
    clear hne hb hb2 r1 r2 r3
    go_wp2_with (fail)
    refine (known_any _).mono ?_
    rintro e w5 ⟨rfl, hO5⟩
    go_wp2_with (fail)
    go_ret
    exact ⟨rfl, hO2.trans hO5⟩
theorem classesKinds_walk (w : World) (X Y A1 A2 A3 : Option Addr) (p q u v n1 n2 n3 c1 c2 c3 : Nat) (a b d : List Sp) (hn1 : a.length = n1) (hn2 : b.length = n2) (hn3 : d.length = n3)
    (s1 : n1 ≤ 17592186043904) (s2 : n2 ≤ 17592186043904) (s3 : n3 ≤ 17592186043904) (B : Nat) (r1 : Rd w B 2 A1 n1 (ses a)) (r2 : Rd w B 2 A2 n2 (ses b)) (r3 : Rd w B 2 A3 n3 (ses d)) (r : Int) (_ : -2147483648 ≤ r ∧ r ≤ 2147483647) (x y z : Int) (bad : Bool) :
    Calls Try.prog 5 #[.agg #[.slice X p q, .slice Y u v, .slice A1 n1 c1, .slice A2 n2 c2, .slice A3 n3 c3], .int .i32 r, .agg #[.int .i64 x, .int .i64 y, .int .i32 z, .bool bad]] w fun e w' => e = .returned (.bool true) ∧ Only [] w w' :=
  classesKinds_core w X Y A1 A2 A3 p q u v n1 n2 n3 c1 c2 c3 a b d hn1 hn2 hn3 s1 s2 s3 B r1 r2 r3 r x y z bad
end Go.Proofs.Ytodgllnmepnpfaa
