/- ClassesRight: the walk. -/
import Derived.Test.YtodgllnmepnpfaaSpBk
import Derived.Test.YtodgllnmepnpfaaKnow2
import Derived.Test.YtodgllnmepnpfaaTo
import Derived.Deep.RegionWith
namespace Go.Proofs.Ytodgllnmepnpfaa
open Go.RowKit

set_option maxRecDepth 100000 in
set_option maxHeartbeats 4000000 in
theorem classesRight_walk (w : World) (A1 : Option Addr) (n1 c1 : Nat) (a : List Sp) (hn1 : a.length = n1) (r1 : Rd w w.heap.size 2 A1 n1 (ses a)) (s1 : n1 ≤ 17592186043904)
    (A2 : Option Addr) (n2 c2 : Nat) (b : List Sp) (hn2 : b.length = n2) (r2 : Rd w w.heap.size 2 A2 n2 (ses b)) (s2 : n2 ≤ 17592186043904)
    (A3 : Option Addr) (n3 c3 : Nat) (d : List Sp) (hn3 : d.length = n3) (r3 : Rd w w.heap.size 2 A3 n3 (ses d)) (s3 : n3 ≤ 17592186043904) :
    Calls Try.prog 3 #[.slice A1 n1 c1, .slice A2 n2 c2, .slice A3 n3 c3] w fun e w' => e = .returned (.bool true) ∧ Only [] w w' := by
  have N1 := Lib.hid hn1
  have N2 := Lib.hid hn2
  have N3 := Lib.hid hn3
  clear hn1 hn2 hn3
  have hsh1 := fun g => run_slice_h (P := Try.prog) (A := some ⟨g, 0, none⟩) (n := n1 + 80) (c := n1 + 80) (m := n1) (hi := (n1 : Int)) Try.underlying22 (size := 2) (by kernel_rfl) rfl (by omega)
  have hsh2 := fun g => run_slice_h (P := Try.prog) (A := some ⟨g, 0, none⟩) (n := n2 + 80) (c := n2 + 80) (m := n2) (hi := (n2 : Int)) Try.underlying22 (size := 2) (by kernel_rfl) rfl (by omega)
  have hsh3 := fun g => run_slice_h (P := Try.prog) (A := some ⟨g, 0, none⟩) (n := n3 + 80) (c := n3 + 80) (m := n3) (hi := (n3 : Int)) Try.underlying22 (size := 2) (by kernel_rfl) rfl (by omega)
  go_enter Try.func3, Try.ntmps3
  go_wp2_with (fail)
  refine (roomyS_any A1 n1 c1 _ a (-7, 0) w r1 N1.out s1).mono ?_
  rintro e w1 ⟨g1, rfl, _, hb1, hO1⟩
  go_wp2_with (fail)
  refine (roomyS_any A2 n2 c2 _ b (-7, 0) w1 (r2.only hO1 (by simp)) N2.out s2).mono ?_
  rintro e w2 ⟨g2, rfl, _, hb2, hO2⟩
  replace hb1 := hb1.only hO2 (by simp)
  replace hO2 := hO1.trans hO2
  go_wp2_with (fail)
  refine (roomyS_any A3 n3 c3 _ d (-7, 0) w2 (r3.only hO2 (by simp)) N3.out s3).mono ?_
  rintro e w3 ⟨g3, rfl, _, hb3, hO3⟩
  replace hb1 := hb1.only hO3 (by simp)
  replace hb2 := hb2.only hO3 (by simp)
  replace hO3 := hO2.trans hO3
  obtain ⟨R1, q1⟩ := rd_roomyS hb1 N1.out
  obtain ⟨R2, q2⟩ := rd_roomyS hb2 N2.out
  obtain ⟨R3, q3⟩ := rd_roomyS hb3 N3.out
  clear hb1 hb2 hb3 hO1 hO2
  have e1 := hsh1 g1
  have e2 := hsh2 g2
  have e3 := hsh3 g3
  clear hsh1 hsh2 hsh3
  go_upto_region 4 with (fail)
  go_region_with (
    (go_at_call 7
     refine (rightLaw_any _ none none (some ⟨g1, 0, none⟩) (some ⟨g2, 0, none⟩) (some ⟨g3, 0, none⟩) 0 0 0 0 n1 n2 n3 (n1 + 80) (n2 + 80) (n3 + 80) a b d N1.out N2.out N3.out s1 s2 s3 _ (by exact q1) (by exact q2) (by exact q3)).mono ?_
     rintro e w4 ⟨t, rfl, hO4, _⟩
     replace hO4 : Only [] w3 w4 := by first | exact hO4 | exact hO4.ofDrew))
  all_goals
    replace R1 := R1.only hO4 (by simp)
    replace R2 := R2.only hO4 (by simp)
    replace R3 := R3.only hO4 (by simp)
    replace hO4 := hO3.trans hO4
    clear q1 q2 q3 e1 e2 e3
    go_wp2_with (fail)
    refine (intactS_any (some ⟨g1, 0, none⟩) A1 n1 (n1 + 80) c1 _ _ a (-7, 0) _ R1 (r1.only hO4 (by simp)) N1.out s1 (by omega)).mono ?_
    rintro e w5 ⟨rfl, hO5⟩
    replace R2 := R2.only hO5 (by simp)
    replace R3 := R3.only hO5 (by simp)
    replace hO5 := hO4.trans hO5
    go_wp2_with (fail)
    refine (intactS_any (some ⟨g2, 0, none⟩) A2 n2 (n2 + 80) c2 _ _ b (-7, 0) _ R2 (r2.only hO5 (by simp)) N2.out s2 (by omega)).mono ?_
    rintro e w6 ⟨rfl, hO6⟩
    replace R3 := R3.only hO6 (by simp)
    replace hO6 := hO5.trans hO6
    go_wp2_with (fail)
    refine (intactS_any (some ⟨g3, 0, none⟩) A3 n3 (n3 + 80) c3 _ _ d (-7, 0) _ R3 (r3.only hO6 (by simp)) N3.out s3 (by omega)).mono ?_
    rintro e w7 ⟨rfl, hO7⟩
    replace hO7 := hO6.trans hO7
    clear R1 R2 R3 r1 r2 r3
    go_wp2_with (fail)
    refine (known_any _).mono ?_
    rintro e w8 ⟨rfl, hO8⟩
    go_wp2_with (fail)
    go_ret
    exact ⟨rfl, hO7.trans hO8⟩
end Go.Proofs.Ytodgllnmepnpfaa
