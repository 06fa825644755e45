/- Chapter 16's runs: the law's helper 'known' answers true. -/
import Derived.Test.YtjjfnepmnjjemaaRing
import Derived.Lib.SlBytesConst
namespace Go.Proofs.Ytjjfnepmnjjemaa
open Go.RowKit

theorem RingAt.len {w : World} {g g2 r a : Nat} {arr q : List UInt8} (h : RingAt w g g2 r a arr q) : w.cell? ⟨g, 2, none⟩ = some (.int .i64 (q.length : Int)) := h.1.cell 2
theorem RingAt.row {w : World} {g g2 r a : Nat} {arr q : List UInt8} (h : RingAt w g g2 r a arr q) : w.cell? ⟨g, 0, none⟩ = some (.slice (some ⟨g2, 0, none⟩) r r) := h.1.cell 0
theorem RingAt.only {w w' : World} {g g2 r a : Nat} {arr q : List UInt8} (h : RingAt w g g2 r a arr q) {l : List Nat} (ho : Only l w w') (hg : g ∉ l) (hg2 : g2 ∉ l) : RingAt w' g g2 r a arr q :=
  ⟨h.1.only ho hg, h.2.1.only ho hg2, h.2.2⟩
theorem RingAt.drewN {w : World} {g g2 r a : Nat} {arr q : List UInt8} (h : RingAt w g g2 r a arr q) (n : Nat) : RingAt (w.drewN n) g g2 r a arr q := h
theorem RingAt.lt {w : World} {g g2 r a : Nat} {arr q : List UInt8} (h : RingAt w g g2 r a arr q) : g < w.heap.size ∧ g2 < w.heap.size := ⟨h.1.lt, h.2.1.lt⟩
/-- a slice literal of bytes behind its conversion to its own type: the row bears a mark behind its end -/
theorem rd_marked (w : World) (t : TypeId) (l : List UInt8) (m : Nat × Nat) (g : Nat) (hg : w.heap.size = g) : Rd (w.alloc (.cells (bvs l).toArray t m)) (g + 1) 1 (some ⟨g, 0, none⟩) l.length (bvs l) := by
  subst hg
  refine ⟨by rw [bvs_length, Nat.mul_one], fun _ => ⟨_, rfl, by simp, by simp, rfl, fun j u hu => ?_⟩⟩
  rw [add_lit, cell_of_row _ _ _ _ _ _ (heap_alloc_new w _)]
  simpa using hu

set_option maxHeartbeats 1000000 in
theorem ringKnown (w : World) : Calls Try.prog 19 #[] w fun e w' => e = .returned (.bool true) ∧ Only [] w w' := by
  have kc := fun (w : World) (C : Array Value) (n c : Nat) => Lib.run_convert_bytes_const (P := Try.prog) w 26 5 C n c Try.underlying26 Try.underlying5
  go_enter Try.func19, Try.ntmps19
  go_wp2_with (fail)
  refine (ringNew_yes 4 _ (by omega) (by omega)).mono ?_
  rintro e w1 ⟨g, rfl, hg, hR1, hO1⟩
  obtain ⟨g2, hg2⟩ : ∃ g2, g2 = w.heap.size := ⟨_, rfl⟩
  rw [← hg2] at hR1
  have hgg := hR1.lt
  have Hg := Lib.hid hg2; clear hg2
  go_wp2_with (fail)
  obtain ⟨h1, hh1⟩ : ∃ h1, h1 = w1.heap.size := ⟨_, rfl⟩
  rw [← hh1]
  have hd1 : Rd (w1.alloc (.cells #[.int .u8 97, .int .u8 98, .int .u8 99] 5 (3, 4))) (h1 + 1) 1 (some ⟨h1, 0, none⟩) 3 (bvs [97, 98, 99]) := rd_marked w1 5 [97, 98, 99] (3, 4) h1 hh1.symm
  have hR1' := hR1.only (w' := w1.alloc (.cells #[.int .u8 97, .int .u8 98, .int .u8 99] 5 (3, 4))) ((Only.refl [] _).alloc _) (by simp) (by simp)
  refine (ringPut_any g g2 4 0 3 3 _ _ [] [97, 98, 99] _ hR1' (h1 + 1) hd1 (fun ad e _ => by injection e with e; subst e; show h1 ≠ g2; omega) (by omega) (by omega)).mono ?_
  rintro e w2 ⟨arr2, rfl, hR2, hO2⟩
  replace hR2 : RingAt w2 g g2 4 0 arr2 [97, 98, 99] := by simpa using hR2
  have hOw2 : Only [] w w2 := (hO1.alloc _).trans' hO2 (by intro x hx; have := Hg.out; simp at hx; omega)
  have Hh1 := Lib.hid hh1; clear hh1 hd1 hR1' hR1 hO2 hO1
  go_wp2_with (fail)
  refine (ringTake_any g g2 4 0 2 _ _ _ hR2 2 (by simp)).mono ?_
  rintro e w3 ⟨o3, a3, rfl, ho3, hb3, hR3, hO3⟩
  replace hR3 : RingAt w3 g g2 4 a3 arr2 [99] := by simpa using hR3
  have hOw3 : Only [] w w3 := hOw2.trans' hO3 (by intro x hx; have := Hg.out; simp at hx; omega)
  have hgg3 := hR3.lt
  have hlt3 := hb3.lt
  have hgo3 : o3 ≠ g ∧ o3 ≠ g2 := by have := hR2.lt; omega
  clear hR2 hO3 hOw2
  go_wp2_with (fail)
  obtain ⟨h4, hh4⟩ : ∃ h4, h4 = w3.heap.size := ⟨_, rfl⟩
  rw [← hh4]
  have hd4 : Rd (w3.alloc (.cells #[.int .u8 100, .int .u8 101, .int .u8 102, .int .u8 103] 5 (4, 5))) (h4 + 1) 1 (some ⟨h4, 0, none⟩) 4 (bvs [100, 101, 102, 103]) := rd_marked w3 5 [100, 101, 102, 103] (4, 5) h4 hh4.symm
  have hO4' := (Only.refl [] w3).alloc (.cells #[.int .u8 100, .int .u8 101, .int .u8 102, .int .u8 103] 5 (4, 5))
  refine (ringPut_any g g2 4 a3 4 4 _ _ [99] [100, 101, 102, 103] _ (hR3.only hO4' (by simp) (by simp)) (h4 + 1) hd4 (fun ad e _ => by injection e with e; subst e; show h4 ≠ g2; omega) (by omega) (by omega)).mono ?_
  rintro e w4 ⟨arr4, rfl, hR4, hO4⟩
  replace hR4 : RingAt w4 g g2 4 a3 arr4 [99, 100, 101, 102] := by simpa using hR4
  have hOw4 : Only [] w w4 := (hOw3.alloc _).trans' hO4 (by intro x hx; have := Hg.out; simp at hx; omega)
  have hb4 : Blk w4 o3 5 (bvs [97, 98]) := (hb3.only hO4' (by simp)).only hO4 (by simp; omega)
  have Hgo3 := Lib.hid hgo3
  have Hh4 := Lib.hid hh4
  have hlen4 := hR4.len
  have hrow4 := hR4.row
  clear hh4 hd4 hR3 hO4 hb3 hO4' hgo3 hOw3
  have hcv4 := byteStr (n := 2) 2 hb4 rfl
  go_wp2_with (fail)
  refine (ringLen_any g 4 _ hlen4).mono ?_
  rintro e w5 ⟨rfl, rfl⟩
  go_wp2_with (fail)
  refine (ringRoom_any g (some ⟨g2, 0, none⟩) 4 4 4 _ hrow4 hlen4 (by omega) (by omega)).mono ?_
  rintro e w5 ⟨rfl, n5, rfl⟩
  replace hR4 : RingAt (w4.drewN n5) g g2 4 a3 arr4 [99, 100, 101, 102] := hR4
  replace hOw4 := hOw4.drewN n5
  clear hcv4 hlen4 hrow4 hb4
  go_wp2_with (fail)
  refine (ringPeek_any g g2 4 a3 9 _ _ _ hR4 4 (by simp)).mono ?_
  rintro e w6 ⟨o6, rfl, ho6, hb6, hO6⟩
  have hg4 := hR4.lt
  replace hR4 : RingAt w6 g g2 4 a3 arr4 [99, 100, 101, 102] := hR4.only hO6 (by simp) (by simp)
  replace hOw4 : Only [] w w6 := hOw4.trans hO6
  have hcv6 := byteStr (n := 4) 4 hb6 rfl
  go_wp2_with (fail)
  refine (ringTake_any g g2 4 a3 9 _ _ _ hR4 4 (by simp)).mono ?_
  rintro e w7 ⟨o7, a7, rfl, ho7, hb7, hR7, hO7⟩
  have hcv7 := byteStr (n := 4) 4 hb7 rfl
  have hlen7 := hR7.len
  clear hcv6
  go_wp2_with (fail)
  refine (ringLen_any g 0 _ hlen7).mono ?_
  rintro e w8 ⟨rfl, rfl⟩
  go_wp2_with (fail)
  go_ret
  exact ⟨rfl, hOw4.trans' hO7 (by intro x hx; have := Hg.out; simp at hx; omega)⟩
end Go.Proofs.Ytjjfnepmnjjemaa
