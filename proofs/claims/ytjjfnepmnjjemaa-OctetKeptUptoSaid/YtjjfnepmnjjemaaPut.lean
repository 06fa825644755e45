/- Contracts of octet.Put, PutText and their references. -/
import Derived.Test.YtjjfnepmnjjemaaOctet
import Derived.Test.YtjjfnepmnjjemaaAp
namespace Go.Proofs.Ytjjfnepmnjjemaa
open Go.RowKit

theorem byteInfo' : (Try.prog.info? 5).map (fun i => (i.zero, i.size, i.bytes)) = some (some (.int .u8 0), 1, 1) := by kernel_rfl
def be4 (x : Nat) : List UInt8 := [UInt8.ofNat (x / 16777216), UInt8.ofNat (x / 65536), UInt8.ofNat (x / 256), UInt8.ofNat x]

set_option maxRecDepth 100000 in
set_option maxHeartbeats 1000000 in
theorem put_any (A : Option Addr) (n c x : Nat) (l : List UInt8) (w : World) (hs : Rd w w.heap.size 1 A n (bvs l)) (hn : n ≤ 140737488351232) (hx : x < 4294967296) (hnc : n ≤ c) :
    Calls Try.prog 30 #[.slice A n c, .int .u32 (x : Int)] w fun e w' => Ex fun v => e = .returned v ∧ w'.ownsRow w.heap.size 5 1 v (n + 4) (bvs (l ++ be4 x)) ∧ Only [] w w' := by
  obtain ⟨h, hh⟩ : ∃ h, h = w.heap.size := ⟨_, rfl⟩
  have h4 : Blk (w.alloc (.cells #[.int .u8 ((x : Int) / 16777216), .int .u8 ((x : Int) / 65536 % 256), .int .u8 ((x : Int) / 256 % 256), .int .u8 ((x : Int) % 256)] 5)) h 5 (bvs (be4 x)) := by
    refine Blk.new' _ _ _ hh.symm ?_
    simp [bvs, bv, be4]
    omega
  obtain ⟨cap, w2, hap, hown, hO⟩ := run_append_new (P := Try.prog) (w := w.alloc (.cells #[.int .u8 ((x : Int) / 16777216), .int .u8 ((x : Int) / 65536 % 256), .int .u8 ((x : Int) / 256 % 256), .int .u8 ((x : Int) % 256)] 5)) 26 26 5 (.int .u8 0) 1 1 Try.underlying26 byteInfo' rfl (by omega)
    (hs.alloc _) (c := n) (m := 4) (by omega) (fun hA => by
      rcases Nat.eq_zero_or_pos n with h0 | h0
      · exact h0
      · obtain ⟨ad, e, _⟩ := hs.2 h0
        rw [hA] at e; cases e) 4 (Rd.whole h4 (n := 4) (by simp [bvs, be4])) (by omega) (by omega) (by simp only [maxLen]; omega)
  rw [bvs_append] at hown
  have hOw : Only [] w w2 := ((Only.refl [] w).alloc _).trans hO
  have hown' : w2.ownsRow w.heap.size 5 1 _ (n + 4) (bvs (l ++ be4 x)) := own_base hown (by simp)
  simp only [World.size_alloc] at hap hown'
  rw [hh] at hap
  have Hap := Lib.hid hap
  clear hO h4 hown hh hs hap
  go_enter Try.func30, Try.ntmps30
  go_wp2_with ((at_builtin; refine wpList_append_run (o := ⟨some 23, _, _, _, _, _⟩) (by rfl) (.tmp 10) (.tmp 22) 26 26 (by rfl) (by rfl) (by rfl) Hap.out ?_))
  go_ret
  exact Ex.of _ ⟨rfl, hown', hOw⟩

def putText (l : List UInt8) (s : ByteArray) : List UInt8 := l ++ be4 s.size ++ s.data.toList
set_option maxRecDepth 100000 in
set_option maxHeartbeats 1000000 in
theorem putText_any (A : Option Addr) (n c : Nat) (l : List UInt8) (s : ByteArray) (w : World) (hs : Rd w w.heap.size 1 A n (bvs l)) (hn : n ≤ 70368744177664) (hx : s.size < 4294967296) (hnc : n ≤ c) :
    Calls Try.prog 31 #[.slice A n c, .string s] w fun e w' => Ex fun v => e = .returned v ∧ w'.ownsRow w.heap.size 5 1 v (n + 4 + s.size) (bvs (putText l s)) ∧ Only [] w w' := by
  go_enter Try.func31, Try.ntmps31
  go_wp2_with (fail)
  refine (put_any A n c s.size l _ hs (by omega) hx hnc).mono ?_
  rintro e w1 ⟨v, rfl, hown, hO⟩
  obtain ⟨v2, w2, hrun, hown2, hO2, _⟩ := run_append_row_str (P := Try.prog) w.heap.size 26 9 26 5 Try.underlying26 Try.underlying9 byteInfo' hown s (by omega) hO.size
  have Hrun := Lib.hid hrun
  clear hrun
  go_wp2_with ((at_builtin; refine wpList_append_run (o := ⟨some 11, _, _, _, _, _⟩) (by rfl) (.tmp 9) (.tmp 10) 26 9 (by rfl) (by rfl) (by rfl) Hrun.out ?_))
  go_ret
  refine Ex.of _ ⟨rfl, hown2, hO.trans' hO2 ?_⟩
  intro k hk
  exact .inr (own_lt hown (by simpa using hk)).1

set_option maxRecDepth 100000 in
set_option maxHeartbeats 1000000 in
theorem refPut_any (A : Option Addr) (n c x : Nat) (l : List UInt8) (w : World) (hs : Rd w w.heap.size 1 A n (bvs l)) (hn : n ≤ 140737488351232) (hx : x < 4294967296) (hnc : n ≤ c) :
    Calls Try.prog 33 #[.slice A n c, .int .u32 (x : Int)] w fun e w' => Ex fun v => e = .returned v ∧ w'.ownsRow w.heap.size 5 1 v (n + 4) (bvs (l ++ be4 x)) ∧ Only [] w w' := by
  obtain ⟨v1, w1, hr1, hown1, hO1, _, _⟩ := run_append_row (P := Try.prog) (w := w.alloc (.cells #[] 5)) w.heap.size 26 26 5 (.int .u8 0) 1 1 Try.underlying26 byteInfo' rfl (by omega)
    (own_empty w w.heap.size 5 1 rfl (Nat.le_refl _)) c (hs.alloc _) (bvs_one _) (by simp only [maxLen]; omega) (by omega) (by simp)
  simp only [Nat.zero_add, List.nil_append] at hown1
  have hOw1 : Only [] w w1 := ((Only.refl [] w).alloc _).trans' hO1 (by intro k hk; simp [Value.ownBlock] at hk; omega)
  have h4 : Blk (w1.alloc (.cells #[.int .u8 ((x : Int) / 16777216), .int .u8 ((x : Int) / 65536 % 256), .int .u8 ((x : Int) / 256 % 256), .int .u8 ((x : Int) % 256)] 5)) w1.heap.size 5 (bvs (be4 x)) := by
    refine Blk.new' _ _ _ rfl ?_
    simp [bvs, bv, be4]
    omega
  obtain ⟨v2, w2, hr2, hown2, hO2, _, _⟩ := run_append_row (P := Try.prog) w.heap.size 26 26 5 (.int .u8 0) 1 1 Try.underlying26 byteInfo' rfl (by omega)
    (hown1.alloc _) 4 (Rd.whole h4 (n := 4) (by simp [bvs, be4])) (bvs_one _) (by simp only [maxLen]; omega) (by omega) (by have := hOw1.size; simp; omega)
  rw [bvs_append] at hown2
  have hOw2 : Only [] w w2 := (hOw1.alloc _).trans' hO2 (by intro k hk; exact .inr (own_lt hown1 (by simpa using hk)).1)
  have Hr1 := Lib.hid hr1
  have Hr2 := Lib.hid hr2
  clear hr1 hr2 h4 hown1 hO1 hO2 hs
  go_enter Try.func33, Try.ntmps33
  go_wp2_with (first
    | (at_builtin; refine wpList_append_run (o := ⟨some 7, _, _, _, _, _⟩) (by rfl) (.tmp 5) (.tmp 6) 26 26 (by rfl) (by rfl) (by rfl) Hr1.out ?_)
    | (at_builtin; refine wpList_append_run (o := ⟨some 20, _, _, _, _, _⟩) (by rfl) (.tmp 7) (.tmp 19) 26 26 (by rfl) (by rfl) (by rfl) Hr2.out ?_))
  go_ret
  exact Ex.of _ ⟨rfl, hown2, hOw2⟩

set_option maxRecDepth 100000 in
set_option maxHeartbeats 1000000 in
theorem refPutText_any (A : Option Addr) (n c : Nat) (l : List UInt8) (s : ByteArray) (w : World) (hs : Rd w w.heap.size 1 A n (bvs l)) (hn : n ≤ 70368744177664) (hx : s.size < 4294967296) (hnc : n ≤ c) :
    Calls Try.prog 34 #[.slice A n c, .string s] w fun e w' => Ex fun v => e = .returned v ∧ w'.ownsRow w.heap.size 5 1 v (n + 4 + s.size) (bvs (putText l s)) ∧ Only [] w w' := by
  go_enter Try.func34, Try.ntmps34
  go_wp2_with (fail)
  refine (refPut_any A n c s.size l _ hs (by omega) hx hnc).mono ?_
  rintro e w1 ⟨v, rfl, hown, hO⟩
  obtain ⟨v2, w2, hrun, hown2, hO2, _⟩ := run_append_row_str (P := Try.prog) w.heap.size 26 9 26 5 Try.underlying26 Try.underlying9 byteInfo' hown s (by omega) hO.size
  have Hrun := Lib.hid hrun
  clear hrun
  go_wp2_with ((at_builtin; refine wpList_append_run (o := ⟨some 11, _, _, _, _, _⟩) (by rfl) (.tmp 9) (.tmp 10) 26 9 (by rfl) (by rfl) (by rfl) Hrun.out ?_))
  go_ret
  refine Ex.of _ ⟨rfl, hown2, hO.trans' hO2 ?_⟩
  intro k hk
  exact .inr (own_lt hown (by simpa using hk)).1
end Go.Proofs.Ytjjfnepmnjjemaa
