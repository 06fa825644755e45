/- Contracts of tesserabook's Same, Roomy, Intact over strings. -/
import Derived.Test.YtfnhdkabfkjodaaMd0
import Derived.Test.YtfnhdkabfkjodaaSpBk
set_option linter.unusedVariables false
set_option linter.unusedSimpArgs false
namespace Go.Proofs.Ytfnhdkabfkjodaa
open Go.RowKit

theorem wds_append (a b : List ByteArray) : wds (a ++ b) = wds a ++ wds b := by simp [wds]
theorem wds_take (l : List ByteArray) (k : Nat) : (wds l).take k = wds (l.take k) := by simp [wds, List.map_take]
theorem wds_drop (l : List ByteArray) (k : Nat) : (wds l).drop k = wds (l.drop k) := by simp [wds, List.map_drop]
theorem wds_replicate (n : Nat) : wds (List.replicate n .empty) = rep n [.string .empty] := by
  induction n with
  | zero => rfl
  | succ n ih => rw [List.replicate_succ, rep_succ, ← ih]; simp [wds]
theorem wds_set (l : List ByteArray) (k : Nat) (p : ByteArray) : (wds l).set k (.string p) = wds (l.set k p) := by simp [wds, List.map_set]

set_option maxRecDepth 100000 in
set_option maxHeartbeats 1000000 in
theorem sameW_any (A C : Option Addr) (n c m d B B' : Nat) (x : List ByteArray) (w : World) (hx : Rd w B 1 A n (wds x)) (hy : Rd w B' 1 C n (wds x)) (hxl : x.length = n) (hn : n ≤ 17592186043904) :
    Calls Try.prog 50 #[.slice A n c, .slice C n d] w fun e w' => e = .returned (.bool true) ∧ ∃ k, w' = w.drewN k := by
  have Hxl := Lib.hid hxl
  clear hxl
  go_enter Try.func50, Try.ntmps50
  go_wp2_with (fail)
  go_loopw [5] (fun i wr => ∃ k : Nat, k ≤ n ∧ i = .int .i64 (k : Int) ∧ ∃ j, wr = w.drewN j) (fun i _ => n - (intOf i).toNat)
  case atStart => exact ⟨0, by omega, rfl, 0, rfl⟩
  case round =>
    obtain ⟨k, hk, rfl, j, hw⟩ := hrel
    have Hw := Lib.hid hw
    clear hw
    by_cases hlt : k < n
    · obtain ⟨p, hp⟩ : ∃ p, x[k]? = some p := ⟨_, List.getElem?_eq_getElem (by rw [Hxl.out]; exact hlt)⟩
      obtain ⟨g, o, rfl, _, c0⟩ := (show Rd wr B 1 A n (wds x) by rw [Hw.out]; exact hx).wd hp
      have hse : (p.toList == p.toList) = true := beq_self_eq_true _
      obtain ⟨g', o', rfl, _, d0⟩ := (show Rd wr B' 1 C n (wds x) by rw [Hw.out]; exact hy).wd hp
      clear hp
      go_wp2_with (fail)
      go_quiet (fail)
      go_wp2
      go_roundw
      case rel => exact ⟨k + 1, by omega, by go_num, _, by rw [Hw.out, World.drewN_drewN]⟩
      case measure => simp [intOf]; omega
    · obtain rfl : k = n := by omega
      go_wp2
      go_ret
      exact ⟨rfl, _, Hw.out⟩

/-- what Roomy lays down: the list, and 80 marks behind it -/
def roomyW (l : List ByteArray) (m : ByteArray) : List ByteArray := l ++ List.replicate 80 m
theorem roomyW_set (l : List ByteArray) (m : ByteArray) (k : Nat) (h : k < 80) : (l ++ List.replicate k m ++ List.replicate (80 - k) ByteArray.empty).set (l.length + k) m = l ++ List.replicate (k + 1) m ++ List.replicate (80 - (k + 1)) ByteArray.empty := by
  have e : 80 - k = (80 - (k + 1)) + 1 := by omega
  rw [e, List.replicate_succ, List.set_append_right _ _ (by simp)]
  have e2 : l.length + k - (l ++ List.replicate k m).length = 0 := by simp
  rw [e2, List.set_cons_zero, List.replicate_succ', List.append_assoc, List.append_assoc, List.append_assoc]
  rfl

set_option maxRecDepth 100000 in
set_option maxHeartbeats 1000000 in
theorem roomyW_any (A : Option Addr) (n c B : Nat) (l : List ByteArray) (m : ByteArray) (w : World) (hs : Rd w B 1 A n (wds l)) (hln : l.length = n) (hn : n ≤ 8796093021952) :
    Calls Try.prog 38 #[.slice A n c, .string m] w fun e w' => ∃ g, e = .returned (.slice (some ⟨g, 0, none⟩) (n + 80) (n + 80)) ∧ w.heap.size ≤ g ∧ Blk w' g 9 (wds (roomyW l m)) ∧ Only [] w w' := by
  obtain ⟨h, hh⟩ : ∃ h, h = w.heap.size := ⟨_, rfl⟩
  have hmk : ∀ W, (Instr.makeSlice 22 (.int .i64 ((n : Int) + 80)) (.int .i64 ((n : Int) + 80))).run Try.prog W = _ := fun W =>
    run_make_rep (P := Try.prog) 22 9 (.string .empty) 1 16 Try.underlying22 (by kernel_rfl) rfl (by omega) .i64 .i64 (n + 80) (n + 80) (Nat.le_refl _) (by omega) (by omega) W
  have Hln := Lib.hid hln
  clear hln
  go_enter Try.func38, Try.ntmps38
  go_upto_region 2 with (fail)
  rw [← hh]
  refine name_it (p := fun y => Code.wp _ _ _ _ y) ?_
  intro w1 Hw1
  have hb1 : Blk w1 h 9 (wds (List.replicate (n + 80) ByteArray.empty)) := by rw [Hw1.out]; exact Blk.new' _ _ _ hh.symm (by rw [wds_replicate])
  have hO1 : Only [] w w1 := by rw [Hw1.out]; exact (Only.refl _ _).alloc _
  have hs1 : Rd w1 B 1 A n (wds l) := hs.only hO1 (by simp)
  have hle : w.heap.size ≤ h := by omega
  have hln := Hln.out
  have hcp := run_copy_layN (P := Try.prog) w1 22 22 3 9 1 Try.underlying22 (by kernel_rfl) (some ⟨h, 0, none⟩) A (n + 80) (n + 80) n c h 0 _ 9 hb1 n (wds l) (by omega) (fun _ => rfl) B hs1
    (by rw [wds_length, List.length_replicate]; omega) (wds_one _)
  obtain ⟨w2, hw2⟩ : ∃ w2, w2 = w1.setRow h (lay (wds (List.replicate (n + 80) ByteArray.empty)) 0 (wds l)).toArray := ⟨_, rfl⟩
  rw [← hw2] at hcp
  have hb2 : Blk w2 h 9 (wds (l ++ List.replicate 0 m ++ List.replicate (80 - 0) ByteArray.empty)) := by
    rw [hw2]
    have e : lay (wds (List.replicate (n + 80) ByteArray.empty)) 0 (wds l) = wds (l ++ List.replicate 0 m ++ List.replicate (80 - 0) ByteArray.empty) := by
      unfold lay
      rw [List.take_zero, List.nil_append, Nat.zero_add, wds_length, wds_drop, ← wds_append]
      congr 1
      simp [hln]
    rw [e]
    exact hb1.setRow _
  have hO2 : Only [] w w2 := by rw [hw2]; exact hO1.setRow (.inr hle) _
  clear hw2 hb1 hs1 hs hmk hln hO1 Hw1
  have Hh := Lib.hid hh
  clear hh
  go_wp2_with (fail)
  clear hcp
  go_loopw [6] (fun i wr => ∃ k : Nat, k ≤ 80 ∧ i = .int .i64 ((n + k : Nat) : Int) ∧ Blk wr h 9 (wds (l ++ List.replicate k m ++ List.replicate (80 - k) ByteArray.empty)) ∧ Only [] w wr) (fun i _ => n + 80 - (intOf i).toNat)
  case atStart => exact ⟨0, by omega, rfl, hb2, hO2⟩
  case round =>
    clear hb2 hO2
    obtain ⟨k, hk, rfl, hb, hO⟩ := hrel
    by_cases hlt : k < 80
    · obtain ⟨j, hj⟩ : ∃ j, j = n + k := ⟨_, rfl⟩
      have hjn : j < n + 80 := by omega
      have hln := Hln.out
      have hz : (l ++ List.replicate k m ++ List.replicate (80 - k) ByteArray.empty)[j]? = some .empty := by
        rw [List.getElem?_append_right (by simp; omega), List.getElem?_replicate, if_pos (by simp; omega)]
      have hg := wds_get hz
      have c0 : wr.cell? ⟨h, j, none⟩ = some (.string .empty) := by rw [hb.cell]; exact hg
      have f0 : wr.frozen? ⟨h, j, none⟩ = false := hb.frozen _
      rw [← hj]
      have Hj := Lib.hid hj
      clear hj hlt hz hg
      have hlt : (j : Int) < (n : Int) + 80 := by omega
      clear hln
      go_wp2
      have hj := Hj.out
      go_roundw
      case rel =>
        have hln := Hln.out
        refine ⟨k + 1, by omega, by go_num, ?_, hO.setCell (.inr hle) _⟩
        have e := roomyW_set l m k (by omega)
        rw [← e]
        have h2 := hb.set j (.string m)
        rw [wds_set _ _ _] at h2
        rw [hj, ← hln] at h2 ⊢
        exact h2
      case measure => simp [intOf]; omega
    · obtain rfl : k = 80 := by omega
      go_wp2
      go_ret
      exact ⟨h, rfl, hle, by simpa [roomyW] using hb, hO⟩

set_option maxRecDepth 100000 in
set_option maxHeartbeats 1000000 in
theorem intactW_any (A C : Option Addr) (n c d B B' : Nat) (l : List ByteArray) (m : ByteArray) (w : World) (hx : Rd w B 1 A (n + 80) (wds (roomyW l m))) (hy : Rd w B' 1 C n (wds l)) (hln : l.length = n) (hn : n ≤ 8796093021952) (hc : n ≤ c) :
    Calls Try.prog 42 #[.slice A (n + 80) c, .slice C n d, .string m] w fun e w' => e = .returned (.bool true) ∧ Only [] w w' := by
  have Hln := Lib.hid hln
  have hx' : Rd w B 1 A n (wds l) := by
    have h := hx.take (k := n) (by omega)
    rw [Nat.mul_one, wds_take] at h
    have e : (roomyW l m).take n = l := by unfold roomyW; rw [List.take_append_of_le_length (by omega), List.take_of_length_le (by omega)]
    rwa [e] at h
  clear hln
  go_enter Try.func42, Try.ntmps42
  go_wp2_with (fail)
  refine (sameW_any A C n c n d B B' l w hx' hy Hln.out (by omega)).mono ?_ 
  rintro e w1 ⟨rfl, hk1⟩
  have hO1 : Only [] w w1 := by obtain ⟨k1, rfl⟩ := hk1; exact (Only.refl _ _).drewN _
  clear hk1 hx' hy
  replace hx := hx.only hO1 (by simp)
  go_wp2_with (fail)
  go_loopw [7] (fun i wr => ∃ k : Nat, k ≤ 80 ∧ i = .int .i64 ((n + k : Nat) : Int) ∧ Only [] w1 wr) (fun i _ => n + 80 - (intOf i).toNat)
  case atStart => exact ⟨0, by omega, rfl, .refl _ _⟩
  case round =>
    obtain ⟨k, hk, rfl, hw⟩ := hrel
    by_cases hlt : k < 80
    · obtain ⟨j, hj⟩ : ∃ j, j = n + k := ⟨_, rfl⟩
      have hjn : j < n + 80 := by omega
      have hln := Hln.out
      have hz : (roomyW l m)[j]? = some m := by
        unfold roomyW
        rw [List.getElem?_append_right (by omega), List.getElem?_replicate, if_pos (by omega)]
      obtain ⟨g, o, rfl, _, c0⟩ := (hx.only hw (by simp)).wd hz
      have hse : (m.toList == m.toList) = true := beq_self_eq_true _
      rw [← hj]
      have Hj := Lib.hid hj
      clear hj hlt hln hz
      have hlt : (j : Int) < (n : Int) + 80 := by omega
      go_wp2_with (fail)
      go_wp2
      have hj := Hj.out
      go_roundw
      case rel => exact ⟨k + 1, by omega, by go_num, hw⟩
      case measure => simp [intOf]; omega
    · obtain rfl : k = 80 := by omega
      clear hx
      go_wp2
      go_ret
      exact ⟨rfl, hO1.trans hw⟩
theorem rd_roomyW {w1 : World} {h n : Nat} {l : List ByteArray} {m : ByteArray} {t : TypeId} (hb1 : Blk w1 h t (wds (roomyW l m))) (hl : l.length = n) :
    Rd w1 w1.heap.size 1 (some ⟨h, 0, none⟩) (n + 80) (wds (roomyW l m)) ∧ Rd w1 w1.heap.size 1 (some ⟨h, 0, none⟩) n (wds l) := by
  have hf : Rd w1 w1.heap.size 1 (some ⟨h, 0, none⟩) (n + 80) (wds (roomyW l m)) := (Rd.whole hb1 (by rw [wds_length, roomyW, List.length_append, List.length_replicate, hl, Nat.mul_one])).more hb1.lt
  refine ⟨hf, ?_⟩
  have h1 := hf.take (k := n) (by omega)
  rw [Nat.mul_one, wds_take] at h1
  have e : (roomyW l m).take n = l := by unfold roomyW; rw [List.take_append_of_le_length (by omega), List.take_of_length_le (by omega)]
  rwa [e] at h1
end Go.Proofs.Ytfnhdkabfkjodaa
