/- Contracts of tesserabook's Same, Roomy, Intact over ints. -/
import Derived.Test.YtemnanhoiacphaaDoorPk25
import Derived.Test.YtemnanhoiacphaaDoorSpBkK
set_option linter.unusedVariables false
set_option linter.unusedSimpArgs false
namespace Go.Proofs.YtemnanhoiacphaaDoor
open Go.RowKit

def nms (l : List Int) : List Value := l.map (Value.int .i64)
theorem nms_length (l : List Int) : (nms l).length = l.length := by simp [nms]
theorem nms_one (l : List Int) : ∀ u ∈ nms l, u.oneCell' = true := by
  intro u hu
  simp only [nms, List.mem_map] at hu
  obtain ⟨p, _, rfl⟩ := hu; rfl
theorem nms_get {l : List Int} {i : Nat} {s : Int} (h : l[i]? = some s) : (nms l)[i]? = some (.int .i64 s) := by simp [nms, h]
theorem Rd.nm {w : World} {B n : Nat} {A : Option Addr} {l : List Int} (h : Rd w B 1 A n (nms l)) {i : Nat} {s : Int} (hp : l[i]? = some s) : ∃ g o, A = some ⟨g, o, none⟩ ∧ i < n ∧ w.cell? ⟨g, o + i, none⟩ = some (.int .i64 s) := by
  have hi : i < n := by
    have h1 := h.1
    rw [nms_length, Nat.mul_one] at h1
    have := (List.getElem?_eq_some_iff.1 hp).1
    omega
  obtain ⟨g, o, u, e, _, hu, hc⟩ := h.at1 hi
  refine ⟨g, o, e, hi, ?_⟩
  rw [nms, List.getElem?_map, hp, Option.map_some] at hu
  injection hu with hu
  rw [hu]; exact hc
theorem nms_append (a b : List Int) : nms (a ++ b) = nms a ++ nms b := by simp [nms]
theorem nms_take (l : List Int) (k : Nat) : (nms l).take k = nms (l.take k) := by simp [nms, List.map_take]
theorem nms_drop (l : List Int) (k : Nat) : (nms l).drop k = nms (l.drop k) := by simp [nms, List.map_drop]
theorem nms_replicate (n : Nat) : nms (List.replicate n 0) = rep n [.int .i64 0] := by
  induction n with
  | zero => rfl
  | succ n ih => rw [List.replicate_succ, rep_succ, ← ih]; simp [nms]
theorem nms_set (l : List Int) (k : Nat) (p : Int) : (nms l).set k (.int .i64 p) = nms (l.set k p) := by simp [nms, List.map_set]

set_option maxRecDepth 100000 in
set_option maxHeartbeats 1000000 in
theorem sameI_any (A C : Option Addr) (n c m d B B' : Nat) (x : List Int) (w : World) (hx : Rd w B 1 A n (nms x)) (hy : Rd w B' 1 C n (nms x)) (hxl : x.length = n) (hn : n ≤ 17592186043904) :
    Calls Tryd.prog 53 #[.slice A n c, .slice C n d] w fun e w' => e = .returned (.bool true) ∧ ∃ k, w' = w.drewN k := by
  have Hxl := Lib.hid hxl
  clear hxl
  go_enter Tryd.func53, Tryd.ntmps53
  go_wp2_with (fail)
  go_loopw [5] (fun i wr => ∃ k : Nat, k ≤ n ∧ i = .int .i64 (k : Int) ∧ ∃ j, wr = w.drewN j) (fun i _ => n - (intOf i).toNat)
  case atStart => exact ⟨0, by omega, rfl, 0, rfl⟩
  case round =>
    obtain ⟨k, hk, rfl, j, hw⟩ := hrel
    have Hw := Lib.hid hw
    clear hw
    by_cases hlt : k < n
    · obtain ⟨p, hp⟩ : ∃ p, x[k]? = some p := ⟨_, List.getElem?_eq_getElem (by rw [Hxl.out]; exact hlt)⟩
      obtain ⟨g, o, rfl, _, c0⟩ := (show Rd wr B 1 A n (nms x) by rw [Hw.out]; exact hx).nm hp
      obtain ⟨g', o', rfl, _, d0⟩ := (show Rd wr B' 1 C n (nms x) by rw [Hw.out]; exact hy).nm hp
      clear hp
      go_wp2_with (fail)
      go_quiet (fail)
      go_wp2
      go_roundw
      case rel => exact ⟨k + 1, by omega, by go_num, _, by rw [Hw.out, World.drewN_drewN]⟩
      case measure => simp [intOf]; omega
    · obtain rfl : k = n := by omega
      go_wp2
      go_ret
      exact ⟨rfl, _, Hw.out⟩

/-- what Roomy lays down: the list, and 80 marks behind it -/
def roomyI (l : List Int) (m : Int) : List Int := l ++ List.replicate 80 m
theorem roomyI_set (l : List Int) (m : Int) (k : Nat) (h : k < 80) : (l ++ List.replicate k m ++ List.replicate (80 - k) (0 : Int)).set (l.length + k) m = l ++ List.replicate (k + 1) m ++ List.replicate (80 - (k + 1)) (0 : Int) := by
  have e : 80 - k = (80 - (k + 1)) + 1 := by omega
  rw [e, List.replicate_succ, List.set_append_right _ _ (by simp)]
  have e2 : l.length + k - (l ++ List.replicate k m).length = 0 := by simp
  rw [e2, List.set_cons_zero, List.replicate_succ', List.append_assoc, List.append_assoc, List.append_assoc]
  rfl

set_option maxRecDepth 100000 in
set_option maxHeartbeats 1000000 in
theorem roomyI_any (A : Option Addr) (n c B : Nat) (l : List Int) (m : Int) (w : World) (hs : Rd w B 1 A n (nms l)) (hln : l.length = n) (hn : n ≤ 8796093021952) :
    Calls Tryd.prog 27 #[.slice A n c, .int .i64 m] w fun e w' => ∃ g, e = .returned (.slice (some ⟨g, 0, none⟩) (n + 80) (n + 80)) ∧ w.heap.size ≤ g ∧ Blk w' g 3 (nms (roomyI l m)) ∧ Only [] w w' := by
  obtain ⟨h, hh⟩ : ∃ h, h = w.heap.size := ⟨_, rfl⟩
  have hmk : ∀ W, (Instr.makeSlice 27 (.int .i64 ((n : Int) + 80)) (.int .i64 ((n : Int) + 80))).run Tryd.prog W = _ := fun W =>
    run_make_rep (P := Tryd.prog) 27 3 (.int .i64 0) 1 8 Tryd.underlying27 (by kernel_rfl) rfl (by omega) .i64 .i64 (n + 80) (n + 80) (Nat.le_refl _) (by omega) (by omega) W
  have Hln := Lib.hid hln
  clear hln
  go_enter Tryd.func27, Tryd.ntmps27
  go_upto_region 2 with (fail)
  rw [← hh]
  refine name_it (p := fun y => Code.wp _ _ _ _ y) ?_
  intro w1 Hw1
  have hb1 : Blk w1 h 3 (nms (List.replicate (n + 80) (0 : Int))) := by rw [Hw1.out]; exact Blk.new' _ _ _ hh.symm (by rw [nms_replicate])
  have hO1 : Only [] w w1 := by rw [Hw1.out]; exact (Only.refl _ _).alloc _
  have hs1 : Rd w1 B 1 A n (nms l) := hs.only hO1 (by simp)
  have hle : w.heap.size ≤ h := by omega
  have hln := Hln.out
  have hcp := run_copy_layN (P := Tryd.prog) w1 27 27 3 3 1 Tryd.underlying27 (by kernel_rfl) (some ⟨h, 0, none⟩) A (n + 80) (n + 80) n c h 0 _ 3 hb1 n (nms l) (by omega) (fun _ => rfl) B hs1
    (by rw [nms_length, List.length_replicate]; omega) (nms_one _)
  obtain ⟨w2, hw2⟩ : ∃ w2, w2 = w1.setRow h (lay (nms (List.replicate (n + 80) (0 : Int))) 0 (nms l)).toArray := ⟨_, rfl⟩
  rw [← hw2] at hcp
  have hb2 : Blk w2 h 3 (nms (l ++ List.replicate 0 m ++ List.replicate (80 - 0) (0 : Int))) := by
    rw [hw2]
    have e : lay (nms (List.replicate (n + 80) (0 : Int))) 0 (nms l) = nms (l ++ List.replicate 0 m ++ List.replicate (80 - 0) (0 : Int)) := by
      unfold lay
      rw [List.take_zero, List.nil_append, Nat.zero_add, nms_length, nms_drop, ← nms_append]
      congr 1
      simp [hln]
    rw [e]
    exact hb1.setRow _
  have hO2 : Only [] w w2 := by rw [hw2]; exact hO1.setRow (.inr hle) _
  clear hw2 hb1 hs1 hs hmk hln hO1 Hw1
  have Hh := Lib.hid hh
  clear hh
  go_wp2_with (fail)
  clear hcp
  go_loopw [6] (fun i wr => ∃ k : Nat, k ≤ 80 ∧ i = .int .i64 ((n + k : Nat) : Int) ∧ Blk wr h 3 (nms (l ++ List.replicate k m ++ List.replicate (80 - k) (0 : Int))) ∧ Only [] w wr) (fun i _ => n + 80 - (intOf i).toNat)
  case atStart => exact ⟨0, by omega, rfl, hb2, hO2⟩
  case round =>
    clear hb2 hO2
    obtain ⟨k, hk, rfl, hb, hO⟩ := hrel
    by_cases hlt : k < 80
    · obtain ⟨j, hj⟩ : ∃ j, j = n + k := ⟨_, rfl⟩
      have hjn : j < n + 80 := by omega
      have hln := Hln.out
      have hz : (l ++ List.replicate k m ++ List.replicate (80 - k) (0 : Int))[j]? = some (0 : Int) := by
        rw [List.getElem?_append_right (by simp; omega), List.getElem?_replicate, if_pos (by simp; omega)]
      have hg := nms_get hz
      have c0 : wr.cell? ⟨h, j, none⟩ = some (.int .i64 0) := by rw [hb.cell]; exact hg
      have f0 : wr.frozen? ⟨h, j, none⟩ = false := hb.frozen _
      rw [← hj]
      have Hj := Lib.hid hj
      clear hj hlt hz hg
      have hlt : (j : Int) < (n : Int) + 80 := by omega
      clear hln
      go_wp2
      have hj := Hj.out
      go_roundw
      case rel =>
        have hln := Hln.out
        refine ⟨k + 1, by omega, by go_num, ?_, hO.setCell (.inr hle) _⟩
        have e := roomyI_set l m k (by omega)
        rw [← e]
        have h2 := hb.set j (.int .i64 m)
        rw [nms_set _ _ _] at h2
        rw [hj, ← hln] at h2 ⊢
        exact h2
      case measure => simp [intOf]; omega
    · obtain rfl : k = 80 := by omega
      go_wp2
      go_ret
      exact ⟨h, rfl, hle, by simpa [roomyI] using hb, hO⟩

set_option maxRecDepth 100000 in
set_option maxHeartbeats 1000000 in
theorem intactI_any (A C : Option Addr) (n c d B B' : Nat) (l : List Int) (m : Int) (w : World) (hx : Rd w B 1 A (n + 80) (nms (roomyI l m))) (hy : Rd w B' 1 C n (nms l)) (hln : l.length = n) (hn : n ≤ 8796093021952) (hc : n ≤ c) :
    Calls Tryd.prog 28 #[.slice A (n + 80) c, .slice C n d, .int .i64 m] w fun e w' => e = .returned (.bool true) ∧ Only [] w w' := by
  have Hln := Lib.hid hln
  have hx' : Rd w B 1 A n (nms l) := by
    have h := hx.take (k := n) (by omega)
    rw [Nat.mul_one, nms_take] at h
    have e : (roomyI l m).take n = l := by unfold roomyI; rw [List.take_append_of_le_length (by omega), List.take_of_length_le (by omega)]
    rwa [e] at h
  clear hln
  go_enter Tryd.func28, Tryd.ntmps28
  go_wp2_with (fail)
  refine (sameI_any A C n c n d B B' l w hx' hy Hln.out (by omega)).mono ?_ 
  rintro e w1 ⟨rfl, hk1⟩
  have hO1 : Only [] w w1 := by obtain ⟨k1, rfl⟩ := hk1; exact (Only.refl _ _).drewN _
  clear hk1 hx' hy
  replace hx := hx.only hO1 (by simp)
  go_wp2_with (fail)
  go_loopw [7] (fun i wr => ∃ k : Nat, k ≤ 80 ∧ i = .int .i64 ((n + k : Nat) : Int) ∧ Only [] w1 wr) (fun i _ => n + 80 - (intOf i).toNat)
  case atStart => exact ⟨0, by omega, rfl, .refl _ _⟩
  case round =>
    obtain ⟨k, hk, rfl, hw⟩ := hrel
    by_cases hlt : k < 80
    · obtain ⟨j, hj⟩ : ∃ j, j = n + k := ⟨_, rfl⟩
      have hjn : j < n + 80 := by omega
      have hln := Hln.out
      have hz : (roomyI l m)[j]? = some m := by
        unfold roomyI
        rw [List.getElem?_append_right (by omega), List.getElem?_replicate, if_pos (by omega)]
      obtain ⟨g, o, rfl, _, c0⟩ := (hx.only hw (by simp)).nm hz
      rw [← hj]
      have Hj := Lib.hid hj
      clear hj hlt hln hz
      have hlt : (j : Int) < (n : Int) + 80 := by omega
      go_wp2_with (fail)
      go_wp2
      have hj := Hj.out
      go_roundw
      case rel => exact ⟨k + 1, by omega, by go_num, hw⟩
      case measure => simp [intOf]; omega
    · obtain rfl : k = 80 := by omega
      clear hx
      go_wp2
      go_ret
      exact ⟨rfl, hO1.trans hw⟩
theorem rd_roomyI {w1 : World} {h n : Nat} {l : List Int} {m : Int} {t : TypeId} (hb1 : Blk w1 h t (nms (roomyI l m))) (hl : l.length = n) :
    Rd w1 w1.heap.size 1 (some ⟨h, 0, none⟩) (n + 80) (nms (roomyI l m)) ∧ Rd w1 w1.heap.size 1 (some ⟨h, 0, none⟩) n (nms l) := by
  have hf : Rd w1 w1.heap.size 1 (some ⟨h, 0, none⟩) (n + 80) (nms (roomyI l m)) := (Rd.whole hb1 (by rw [nms_length, roomyI, List.length_append, List.length_replicate, hl, Nat.mul_one])).more hb1.lt
  refine ⟨hf, ?_⟩
  have h1 := hf.take (k := n) (by omega)
  rw [Nat.mul_one, nms_take] at h1
  have e : (roomyI l m).take n = l := by unfold roomyI; rw [List.take_append_of_le_length (by omega), List.take_of_length_le (by omega)]
  rwa [e] at h1
end Go.Proofs.YtemnanhoiacphaaDoor
