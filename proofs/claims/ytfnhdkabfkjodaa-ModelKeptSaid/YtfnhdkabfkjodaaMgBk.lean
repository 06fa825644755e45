/- Contracts of tesserabook's Same, Roomy, Intact over merges. -/
import Derived.Test.YtfnhdkabfkjodaaMd0
import Derived.Test.YtfnhdkabfkjodaaSpBk
set_option linter.unusedVariables false
set_option linter.unusedSimpArgs false
namespace Go.Proofs.Ytfnhdkabfkjodaa
open Go.RowKit

theorem mgs_append (a b : List Mg) : mgs (a ++ b) = mgs a ++ mgs b := by simp [mgs]
theorem mgs_cons (p : Mg) (l : List Mg) : mgs (p :: l) = .int .i64 p.l :: .int .i64 p.r :: .int .i64 p.id :: mgs l := by simp [mgs, Mg.enc]
theorem mgs_take (l : List Mg) (k : Nat) : (mgs l).take (k * 3) = mgs (l.take k) := by
  induction l generalizing k with
  | nil => simp [mgs]
  | cons p l ih =>
    cases k with
    | zero => simp [mgs]
    | succ k =>
      rw [Nat.succ_mul, List.take_succ_cons, mgs_cons, mgs_cons, ← ih k]
      rfl
theorem mgs_drop (l : List Mg) (k : Nat) : (mgs l).drop (k * 3) = mgs (l.drop k) := by
  induction l generalizing k with
  | nil => simp [mgs]
  | cons p l ih =>
    cases k with
    | zero => simp
    | succ k =>
      rw [Nat.succ_mul, List.drop_succ_cons, mgs_cons, ← ih k]
      rfl
theorem mgs_replicate (n : Nat) : mgs (List.replicate n ⟨0, 0, 0⟩) = rep n [.int .i64 0, .int .i64 0, .int .i64 0] := by
  induction n with
  | zero => rfl
  | succ n ih => rw [List.replicate_succ, rep_succ, ← ih, mgs_cons]; rfl
theorem mgs_set (l : List Mg) (k : Nat) (p : Mg) (hk : k < l.length) : (((mgs l).set (k * 3) (.int .i64 p.l)).set (k * 3 + 1) (.int .i64 p.r)).set (k * 3 + 2) (.int .i64 p.id) = mgs (l.set k p) := by
  induction l generalizing k with
  | nil => simp at hk
  | cons q l ih =>
    cases k with
    | zero => rw [mgs_cons]; simp [mgs_cons]
    | succ k =>
      rw [mgs_cons, List.set_cons_succ, mgs_cons, ← ih k (by simpa using hk), Nat.succ_mul]
      rfl

set_option maxRecDepth 100000 in
set_option maxHeartbeats 1000000 in
theorem sameM_any (A C : Option Addr) (n c m d B B' : Nat) (x : List Mg) (w : World) (hx : Rd w B 3 A n (mgs x)) (hy : Rd w B' 3 C n (mgs x)) (hxl : x.length = n) (hn : n ≤ 17592186043904) :
    Calls Try.prog 51 #[.slice A n c, .slice C n d] w fun e w' => e = .returned (.bool true) ∧ ∃ k, w' = w.drewN k := by
  have Hxl := Lib.hid hxl
  clear hxl
  go_enter Try.func51, Try.ntmps51
  go_wp2_with (fail)
  go_loopw [5] (fun i wr => ∃ k : Nat, k ≤ n ∧ i = .int .i64 (k : Int) ∧ ∃ j, wr = w.drewN j) (fun i _ => n - (intOf i).toNat)
  case atStart => exact ⟨0, by omega, rfl, 0, rfl⟩
  case round =>
    obtain ⟨k, hk, rfl, j, hw⟩ := hrel
    have Hw := Lib.hid hw
    clear hw
    by_cases hlt : k < n
    · obtain ⟨p, hp⟩ : ∃ p, x[k]? = some p := ⟨_, List.getElem?_eq_getElem (by rw [Hxl.out]; exact hlt)⟩
      obtain ⟨g, o, rfl, _, c0, c1, c2⟩ := (show Rd wr B 3 A n (mgs x) by rw [Hw.out]; exact hx).mg hp
      obtain ⟨g', o', rfl, _, d0, d1, d2⟩ := (show Rd wr B' 3 C n (mgs x) by rw [Hw.out]; exact hy).mg hp
      clear hp
      go_wp2_with (fail)
      go_quiet (fail)
      go_wp2
      go_roundw
      case rel => exact ⟨k + 1, by omega, by go_num, _, by rw [Hw.out, World.drewN_drewN]⟩
      case measure => simp [intOf]; omega
    · obtain rfl : k = n := by omega
      go_wp2
      go_ret
      exact ⟨rfl, _, Hw.out⟩

/-- what Roomy lays down: the list, and 80 marks behind it -/
def roomyM (l : List Mg) (m : Mg) : List Mg := l ++ List.replicate 80 m
theorem roomyM_set (l : List Mg) (m : Mg) (k : Nat) (h : k < 80) : (l ++ List.replicate k m ++ List.replicate (80 - k) (⟨0, 0, 0⟩ : Mg)).set (l.length + k) m = l ++ List.replicate (k + 1) m ++ List.replicate (80 - (k + 1)) (⟨0, 0, 0⟩ : Mg) := by
  have e : 80 - k = (80 - (k + 1)) + 1 := by omega
  rw [e, List.replicate_succ, List.set_append_right _ _ (by simp)]
  have e2 : l.length + k - (l ++ List.replicate k m).length = 0 := by simp
  rw [e2, List.set_cons_zero, List.replicate_succ', List.append_assoc, List.append_assoc, List.append_assoc]
  rfl

set_option maxRecDepth 100000 in
set_option maxHeartbeats 1000000 in
theorem roomyM_any (A : Option Addr) (n c B : Nat) (l : List Mg) (m : Mg) (w : World) (hs : Rd w B 3 A n (mgs l)) (hln : l.length = n) (hn : n ≤ 5864062014634) :
    Calls Try.prog 39 #[.slice A n c, .agg #[.int .i64 m.l, .int .i64 m.r, .int .i64 m.id]] w fun e w' => ∃ g, e = .returned (.slice (some ⟨g, 0, none⟩) (n + 80) (n + 80)) ∧ w.heap.size ≤ g ∧ Blk w' g 38 (mgs (roomyM l m)) ∧ Only [] w w' := by
  obtain ⟨h0, hh0⟩ : ∃ h, h = w.heap.size := ⟨_, rfl⟩
  obtain ⟨h, hh⟩ : ∃ h, h = h0 + 1 := ⟨_, rfl⟩
  have hmk : ∀ W, (Instr.makeSlice 23 (.int .i64 ((n : Int) + 80)) (.int .i64 ((n : Int) + 80))).run Try.prog W = _ := fun W =>
    run_make_rep (P := Try.prog) 23 38 (.agg #[.int .i64 0, .int .i64 0, .int .i64 0]) 3 24 Try.underlying23 (by kernel_rfl) rfl (by omega) .i64 .i64 (n + 80) (n + 80) (Nat.le_refl _) (by omega) (by omega) W
  have Hln := Lib.hid hln
  clear hln
  go_enter Try.func39, Try.ntmps39
  go_upto_region 2 with (fail)
  rw [← hh0]
  rw [← hh]
  refine name_it (p := fun y => Code.wp _ _ _ _ y) ?_
  intro w1 Hw1
  have hb1 : Blk w1 h 38 (mgs (List.replicate (n + 80) (⟨0, 0, 0⟩ : Mg))) := by rw [Hw1.out]; exact Blk.new' _ _ _ (by simp; omega) (by rw [mgs_replicate])
  have hm1 : Blk w1 h0 38 [.int .i64 m.l, .int .i64 m.r, .int .i64 m.id] := by rw [Hw1.out]; exact (Blk.new' _ _ _ hh0.symm rfl).alloc _
  have hO1 : Only [] w w1 := by rw [Hw1.out]; exact ((Only.refl _ _).alloc _).alloc _
  have hs1 : Rd w1 B 3 A n (mgs l) := hs.only hO1 (by simp)
  have hle : w.heap.size ≤ h := by omega
  have hne : h0 ≠ h := by omega
  have hln := Hln.out
  have hcp := run_copy_layN (P := Try.prog) w1 23 23 3 38 3 Try.underlying23 (by kernel_rfl) (some ⟨h, 0, none⟩) A (n + 80) (n + 80) n c h 0 _ 38 hb1 n (mgs l) (by omega) (fun _ => rfl) B hs1
    (by rw [mgs_length, List.length_replicate]; omega) (mgs_one _)
  obtain ⟨w2, hw2⟩ : ∃ w2, w2 = w1.setRow h (lay (mgs (List.replicate (n + 80) (⟨0, 0, 0⟩ : Mg))) 0 (mgs l)).toArray := ⟨_, rfl⟩
  rw [← hw2] at hcp
  have hb2 : Blk w2 h 38 (mgs (l ++ List.replicate 0 m ++ List.replicate (80 - 0) (⟨0, 0, 0⟩ : Mg))) := by
    rw [hw2]
    have e : lay (mgs (List.replicate (n + 80) (⟨0, 0, 0⟩ : Mg))) 0 (mgs l) = mgs (l ++ List.replicate 0 m ++ List.replicate (80 - 0) (⟨0, 0, 0⟩ : Mg)) := by
      unfold lay
      rw [List.take_zero, List.nil_append, Nat.zero_add, mgs_length, mgs_drop, ← mgs_append]
      congr 1
      simp [hln]
    rw [e]
    exact hb1.setRow _
  have hm2 : Blk w2 h0 38 [.int .i64 m.l, .int .i64 m.r, .int .i64 m.id] := by rw [hw2]; exact hm1.setRow_far hne _
  have hO2 : Only [] w w2 := by rw [hw2]; exact hO1.setRow (.inr hle) _
  clear hw2 hb1 hs1 hs hmk hln hO1 Hw1 hm1
  have Hh0 := Lib.hid hh0
  have Hh := Lib.hid hh
  clear hh hh0
  go_wp2_with (fail)
  clear hcp
  go_loopw [6] (fun i wr => ∃ k : Nat, k ≤ 80 ∧ i = .int .i64 ((n + k : Nat) : Int) ∧ Blk wr h 38 (mgs (l ++ List.replicate k m ++ List.replicate (80 - k) (⟨0, 0, 0⟩ : Mg))) ∧ Blk wr h0 38 [.int .i64 m.l, .int .i64 m.r, .int .i64 m.id] ∧ Only [] w wr) (fun i _ => n + 80 - (intOf i).toNat)
  case atStart => exact ⟨0, by omega, rfl, hb2, hm2, hO2⟩
  case round =>
    clear hm2 hb2 hO2
    obtain ⟨k, hk, rfl, hb, hm, hO⟩ := hrel
    by_cases hlt : k < 80
    · obtain ⟨j, hj⟩ : ∃ j, j = n + k := ⟨_, rfl⟩
      have hjn : j < n + 80 := by omega
      have hln := Hln.out
      have hz : (l ++ List.replicate k m ++ List.replicate (80 - k) (⟨0, 0, 0⟩ : Mg))[j]? = some ⟨0, 0, 0⟩ := by
        rw [List.getElem?_append_right (by simp; omega), List.getElem?_replicate, if_pos (by simp; omega)]
      have key : ∀ t, t < 3 → (mgs (l ++ List.replicate k m ++ List.replicate (80 - k) (⟨0, 0, 0⟩ : Mg)))[j * 3 + t]? = (Mg.enc ⟨0, 0, 0⟩)[t]? := fun t ht => flatMap_cell (enc := Mg.enc) (size := 3) _ (fun _ _ => rfl) j _ t hz ht
      have c0 : wr.cell? ⟨h, j * 3, none⟩ = some (.int .i64 0) := by rw [hb.cell]; exact key 0 (by omega)
      have c1 : wr.cell? ⟨h, j * 3 + 1, none⟩ = some (.int .i64 0) := by rw [hb.cell]; exact key 1 (by omega)
      have c2 : wr.cell? ⟨h, j * 3 + 2, none⟩ = some (.int .i64 0) := by rw [hb.cell]; exact key 2 (by omega)
      have f0 : wr.frozen? ⟨h, j * 3, none⟩ = false := hb.frozen _
      have f1 : wr.frozen? ⟨h, j * 3 + 1, none⟩ = false := hb.frozen _
      have f2 : wr.frozen? ⟨h, j * 3 + 2, none⟩ = false := hb.frozen _
      have m0 : wr.cell? ⟨h0, 0, none⟩ = some (.int .i64 m.l) := hm.cell 0
      have m1 : wr.cell? ⟨h0, 1, none⟩ = some (.int .i64 m.r) := hm.cell 1
      have m2 : wr.cell? ⟨h0, 2, none⟩ = some (.int .i64 m.id) := hm.cell 2
      rw [← hj]
      have Hj := Lib.hid hj
      clear hj hlt hz key
      have hlt : (j : Int) < (n : Int) + 80 := by omega
      clear hln
      go_wp2
      have hj := Hj.out
      go_roundw
      case rel =>
        have hln := Hln.out
        refine ⟨k + 1, by omega, by go_num, ?_, ((hm.far hne _).far hne _).far hne _, ((hO.setCell (.inr hle) _).setCell (.inr hle) _).setCell (.inr hle) _⟩
        have e := roomyM_set l m k (by omega)
        rw [← e]
        have h2 := ((hb.set (j * 3) (.int .i64 m.l)).set (j * 3 + 1) (.int .i64 m.r)).set (j * 3 + 2) (.int .i64 m.id)
        rw [mgs_set _ _ _ (by simp; omega)] at h2
        rw [hj, ← hln] at h2 ⊢
        exact h2
      case measure => simp [intOf]; omega
    · obtain rfl : k = 80 := by omega
      clear hm
      go_wp2
      go_ret
      exact ⟨h, rfl, hle, by simpa [roomyM] using hb, hO⟩

set_option maxRecDepth 100000 in
set_option maxHeartbeats 1000000 in
theorem intactM_any (A C : Option Addr) (n c d B B' : Nat) (l : List Mg) (m : Mg) (w : World) (hx : Rd w B 3 A (n + 80) (mgs (roomyM l m))) (hy : Rd w B' 3 C n (mgs l)) (hln : l.length = n) (hn : n ≤ 5864062014634) (hc : n ≤ c) :
    Calls Try.prog 43 #[.slice A (n + 80) c, .slice C n d, .agg #[.int .i64 m.l, .int .i64 m.r, .int .i64 m.id]] w fun e w' => e = .returned (.bool true) ∧ Only [] w w' := by
  have Hln := Lib.hid hln
  have hx' : Rd w B 3 A n (mgs l) := by
    have h := hx.take (k := n) (by omega)
    rw [mgs_take] at h
    have e : (roomyM l m).take n = l := by unfold roomyM; rw [List.take_append_of_le_length (by omega), List.take_of_length_le (by omega)]
    rwa [e] at h
  clear hln
  obtain ⟨h0, hh0⟩ : ∃ h, h = w.heap.size := ⟨_, rfl⟩
  have hm : Blk (w.alloc (.cells #[.int .i64 m.l, .int .i64 m.r, .int .i64 m.id] 38)) h0 38 [.int .i64 m.l, .int .i64 m.r, .int .i64 m.id] := Blk.new' _ _ _ hh0.symm rfl
  have hO := (Only.refl [] w).alloc (.cells #[.int .i64 m.l, .int .i64 m.r, .int .i64 m.id] 38)
  go_enter Try.func43, Try.ntmps43
  go_wp2_with (fail)
  rw [← hh0]
  refine name_it (p := fun y => Calls _ _ _ y _) ?_
  intro wa Ha
  rw [← Ha.out] at hm hO
  clear Ha hh0
  replace hx' := hx'.only hO (by simp)
  replace hx := hx.only hO (by simp)
  replace hy := hy.only hO (by simp)
  refine (sameM_any A C n c n d B B' l _ hx' hy Hln.out (by omega)).mono ?_ 
  rintro e w1 ⟨rfl, hk1⟩
  have hO1 : Only [] wa w1 := by obtain ⟨k1, rfl⟩ := hk1; exact (Only.refl _ _).drewN _
  clear hk1 hx' hy
  replace hx := hx.only hO1 (by simp)
  replace hm := hm.only hO1 (by simp)
  replace hO := hO.trans hO1
  clear hO1
  go_wp2_with (fail)
  go_loopw [7] (fun i wr => ∃ k : Nat, k ≤ 80 ∧ i = .int .i64 ((n + k : Nat) : Int) ∧ Only [] w1 wr) (fun i _ => n + 80 - (intOf i).toNat)
  case atStart => exact ⟨0, by omega, rfl, .refl _ _⟩
  case round =>
    obtain ⟨k, hk, rfl, hw⟩ := hrel
    by_cases hlt : k < 80
    · obtain ⟨j, hj⟩ : ∃ j, j = n + k := ⟨_, rfl⟩
      have hjn : j < n + 80 := by omega
      have hln := Hln.out
      have hz : (roomyM l m)[j]? = some m := by
        unfold roomyM
        rw [List.getElem?_append_right (by omega), List.getElem?_replicate, if_pos (by omega)]
      obtain ⟨g, o, rfl, _, c0, c1, c2⟩ := (hx.only hw (by simp)).mg hz
      have m0 : wr.cell? ⟨h0, 0, none⟩ = some (.int .i64 m.l) := (hm.only hw (by simp)).cell 0
      have m1 : wr.cell? ⟨h0, 1, none⟩ = some (.int .i64 m.r) := (hm.only hw (by simp)).cell 1
      have m2 : wr.cell? ⟨h0, 2, none⟩ = some (.int .i64 m.id) := (hm.only hw (by simp)).cell 2
      rw [← hj]
      have Hj := Lib.hid hj
      clear hj hlt hln hz
      have hlt : (j : Int) < (n : Int) + 80 := by omega
      go_wp2_with (fail)
      go_quiet (fail)
      go_wp2
      have hj := Hj.out
      go_roundw
      case rel => exact ⟨k + 1, by omega, by go_num, hw.drewN _⟩
      case measure => simp [intOf]; omega
    · obtain rfl : k = 80 := by omega
      clear hx hm
      go_wp2
      go_ret
      exact ⟨rfl, hO.trans hw⟩
theorem rd_roomyM {w1 : World} {h n : Nat} {l : List Mg} {m : Mg} {t : TypeId} (hb1 : Blk w1 h t (mgs (roomyM l m))) (hl : l.length = n) :
    Rd w1 w1.heap.size 3 (some ⟨h, 0, none⟩) (n + 80) (mgs (roomyM l m)) ∧ Rd w1 w1.heap.size 3 (some ⟨h, 0, none⟩) n (mgs l) := by
  have hf : Rd w1 w1.heap.size 3 (some ⟨h, 0, none⟩) (n + 80) (mgs (roomyM l m)) := (Rd.whole hb1 (by rw [mgs_length, roomyM, List.length_append, List.length_replicate, hl])).more hb1.lt
  refine ⟨hf, ?_⟩
  have h1 := hf.take (k := n) (by omega)
  rw [mgs_take] at h1
  have e : (roomyM l m).take n = l := by unfold roomyM; rw [List.take_append_of_le_length (by omega), List.take_of_length_le (by omega)]
  rwa [e] at h1
end Go.Proofs.Ytfnhdkabfkjodaa
