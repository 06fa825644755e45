/- Contracts of package ring: a ring as a queue of bytes. -/
import Derived.Test.YtemnanhoiacphaaDoorProg
import Derived.Test.YtemnanhoiacphaaDoorPk1
set_option linter.unusedVariables false
set_option linter.unusedSimpArgs false
set_option maxRecDepth 100000
namespace Go.Proofs.YtemnanhoiacphaaDoor
open Go.RowKit

/-- a ring of room r, its struct at block g, its array at block g2 -/
def RingAt (w : World) (g g2 r at_ : Nat) (arr q : List UInt8) : Prop :=
  Blk w g 129 [.slice (some ⟨g2, 0, none⟩) r r, .int .i64 (at_ : Int), .int .i64 (q.length : Int)] ∧ Blk w g2 5 (bvs arr) ∧ arr.length = r ∧ 0 < r ∧ r ≤ 1048576 ∧ at_ < r ∧ q.length ≤ r ∧ q = queue arr at_ q.length

theorem byteInfo : (Tryd.prog.info? 5).map (fun i => (i.zero, i.size, i.bytes)) = some (some (.int .u8 0), 1, 1) := by kernel_rfl
theorem byteSize : (Tryd.prog.info? 5).map (·.size) = some 1 := by kernel_rfl

/-- string(b) of a block of bytes -/
theorem byteStr {w : World} {g n : Nat} {t : TypeId} (c : Nat) {l : List UInt8} (h : Blk w g t (bvs l)) (hn : l.length = n) :
    (convert 41 9 (.slice (some ⟨g, 0, none⟩) n c)).run Tryd.prog w = .ok (.string (str l)) w :=
  run_string_blk (P := Tryd.prog) 41 9 5 Tryd.underlying41 Tryd.underlying5 Tryd.underlying9 c h hn

set_option maxHeartbeats 400000 in
theorem ringLen_any (g : Nat) (l : Int) (w : World) (h2 : w.cell? ⟨g, 2, none⟩ = some (.int .i64 l)) :
    Calls Tryd.prog 49 #[.pointer (some ⟨g, 0, none⟩)] w fun e w' => e = .returned (.int .i64 l) ∧ w = w' := by
  go_enter Tryd.func49, Tryd.ntmps49
  go_wp2
  go_ret
  exact ⟨rfl, rfl⟩

set_option maxHeartbeats 400000 in
theorem ringRoom_any (g : Nat) (A : Option Addr) (n c l : Nat) (w : World) (h0 : w.cell? ⟨g, 0, none⟩ = some (.slice A n c)) (h2 : w.cell? ⟨g, 2, none⟩ = some (.int .i64 (l : Int)))
    (hn : n ≤ 1048576) (hl : l ≤ n) :
    Calls Tryd.prog 65 #[.pointer (some ⟨g, 0, none⟩)] w fun e w' => e = .returned (.int .i64 ((n - l : Nat) : Int)) ∧ ∃ k, w' = w.drewN k := by
  go_enter Tryd.func65, Tryd.ntmps65
  go_wp2
  go_quiet (fail)
  go_wp2
  go_ret
  exact ⟨ret_int (by omega), _, rfl⟩

set_option maxHeartbeats 400000 in
theorem ringNew_no (r : Int) (w : World) (h : r < 1 ∨ 1048576 < r) :
    Calls Tryd.prog 39 #[.int .i64 r] w fun e w' => e = .returned (.tuple #[.pointer none, .int .i64 1]) ∧ w = w' := by
  rcases h with h | h
  · go_enter Tryd.func39, Tryd.ntmps39
    go_wp2
    go_ret2
    exact ⟨rfl, rfl⟩
  · have h' : ¬ r < 1 := by omega
    go_enter Tryd.func39, Tryd.ntmps39
    go_wp2
    go_ret2
    exact ⟨rfl, rfl⟩

set_option maxHeartbeats 400000 in
theorem ringNew_yes (r : Nat) (w : World) (h1 : 1 ≤ r) (h2 : r ≤ 1048576) :
    Calls Tryd.prog 39 #[.int .i64 (r : Int)] w fun e w' => Ex fun g => e = .returned (.tuple #[.pointer (some ⟨g, 0, none⟩), .int .i64 0]) ∧ w.heap.size ≤ g ∧ RingAt w' g w.heap.size r 0 (List.replicate r 0) [] ∧ Only [] w w' := by
  have hmk := fun W => run_make_rep1 (P := Tryd.prog) 41 5 (.int .u8 0) 1 Tryd.underlying41 byteInfo rfl .i64 .i64 r r (Nat.le_refl _) (by omega) (by omega) W
  go_enter Tryd.func39, Tryd.ntmps39
  go_wp2
  go_ret2
  refine Ex.of (w.heap.size + 1) ⟨rfl, by omega, ⟨?_, ?_, by simp, by omega, h2, by omega, by simp, by simp [queue]⟩, ((Only.refl _ _).alloc _).alloc _⟩
  · exact Blk.new' _ _ _ (by simp) rfl
  · exact (Blk.new' _ _ _ rfl (by simp [bvs_replicate, bv])).alloc _

set_option maxHeartbeats 400000 in
theorem ringPut_any (g g2 r at_ n c : Nat) (A : Option Addr) (arr q bs : List UInt8) (w : World) (hR : RingAt w g g2 r at_ arr q) (B : Nat) (hs : Rd w B 1 A n (bvs bs)) (hne : ∀ ad, A = some ad → 0 < n → ad.block ≠ g2) (hnc : n ≤ c) (hn : n ≤ 140737488355328) :
    Calls Tryd.prog 66 #[.pointer (some ⟨g, 0, none⟩), .slice A n c] w fun e w' => Ex fun arr' => e = .returned (.int .i64 ((min n (r - q.length) : Nat) : Int)) ∧ RingAt w' g g2 r at_ arr' (q ++ bs.take (r - q.length)) ∧ Only [g, g2] w w' := by
  obtain ⟨hb, ha, harr, hr0, hr1, hat, hql, hq⟩ := hR
  have h0 : w.cell? ⟨g, 0, none⟩ = some (.slice (some ⟨g2, 0, none⟩) r r) := hb.cell 0
  have h1 : w.cell? ⟨g, 1, none⟩ = some (.int .i64 (at_ : Int)) := hb.cell 1
  have h2 : w.cell? ⟨g, 2, none⟩ = some (.int .i64 (q.length : Int)) := hb.cell 2
  have hf : w.frozen? ⟨g, 2, none⟩ = false := hb.frozen 2
  have hgg : g ≠ g2 := hb.ne ha (by decide)
  have Hq := Lib.hid hq; clear hq
  have Harr := Lib.hid harr; clear harr
  have Hne := Lib.hid hne; clear hne
  have Hgg := Lib.hid hgg; clear hgg
  obtain ⟨m, hm⟩ : ∃ m, m = min n (r - q.length) := ⟨_, rfl⟩
  have hmin := fun W => run_min_nat (P := Tryd.prog) #[3, 3] 3 n (r - q.length) m hm W
  have hmn : m ≤ n := by omega
  have hmr : m + q.length ≤ r := by omega
  have Hm := Lib.hid hm; clear hm
  obtain ⟨v, hv⟩ : ∃ v, v = (at_ + q.length) % r := ⟨_, rfl⟩
  have hvr : v < r := by rw [hv]; exact Nat.mod_lt _ (by omega)
  have hve : ((at_ : Int) + (q.length : Int)) % (r : Int) = (v : Int) := by rw [hv]; simp
  have Hv := Lib.hid hv; clear hv
  go_enter Tryd.func66, Tryd.ntmps66
  go_wp2_with ((with_reducible refine (ringRoom_any g (some ⟨g2, 0, none⟩) r r q.length _ (by exact h0) (by exact h2) hr1 hql).mono ?_); rintro e w1 ⟨rfl, k1, rfl⟩)
  go_quiet (fail)
  rw [hve]
  clear hve
  obtain ⟨c1, hc1⟩ : ∃ c1, c1 = min m (r - v) := ⟨_, rfl⟩
  have hcm : c1 ≤ m := by omega
  have hcv : v + c1 ≤ r := by omega
  have Hc1 := Lib.hid hc1; clear hc1
  have Hlen : Hid (bs.length = n) := by have := hs.1; rw [bvs_length] at this; simp only [Hid]; omega
  refine name_it (p := fun y => Exit.then _ _ _ _ y) ?_
  intro wA HwA
  have haA : Blk wA g2 5 (bvs arr) := by rw [HwA.out]; exact ha
  have hbA : Blk wA g 129 [.slice (some ⟨g2, 0, none⟩) r r, .int .i64 (at_ : Int), .int .i64 (q.length : Int)] := by rw [HwA.out]; exact hb
  have hsA : Rd wA B 1 A n (bvs bs) := by rw [HwA.out]; exact hs
  have hOA : Only [g, g2] w wA := by rw [HwA.out]; exact ((Only.refl _ _).drewN _).drewN _
  clear h0 h1 h2 hf
  have h0 : wA.cell? ⟨g, 0, none⟩ = some (.slice (some ⟨g2, 0, none⟩) r r) := hbA.cell 0
  have hcp := run_copy_lay (P := Tryd.prog) wA 41 41 3 5 Tryd.underlying41 byteSize (some ⟨g2, v, none⟩) A (r - v) (r - v) m c g2 v (bvs arr) 5 haA c1 (bvs (bs.take c1)) Hc1.out (fun _ => rfl) B
    (by have := (hsA.take (k := c1) (by omega)); rwa [Nat.mul_one, bvs_take] at this) (by rw [bvs_length]; have := Harr.out; omega) (bvs_one _)
  obtain ⟨wB, hwB⟩ : ∃ wB, wB = wA.setRow g2 (lay (bvs arr) v (bvs (bs.take c1))).toArray := ⟨_, rfl⟩
  rw [← hwB] at hcp
  have HwB := Lib.hid hwB; clear hwB
  go_wp2_with (fail)
  clear hcp h0
  have hbB : Blk wB g 129 [.slice (some ⟨g2, 0, none⟩) r r, .int .i64 (at_ : Int), .int .i64 (q.length : Int)] := by rw [HwB.out]; exact hbA.setRow_far Hgg.out _
  have h0 : wB.cell? ⟨g, 0, none⟩ = some (.slice (some ⟨g2, 0, none⟩) r r) := hbB.cell 0
  go_still_tail 7, (by kernel_rfl)
  refine name_it (p := fun y => wpList _ _ _ _ _ y) ?_
  intro wC HwC
  have hwC : wC = wB.drew := HwC.out
  clear HwC h0
  have HwC := Lib.hid hwC; clear hwC
  have haC : Blk wC g2 5 (bvs (lay arr v (bs.take c1))) := by rw [HwC.out, ← bvs_lay]; show Blk wB _ _ _; rw [HwB.out]; exact haA.setRow _
  have hbC : Blk wC g 129 [.slice (some ⟨g2, 0, none⟩) r r, .int .i64 (at_ : Int), .int .i64 (q.length : Int)] := by rw [HwC.out]; exact hbB
  have hOC : Only [g, g2] w wC := by rw [HwC.out, HwB.out]; exact (hOA.setRow (by simp) _).drew
  have hsC : Rd wC B 1 A n (bvs bs) := by
    rw [HwC.out, HwB.out]
    exact hsA.only' (l := [g2]) (((Only.refl _ _).setRow (by simp) _).drew) (fun ad e hp => by simpa using Hne.out ad e hp)
  have hsX := hsC.cut (k := c1) (cap := c) (by omega) (by omega)
  simp only [Nat.mul_one] at hsX
  generalize (if c = c1 then A else Option.map (fun x => x.add c1) A) = A' at hsX ⊢
  have hcp := run_copy_lay (P := Tryd.prog) wC 41 41 3 5 Tryd.underlying41 byteSize (some ⟨g2, 0, none⟩) A' r r (m - c1) (c - c1) g2 0 (bvs (lay arr v (bs.take c1))) 5 haC (m - c1) (bvs ((bs.drop c1).take (m - c1)))
    (by omega) (fun _ => rfl) B (by have h := hsX.take (k := m - c1) (by omega); simpa only [Nat.mul_one, bvs_drop, bvs_take] using h)
    (by rw [bvs_length, length_lay _ _ _ (by have := Harr.out; rw [List.length_take]; omega)]; have := Harr.out; omega) (bvs_one _)
  obtain ⟨wD, hwD⟩ : ∃ wD, wD = wC.setRow g2 (lay (bvs (lay arr v (bs.take c1))) 0 (bvs ((bs.drop c1).take (m - c1)))).toArray := ⟨_, rfl⟩
  rw [← hwD] at hcp
  have HwD := Lib.hid hwD; clear hwD
  have hbD : Blk wD g 129 [.slice (some ⟨g2, 0, none⟩) r r, .int .i64 (at_ : Int), .int .i64 (q.length : Int)] := by rw [HwD.out]; exact hbC.setRow_far Hgg.out _
  have h2 : wD.cell? ⟨g, 2, none⟩ = some (.int .i64 (q.length : Int)) := hbD.cell 2
  have hf : wD.frozen? ⟨g, 2, none⟩ = false := hbD.frozen 2
  go_wp2
  go_ret
  have hlen := Hlen.out
  have harr := Harr.out
  have hq := Hq.out
  have hm := Hm.out
  refine Ex.of (lay (lay arr v (bs.take c1)) 0 ((bs.drop c1).take (m - c1))) ⟨ret_int (by rw [hm]), ⟨?_, ?_, ?_, hr0, hr1, hat, ?_, ?_⟩, ?_⟩
  · rw [show (q ++ bs.take (r - q.length)).length = q.length + m by rw [List.length_append, List.length_take]; omega]
    exact hbD.set 2 _
  · have hd : Blk wD g2 5 (bvs (lay (lay arr v (bs.take c1)) 0 ((bs.drop c1).take (m - c1)))) := by rw [HwD.out, bvs_lay]; exact haC.setRow _
    exact hd.far (by exact fun e => Hgg.out e.symm) _
  · rw [length_lay _ _ _ (by rw [length_lay _ _ _ (by rw [List.length_take]; omega), List.length_take, List.length_drop]; omega), length_lay _ _ _ (by rw [List.length_take]; omega)]
    exact harr
  · rw [List.length_append, List.length_take]; omega
  · have hb2 : bs.take (r - q.length) = bs.take m := by rw [List.take_eq_take_iff]; omega
    rw [hb2]
    have h := queue_put arr bs at_ q.length m v c1 (by omega) (by omega) (by omega) (by rw [harr]; exact Hv.out) (by rw [harr]; exact Hc1.out)
    rw [← hq] at h
    rw [show (q ++ bs.take m).length = q.length + m by rw [List.length_append, List.length_take]; omega]
    exact h.symm
  · rw [HwD.out]
    exact (hOC.setRow (by simp) _).setCell (by simp) _

set_option maxHeartbeats 400000 in
theorem ringPeek_any (g g2 r at_ : Nat) (k : Int) (arr q : List UInt8) (w : World) (hR : RingAt w g g2 r at_ arr q) (m : Nat) (hm : m = min k.toNat q.length) :
    Calls Tryd.prog 67 #[.pointer (some ⟨g, 0, none⟩), .int .i64 k] w fun e w' => Ex fun o => e = .returned (.slice (some ⟨o, 0, none⟩) m m) ∧ w.heap.size ≤ o ∧ Blk w' o 5 (bvs (q.take m)) ∧ Only [] w w' := by
  obtain ⟨hb, ha, harr, hr0, hr1, hat, hql, hq⟩ := hR
  have h0 : w.cell? ⟨g, 0, none⟩ = some (.slice (some ⟨g2, 0, none⟩) r r) := hb.cell 0
  have h1 : w.cell? ⟨g, 1, none⟩ = some (.int .i64 (at_ : Int)) := hb.cell 1
  have h2 : w.cell? ⟨g, 2, none⟩ = some (.int .i64 (q.length : Int)) := hb.cell 2
  obtain ⟨kn, hkn⟩ : ∃ kn, kn = k.toNat := ⟨_, rfl⟩
  rw [← hkn] at hm
  have hmax : ∀ W, (Builtin.max_ #[3, 3] 3 #[.int .i64 k, .int .i64 0]).run Tryd.prog W = .ok (.int .i64 (kn : Int)) W := fun W => by
    rw [run_max_int2]; congr 2; split <;> omega
  clear hkn
  have hmin := fun W => run_min_nat (P := Tryd.prog) #[3, 3] 3 kn q.length m hm W
  have hmq : m ≤ q.length := by omega
  have Hm := Lib.hid hm; clear hm
  have Hq := Lib.hid hq; clear hq
  have Harr := Lib.hid harr; clear harr
  have hmk := fun W => run_make_rep1 (P := Tryd.prog) 41 5 (.int .u8 0) 1 Tryd.underlying41 byteInfo rfl .i64 .i64 m m (Nat.le_refl _) (by omega) (by omega) W
  go_enter Tryd.func67, Tryd.ntmps67
  go_wp2
  refine name_it (p := fun y => Code.wp _ _ _ _ y) ?_
  intro wA HwA
  obtain ⟨o, ho⟩ : ∃ o, o = w.heap.size := ⟨_, rfl⟩
  have hoA : Blk wA o 5 (bvs (List.replicate m 0)) := by rw [HwA.out]; exact Blk.new' _ _ _ ho.symm (by simp [bvs_replicate, bv])
  have hbA : Blk wA g 129 [.slice (some ⟨g2, 0, none⟩) r r, .int .i64 (at_ : Int), .int .i64 (q.length : Int)] := by rw [HwA.out]; exact hb.alloc _
  have haA : Blk wA g2 5 (bvs arr) := by rw [HwA.out]; exact ha.alloc _
  have hOA : Only [] w wA := by rw [HwA.out]; exact (Only.refl _ _).alloc _
  have hog : o ≠ g := by have := hb.lt; omega
  have hog2 : o ≠ g2 := by have := ha.lt; omega
  have ho' : w.heap.size ≤ o := by omega
  rw [← ho]
  clear ho h0 h1 h2 hmax hmin hmk
  have Hog := Lib.hid hog; clear hog
  have Hog2 := Lib.hid hog2; clear hog2
  have h0 : wA.cell? ⟨g, 0, none⟩ = some (.slice (some ⟨g2, 0, none⟩) r r) := hbA.cell 0
  have h1 : wA.cell? ⟨g, 1, none⟩ = some (.int .i64 (at_ : Int)) := hbA.cell 1
  have hat' : at_ ≤ r := by omega
  have hne' : ¬ r = at_ := by omega
  go_still_tail 10, (by kernel_rfl)
  clear h0 h1 hne'
  refine name_it (p := fun y => wpList _ _ _ _ _ y) ?_
  intro wB HwB
  replace HwB : Hid (wB = wA.drew) := HwB
  have hoB : Blk wB o 5 (bvs (List.replicate m 0)) := by rw [HwB.out]; exact hoA
  have haB : Blk wB g2 5 (bvs arr) := by rw [HwB.out]; exact haA
  obtain ⟨c1, hc1⟩ : ∃ c1, c1 = min (r - at_) m := ⟨_, rfl⟩
  have hc1m : c1 ≤ m := by omega
  have hc1r : c1 ≤ r - at_ := by omega
  have hcp := run_copy_lay (P := Tryd.prog) wB 41 41 3 5 Tryd.underlying41 byteSize (some ⟨o, 0, none⟩) (some ⟨g2, at_, none⟩) m m (r - at_) (r - at_) o 0 (bvs (List.replicate m 0)) 5 hoB c1 (bvs ((arr.drop at_).take c1)) hc1
    (fun _ => rfl) (g2 + 1) (by have h := Rd.of_blk (B := g2 + 1) (size := 1) (o := at_) (n := c1) haB (by omega) (by rw [bvs_length, Nat.mul_one]; have := Harr.out; omega); simpa only [Nat.mul_one, bvs_drop, bvs_take] using h)
    (by rw [bvs_length, List.length_replicate]; omega) (bvs_one _)
  have Hc1 := Lib.hid hc1; clear hc1
  obtain ⟨wC, hwC⟩ : ∃ wC, wC = wB.setRow o (lay (bvs (List.replicate m 0)) 0 (bvs ((arr.drop at_).take c1))).toArray := ⟨_, rfl⟩
  rw [← hwC] at hcp
  have HwC := Lib.hid hwC; clear hwC
  go_wp2_with (fail)
  clear hcp
  have hoC : Blk wC o 5 (bvs (lay (List.replicate m 0) 0 ((arr.drop at_).take c1))) := by rw [HwC.out, ← bvs_lay]; exact hoB.setRow _
  have haC : Blk wC g2 5 (bvs arr) := by rw [HwC.out]; exact haB.setRow_far Hog2.out.symm _
  have hbC : Blk wC g 129 [.slice (some ⟨g2, 0, none⟩) r r, .int .i64 (at_ : Int), .int .i64 (q.length : Int)] := by rw [HwC.out]; exact (show Blk wB g _ _ by rw [HwB.out]; exact hbA).setRow_far Hog.out.symm _
  have hOC : Only [] w wC := by rw [HwC.out, HwB.out]; exact (hOA.drew).setRow (.inr ho') _
  have h0 : wC.cell? ⟨g, 0, none⟩ = some (.slice (some ⟨g2, 0, none⟩) r r) := hbC.cell 0
  go_still_tail 7, (by kernel_rfl)
  clear h0
  refine name_it (p := fun y => wpList _ _ _ _ _ y) ?_
  intro wD HwD
  replace HwD : Hid (wD = wC.drew) := HwD
  have hX : Hid (0 < min r (m - c1) → (if m = c1 then some (⟨o, 0, none⟩ : Addr) else some ⟨o, c1, none⟩) = some ⟨o, c1, none⟩) := by
    intro h
    rw [if_neg (by omega)]
  have hoD : Blk wD o 5 (bvs (lay (List.replicate m 0) 0 ((arr.drop at_).take c1))) := by rw [HwD.out]; exact hoC
  have haD : Blk wD g2 5 (bvs arr) := by rw [HwD.out]; exact haC
  generalize (if m = c1 then some (⟨o, 0, none⟩ : Addr) else some ⟨o, c1, none⟩) = A' at hX ⊢
  have hcp := run_copy_lay (P := Tryd.prog) wD 41 41 3 5 Tryd.underlying41 byteSize A' (some ⟨g2, 0, none⟩) (m - c1) (m - c1) r r o c1 (bvs (lay (List.replicate m 0) 0 ((arr.drop at_).take c1))) 5 hoD (m - c1) (bvs (arr.take (m - c1))) (by omega)
    (fun h => hX.out (by omega)) (g2 + 1) (by have h := Rd.of_blk (B := g2 + 1) (size := 1) (o := 0) (n := m - c1) haD (by omega) (by rw [bvs_length, Nat.mul_one]; have := Harr.out; omega); simpa only [Nat.mul_one, List.drop_zero, bvs_take] using h)
    (by rw [bvs_length, length_lay _ _ _ (by rw [List.length_take, List.length_drop, List.length_replicate]; have := Harr.out; omega), List.length_replicate]; omega) (bvs_one _)
  obtain ⟨wE, hwE⟩ : ∃ wE, wE = wD.setRow o (lay (bvs (lay (List.replicate m 0) 0 ((arr.drop at_).take c1))) c1 (bvs (arr.take (m - c1)))).toArray := ⟨_, rfl⟩
  rw [← hwE] at hcp
  have HwE := Lib.hid hwE; clear hwE
  go_wp2
  go_ret
  have hm := Hm.out
  have hc1 := Hc1.out
  have harr := Harr.out
  have hq := Hq.out
  refine Ex.of o ⟨rfl, ho', ?_, ?_⟩
  · rw [queue_take' arr q at_ m m hq (by omega), ← peek_row arr at_ m c1 (List.replicate m 0) (by simp) (by omega) (by omega) (by rw [harr]; exact hc1), ← bvs_lay, HwE.out]
    exact hoD.setRow _
  · rw [HwE.out, HwD.out]
    exact (hOC.drew).setRow (.inr ho') _

set_option maxHeartbeats 400000 in
theorem ringTake_any (g g2 r at_ : Nat) (k : Int) (arr q : List UInt8) (w : World) (hR : RingAt w g g2 r at_ arr q) (m : Nat) (hm : m = min k.toNat q.length) :
    Calls Tryd.prog 41 #[.pointer (some ⟨g, 0, none⟩), .int .i64 k] w fun e w' => Ex fun o => Ex fun at' => e = .returned (.slice (some ⟨o, 0, none⟩) m m) ∧ w.heap.size ≤ o ∧ Blk w' o 5 (bvs (q.take m)) ∧ RingAt w' g g2 r at' arr (q.drop m) ∧ Only [g] w w' := by
  have hR' := hR
  obtain ⟨hb, ha, harr, hr0, hr1, hat, hql, hq⟩ := hR
  have Hq := Lib.hid hq; clear hq
  have Harr := Lib.hid harr; clear harr
  have hmq : m ≤ q.length := by omega
  have Hm := Lib.hid hm; clear hm
  go_enter Tryd.func41, Tryd.ntmps41
  go_wp2_with (fail)
  refine (ringPeek_any g g2 r at_ k arr q _ hR' m Hm.out).mono ?_
  rintro e w1 ⟨o, rfl, ho, hob, hO⟩
  have hb1 : Blk w1 g 129 [.slice (some ⟨g2, 0, none⟩) r r, .int .i64 (at_ : Int), .int .i64 (q.length : Int)] := hb.only hO (by simp)
  have ha1 : Blk w1 g2 5 (bvs arr) := ha.only hO (by simp)
  have h0 : w1.cell? ⟨g, 0, none⟩ = some (.slice (some ⟨g2, 0, none⟩) r r) := hb1.cell 0
  have h1 : w1.cell? ⟨g, 1, none⟩ = some (.int .i64 (at_ : Int)) := hb1.cell 1
  have h2 : w1.cell? ⟨g, 2, none⟩ = some (.int .i64 (q.length : Int)) := hb1.cell 2
  have hf1 : w1.frozen? ⟨g, 1, none⟩ = false := hb1.frozen 1
  have hf2 : w1.frozen? ⟨g, 2, none⟩ = false := hb1.frozen 2
  have hog : o ≠ g := by have := hb.lt; omega
  have hgg : g ≠ g2 := hb.ne ha (by decide)
  obtain ⟨v, hv⟩ : ∃ v, v = (at_ + m) % r := ⟨_, rfl⟩
  have hvr : v < r := by rw [hv]; exact Nat.mod_lt _ (by omega)
  have hve : ((at_ : Int) + (m : Int)) % (r : Int) = (v : Int) := by rw [hv]; simp
  have Hv := Lib.hid hv; clear hv
  have Hog := Lib.hid hog; clear hog
  have Hgg := Lib.hid hgg; clear hgg
  have hw1 : IntKind.i64.wrap ((at_ : Int) + (m : Int)) = (at_ : Int) + (m : Int) := IntWalk.i64_in _ (by omega)
  have hw2 : ((at_ : Int) + (m : Int)).tmod (r : Int) = (v : Int) := by rw [Int.tmod_eq_emod_of_nonneg (by omega)]; exact hve
  have hw0 : ¬ r = 0 := by omega
  go_wp2_with (fail)
  go_still_tail 16, (by kernel_rfl)
  clear hw1 hw2 hw0 hve h0 h1 hf1
  refine name_it (p := fun y => wpList _ _ _ _ _ y) ?_
  intro wA HwA
  replace HwA : Hid (wA = w1.drew) := HwA
  have hbA : Blk wA g 129 [.slice (some ⟨g2, 0, none⟩) r r, .int .i64 (at_ : Int), .int .i64 (q.length : Int)] := by rw [HwA.out]; exact hb1
  clear h2 hf2
  have h1 : wA.cell? ⟨g, 1, none⟩ = some (.int .i64 (at_ : Int)) := hbA.cell 1
  have hf1 : wA.frozen? ⟨g, 1, none⟩ = false := hbA.frozen 1
  have h2 : wA.cell? ⟨g, 2, none⟩ = some (.int .i64 (q.length : Int)) := hbA.cell 2
  have hf2 : wA.frozen? ⟨g, 2, none⟩ = false := hbA.frozen 2
  go_wp2
  go_ret
  have hm := Hm.out
  have hq := Hq.out
  have harr := Harr.out
  have hql' : (q.drop m).length = q.length - m := by rw [List.length_drop]
  have haA : Blk wA g2 5 (bvs arr) := by rw [HwA.out]; exact ha1
  have hoA : Blk wA o 5 (bvs (q.take m)) := by rw [HwA.out]; exact hob
  refine Ex.of o (Ex.of v ⟨rfl, ho, (hoA.far (by exact Hog.out) _).far (by exact Hog.out) _, ⟨?_, (haA.far (by exact Hgg.out.symm) _).far (by exact Hgg.out.symm) _, harr, hr0, hr1, hvr, by omega, ?_⟩, ?_⟩)
  · rw [hql', show ((q.length - m : Nat) : Int) = (q.length : Int) - (m : Int) by omega]
    exact (hbA.set 1 _).set 2 _
  · rw [hql', queue_drop' arr q at_ m m hq (by omega) (by omega) (by omega), harr, ← Hv.out]
  · rw [HwA.out]
    exact ((hO.mono (by simp)).drew.setCell (by simp) _).setCell (by simp) _

end Go.Proofs.YtemnanhoiacphaaDoor
