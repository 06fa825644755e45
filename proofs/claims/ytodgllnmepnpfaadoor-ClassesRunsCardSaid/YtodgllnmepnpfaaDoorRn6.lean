/- ClassesRuns: the walk. -/
import Derived.Test.YtodgllnmepnpfaaDoorRn4
import Derived.Test.YtodgllnmepnpfaaDoorRn5
import Derived.Test.YtodgllnmepnpfaaDoorRight
import Derived.Test.YtodgllnmepnpfaaDoorKnow2
import Derived.Test.YtodgllnmepnpfaaDoorWithin
set_option linter.unusedVariables false
set_option linter.unusedSimpArgs false
namespace Go.Proofs.YtodgllnmepnpfaaDoor
open Go.RowKit
attribute [local go_sem] Oper.semAt_some

/-- what a turn's loop holds between two rounds -/
def RI (w : World) (bn : Nat) (pre : List RunD) (W : World) : Prop := Only [bn] w W ∧ Blk W bn 3 [.int .i64 (pre.length : Int)]
theorem RI.own (w : World) (bn : Nat) (h : bn < w.heap.size) : OwnFromC w.heap.size (w.heap.size + 2) (RI w bn) := by
  rintro pre W W' row ⟨h1, h2⟩ hg hr
  exact ⟨only_ownC h1 hg hr, blk_ownC h2 hg hr (by omega)⟩
/-- what it holds where it is left early -/
def RX (w : World) (b6 bn : Nat) (c : Code) (pre : List RunD) (W : World) : Prop := c = .ret ∧ Only [bn, b6] w W ∧ Blk W b6 4 [.bool true]
theorem RX.own (w : World) (b6 bn : Nat) (c : Code) (h : b6 < w.heap.size) : OwnFromC w.heap.size (w.heap.size + 2) (RX w b6 bn c) := by
  rintro pre W W' row ⟨h0, h1, h2⟩ hg hr
  exact ⟨h0, only_ownC h1 hg hr, blk_ownC h2 hg hr (by omega)⟩

set_option maxRecDepth 100000 in
set_option maxHeartbeats 8000000 in
theorem classesRuns_walk (w : World) (X Y A1 A2 A3 : Option Addr) (p q u v n1 n2 n3 c1 c2 c3 : Nat) (a b d : List Sp) (hn1 : a.length = n1) (hn2 : b.length = n2) (hn3 : d.length = n3)
    (s1 : n1 ≤ 17592186043904) (s2 : n2 ≤ 17592186043904) (s3 : n3 ≤ 17592186043904) (B : Nat) (r1 : Rd w B 2 A1 n1 (ses a)) (r2 : Rd w B 2 A2 n2 (ses b)) (r3 : Rd w B 2 A3 n3 (ses d))
    (s : ByteArray) (hs : s.size ≤ 140737488351232) (stop : Int) (hstop : -9223372036854775808 ≤ stop ∧ stop ≤ 9223372036854775807) (hT : Tabs w) :
    Calls Tryd.prog 4 #[.agg #[.slice X p q, .slice Y u v, .slice A1 n1 c1, .slice A2 n2 c2, .slice A3 n3 c3], .string s, .int .i64 stop] w fun e w' => e = .returned (.bool true) ∧ Only [] w w' := by
  obtain ⟨b3, hb3⟩ : ∃ k, k = w.heap.size := ⟨_, rfl⟩
  obtain ⟨W0, hW0⟩ : ∃ W0, W0 = ((w.alloc (.cells #[.slice X p q, .slice Y u v, .slice A1 n1 c1, .slice A2 n2 c2, .slice A3 n3 c3] 44)).alloc (.cells #[.int .i64 stop] 3)).alloc (.cells #[.bool false] 4) := ⟨_, rfl⟩
  have kd : Blk W0 b3 44 [.slice X p q, .slice Y u v, .slice A1 n1 c1, .slice A2 n2 c2, .slice A3 n3 c3] := by rw [hW0]; exact ((Blk.new' _ _ _ hb3.symm rfl).alloc _).alloc _
  have k5 : Blk W0 (b3 + 1) 3 [.int .i64 stop] := by rw [hW0]; exact (Blk.new' _ _ _ (by simp; omega) rfl).alloc _
  have k6 : Blk W0 (b3 + 2) 4 [.bool false] := by rw [hW0]; exact Blk.new' _ _ _ (by simp; omega) rfl
  have hO0 : Only [] w W0 := by rw [hW0]; exact (((Only.refl _ _).alloc _).alloc _).alloc _
  have hz0 : W0.heap.size = b3 + 3 := by rw [hW0]; simp; omega
  have hwb : w.heap.size ≤ b3 := by omega
  obtain ⟨b5, hb5⟩ : ∃ k, k = b3 + 1 := ⟨_, rfl⟩
  obtain ⟨b6, hb6⟩ : ∃ k, k = b5 + 1 := ⟨_, rfl⟩
  rw [← hb5] at k5
  rw [show b3 + 2 = b6 by omega] at k6
  have hb356 : b3 < b5 ∧ b5 < b6 ∧ b6 < W0.heap.size := by omega
  have Hb5 := Lib.hid hb5
  have Hb6 := Lib.hid hb6
  have e0 : W0.cell? ⟨b3, 0, none⟩ = some (.slice X p q) := kd.cell 0
  have e1 : W0.cell? ⟨b3, 1, none⟩ = some (.slice Y u v) := kd.cell 1
  have e2 : W0.cell? ⟨b3, 2, none⟩ = some (.slice A1 n1 c1) := kd.cell 2
  have e3 : W0.cell? ⟨b3, 3, none⟩ = some (.slice A2 n2 c2) := kd.cell 3
  have e4 : W0.cell? ⟨b3, 4, none⟩ = some (.slice A3 n3 c3) := kd.cell 4
  have N1 := Lib.hid hn1
  have N2 := Lib.hid hn2
  have N3 := Lib.hid hn3
  have R1 := Lib.hid (r1.only hO0 (by simp))
  have R2 := Lib.hid (r2.only hO0 (by simp))
  have R3 := Lib.hid (r3.only hO0 (by simp))
  have Hb3 := Lib.hid hb3
  have HW0 := Lib.hid hW0
  have Kd := Lib.hid kd
  have hrl := rightLaw_any W0 X Y A1 A2 A3 p q u v n1 n2 n3 c1 c2 c3 a b d hn1 hn2 hn3 s1 s2 s3 B R1.out R2.out R3.out
  have Hrl := Lib.hid hrl
  have h2w := tabs_two hT
  obtain ⟨hb35, hb56, hb60⟩ := hb356
  clear hn1 hn2 hn3 hb3 hW0 r1 r2 r3 kd hrl hb5 hb6 hz0
  refine (callsIn_wide (n := 4)).1 ?_
  refine callsIn_of_wp_marks Tryd.func4 rfl trivial ?_ rfl
  simp only [Tryd.ntmps4, List.size_toArray, List.length_cons, List.length_nil, Nat.reduceAdd, Nat.reduceSub, Array.replicate_succ, Array.replicate_zero, List.push_toArray, List.append_toArray, List.nil_append, List.cons_append]
  gi_upto_region 1 with (fail)
  rw [← Hb3.out, ← HW0.out, ← Hb5.out, ← Hb6.out]
  gi_wp2_with (fail)
  refine ⟨trivial, ?_⟩
  refine (callsIn_wide.2 Hrl.out).mono ?_
  rintro e w1 ⟨t, rfl, hO1, ht⟩
  have hO1w := hO0.trans hO1
  rcases ht with ⟨g, rfl, hz, hTab⟩ | ⟨rfl, hne⟩
  rotate_left
  · have hdf : decide ((checkW a b d).1 = 0) = false := decide_eq_false hne
    rw [hdf]
    have k61 := k6.only hO1 (by simp)
    have Hne := Lib.hid hne
    have K61 := Lib.hid k61
    clear e0 e1 e2 e3 e4 hne hdf Hrl k61
    gi_wp2_with (fail)
    refine ⟨trivial, ?_⟩
    refine (callsIn_wide.2 (known_any w1)).mono ?_
    rintro e w2 ⟨rfl, hO2⟩
    have k62 := K61.out.only hO2 (by simp)
    have d0 : w2.cell? ⟨b6, 0, none⟩ = some (.bool false) := k62.cell 0
    have d1 : w2.frozen? ⟨b6, 0, none⟩ = false := k62.frozen 0
    gi_wp2_with (fail)
    have hOx : Only [] w (w2.setCell ⟨b6, 0, none⟩ (.bool true)) := (hO1w.trans hO2).setCell (.inr (by show _ ≤ b6; omega)) _
    have d2 : (w2.setCell ⟨b6, 0, none⟩ (.bool true)).cell? ⟨b6, 0, none⟩ = some (.bool true) := (k62.set 0 (.bool true)).cell 0
    refine ⟨.bool true, ?_, rfl, hOx⟩
    simp [results, Tryd.results4, go_sem, d2]
  · rw [decide_eq_true hz]
    have k51 := k5.only hO1 (by simp)
    have k61 := k6.only hO1 (by simp)
    have kd1 := Kd.out.only hO1 (by simp)
    have e0 : w1.cell? ⟨b3, 0, none⟩ = some (.slice X p q) := kd1.cell 0
    have e1 : w1.cell? ⟨b3, 1, none⟩ = some (.slice Y u v) := kd1.cell 1
    have e2 : w1.cell? ⟨b3, 2, none⟩ = some (.slice A1 n1 c1) := kd1.cell 2
    have e3 : w1.cell? ⟨b3, 3, none⟩ = some (.slice A2 n2 c2) := kd1.cell 3
    have e4 : w1.cell? ⟨b3, 4, none⟩ = some (.slice A3 n3 c3) := kd1.cell 4
    have hz1 := hO1.size
    have HTab := Lib.hid hTab
    obtain ⟨S, hS⟩ : ∃ S, S = fewS s 500 := ⟨_, rfl⟩
    have hSz : S.size ≤ 500 := by rw [hS]; exact (fewS_size s 500).1
    have HS := Lib.hid hS
    clear hz hTab hS
    gi_wp2_with (fail)
    refine ⟨trivial, ?_⟩
    refine (callsIn_wide.2 (few_any s hs w1)).mono ?_
    rintro e w1' ⟨rfl, rfl⟩
    rw [← HS.out]
    gi_wp2_with (fail)
    refine ⟨trivial, ?_⟩
    refine (callsIn_wide.2 (refRuns_any S (by omega) w1 X Y A1 A2 A3 p q u v n1 n2 n3 c1 c2 c3 a b d N1.out N2.out N3.out s1 s2 s3 B (R1.out.only hO1 (by simp)) (R2.out.only hO1 (by simp)) (R3.out.only hO1 (by simp)))).mono ?_
    rintro e w2 ⟨v2, rfl, hown2, hO2⟩
    obtain ⟨L, hL⟩ : ∃ L, L = runsU a b d S := ⟨_, rfl⟩
    have hll : L.length ≤ 500 := by
      rw [hL]
      refine Nat.le_trans (runsL_len a b d _) ?_
      have : ∀ (f p : Nat), (itemsF S f p).length ≤ S.size - p := by
        intro f
        induction f with
        | zero => intro p; simp [itemsF]
        | succ f ih =>
          intro p
          rw [itemsF]
          split
          · have h1 := Lib.width_pos S p
            have := ih (p + (Utf8.decode S p).2)
            rw [List.length_cons]; omega
          · simp
      exact Nat.le_trans (this _ _) (by omega)
    rw [← hL] at hown2
    have HL := Lib.hid hL
    obtain ⟨Av, cv, rfl, hcv, hR, hA0⟩ := own_slice hown2
    replace hA0 : ∀ ad, Av = some ad → w1.heap.size ≤ ad.block := fun ad h => (hA0 ad h).2
    obtain ⟨b10, hb10⟩ : ∃ k, k = w2.heap.size := ⟨_, rfl⟩
    obtain ⟨w3, hw3⟩ : ∃ w3, w3 = w2.alloc (.cells #[.slice Av L.length cv] 48) := ⟨_, rfl⟩
    have hO23 : Only [] w2 w3 := by rw [hw3]; exact (Only.refl _ _).alloc _
    have k10 : Blk w3 b10 48 [.slice Av L.length cv] := by rw [hw3]; exact Blk.new' _ _ _ hb10.symm rfl
    have hO13 := hO2.trans hO23
    have Hb10 := Lib.hid hb10
    have Hw3 := Lib.hid hw3
    have k53 := k51.only hO13 (by simp)
    have k63 := k61.only hO13 (by simp)
    have hR3 := hR.only hO23 (by simp)
    have hO3w := hO1w.trans hO13
    have hz2 := hO2.size
    clear hL hb10 hw3 e0 e1 e2 e3 e4 kd1 k51 k61 hown2 hR hO23
    gi_upto_region 6 with (fail)
    rw [← Hb10.out, ← Hw3.out]
    gi_wp2_with (fail)
    refine ⟨trivial, ?_⟩
    refine (callsIn_wide.2 (runs_any S g w3)).mono ?_
    obtain ⟨bt, hbt⟩ : ∃ k, k = w3.heap.size := ⟨_, rfl⟩
    rw [← hbt]
    have kt : Blk ((w3.alloc (.cells #[.pointer (some ⟨g, 0, none⟩)] 22)).alloc (.cells #[.string S] 9)) bt 22 [.pointer (some ⟨g, 0, none⟩)] := (Blk.new' _ _ _ hbt.symm rfl).alloc _
    have ks : Blk ((w3.alloc (.cells #[.pointer (some ⟨g, 0, none⟩)] 22)).alloc (.cells #[.string S] 9)) (bt + 1) 9 [.string S] := Blk.new' _ _ _ (by simp; omega) rfl
    have hO34 : Only [] w3 ((w3.alloc (.cells #[.pointer (some ⟨g, 0, none⟩)] 22)).alloc (.cells #[.string S] 9)) := ((Only.refl _ _).alloc _).alloc _
    have hz34 : ((w3.alloc (.cells #[.pointer (some ⟨g, 0, none⟩)] 22)).alloc (.cells #[.string S] 9)).heap.size = bt + 2 := by simp; omega
    rintro e w4 ⟨rfl, hw4⟩
    rw [← hw4] at kt ks hO34 hz34
    have hsn := eql_seq_nil (.func 21) #[] #[.pointer (some ⟨bt + 1, 0, none⟩), .pointer (some ⟨bt, 0, none⟩)] w4
    have k54 := k53.only hO34 (by simp)
    have k64 := k63.only hO34 (by simp)
    have k104 := k10.only hO34 (by simp)
    have hR4 := hR3.only hO34 (by simp)
    have hO4w := hO3w.trans hO34
    have hO14 := hO13.trans hO34
    have e5 : w4.cell? ⟨b5, 0, none⟩ = some (.int .i64 stop) := k54.cell 0
    have f5 := k54.frozen 0
    have hz13 := hO13.size
    have hbtl : b6 < bt := by omega
    clear hw4 hbt k53 k63 k10 hR3 hO3w hO13 hO34
    gi_wp2_with (fail)
    refine ⟨trivial, ?_⟩
    refine (callsIn_wide.2 (within_any stop 0 9 w4 hstop (by omega) (by omega) (by omega))).mono ?_
    rintro e w4' ⟨rfl, rfl⟩
    obtain ⟨st, hst⟩ : ∃ z, z = within stop 0 9 := ⟨_, rfl⟩
    rw [← hst]
    obtain ⟨w5, hw5⟩ : ∃ z, z = w4.setCell ⟨b5, 0, none⟩ (.int .i64 st) := ⟨_, rfl⟩
    have hO45 : Only [b5] w4 w5 := by rw [hw5]; exact (Only.refl _ _).setCell (.inl (by simp)) _
    have k55 : Blk w5 b5 3 [.int .i64 st] := by rw [hw5]; exact k54.set 0 (.int .i64 st)
    have k65 := k64.only hO45 (by simp; omega)
    have k105 := k104.only hO45 (by simp; have := Hb10.out; omega)
    have kt5 := kt.only hO45 (by simp; omega)
    have ks5 := ks.only hO45 (by simp; omega)
    have hR5 := hR4.only' hO45 (fun ad hA hn => by have := hA0 ad hA; simp; omega)
    have hO5w : Only [] w w5 := hO4w.trans' hO45 (by simp; omega)
    have Hw5 := Lib.hid hw5
    have hz5 : w5.heap.size = bt + 2 := by rw [hw5]; simp [World.setCell]; omega
    clear hst hw5 k54 k64 k104 kt ks hR4 hO4w hsn
    gi_upto_region 10 with (fail)
    rw [← Hw5.out]
    clear e5 f5
    have hTab5 : Tab w5 W0.heap.size g a b d := by
      have h4 := HTab.out.only hO14 (by simp)
      exact h4.only hO45 (by simp; omega)
    have hTt5 := hT.only hO5w (by simp) (by simp)
    have hWb : W0.heap.size ≤ w5.heap.size := by have := hO14.size; have := hO45.size; have := hz1; omega
    have hrs := runs_stops 3 (by omega) (bt + 1) bt w5.heap.size S (by omega) w5 W0.heap.size g a b d hTab5 hWb rfl (ks5.cell 0) (kt5.cell 0) hTt5
    have Hrs := Lib.hid hrs
    have HT5 := Lib.hid hTt5
    clear hrs hTab5 hTt5
    have Hz5 := Lib.hid hz5
    clear hz5
    obtain ⟨bu, hbu⟩ : ∃ k, k = w5.heap.size := ⟨_, rfl⟩
    obtain ⟨w6, hw6⟩ : ∃ z, z = w5.alloc (.cells #[.int .i64 0] 3) := ⟨_, rfl⟩
    have ku : Blk w6 bu 3 [.int .i64 0] := by rw [hw6]; exact Blk.new' _ _ _ hbu.symm rfl
    have hO56 : Only [] w5 w6 := by rw [hw6]; exact (Only.refl _ _).alloc _
    have hz6 : w6.heap.size = bu + 1 := by rw [hw6]; simp; omega
    have Hw6 := Lib.hid hw6
    have Hbu := Lib.hid hbu
    clear hw6 hbu
    gi_wp2_with (fail)
    rw [← Hbu.out, ← Hw6.out]
    refine wpIn_loop_rounds 3 ?_
    unfold Code.roundsIn
    have u0 : w6.cell? ⟨bu, 0, none⟩ = some (.int .i64 0) := ku.cell 0
    gi_wp2_with (fail)
    obtain ⟨bn, hbn⟩ : ∃ z, z = bu + 1 := ⟨_, rfl⟩
    obtain ⟨w7, hw7⟩ : ∃ z, z = w6.alloc (.cells #[.int .i64 0] 3) := ⟨_, rfl⟩
    rw [← hbn, ← hw7]
    have kn : Blk w7 bn 3 [.int .i64 0] := by rw [hw7]; exact Blk.new' _ _ _ (by omega) rfl
    have hO67 : Only [] w6 w7 := by rw [hw7]; exact (Only.refl _ _).alloc _
    have hO57 := hO56.trans hO67
    have hz7 : w7.heap.size = bn + 1 := by rw [hw7]; simp; omega
    have hz56 := hO56.size
    have hubn : w5.heap.size ≤ bu ∧ bu < bn := ⟨by have := Hbu.out; omega, by omega⟩
    have Hz7 := Lib.hid hz7
    have k57 := k55.only hO57 (by simp)
    have k67 := k65.only hO57 (by simp)
    have k107 := k105.only hO57 (by simp)
    have ku7 := ku.only hO67 (by simp)
    have hR7 := hR5.only hO57 (by simp)
    have hlow : b6 < b10 ∧ b10 < w5.heap.size ∧ b5 < b6 := by
      have h1 := k105.lt
      have h2 := Hb10.out
      omega
    have HO57 := Lib.hid hO57
    have HO5w := Lib.hid hO5w
    clear hw7 hbn k55 k65 k105 ku hR5 u0 hO56 hO67 hO57 hO5w hz6 hz7 kt5 ks5
    have HR7 := Lib.hid hR7
    clear hR7
    refine wpIn_rangeFunc_ownC rfl (by omega) (gf := 21) (lb := #[.pointer (some ⟨bt + 1, 0, none⟩), .pointer (some ⟨bt, 0, none⟩)]) rfl trivial (enters_of Tryd.func21 (by kernel_rfl) rfl)
      Hrs.out KpRn.trans (KpRn.put (by have := Hz7.out; omega)) (HO57.out.belowB (Nat.le_refl _) (by simp)) (fun _ => rfl) (RI w7 bn) (fun _ _ _ => False) (RI.own w7 bn kn.lt) (fun c => fun _ _ _ _ h => h.elim)
      ⟨Only.refl _ _, kn⟩
      (fun x a' W => ∃ Bx, Blk W Bx 39 x.enc ∧ bn < Bx ∧ a' = { tmps := #[.agg #[.slice X p q, .slice Y u v, .slice A1 n1 c1, .slice A2 n2 c2, .slice A3 n3 c3], .string S, .int .i64 stop, .pointer (some ⟨b3, 0, none⟩), undef, .pointer (some ⟨b5, 0, none⟩), .pointer (some ⟨b6, 0, none⟩), .pointer (some ⟨g, 0, none⟩), .bool true, .bool true, .pointer (some ⟨b10, 0, none⟩), .func (.func 21) #[] #[.pointer (some ⟨bt + 1, 0, none⟩), .pointer (some ⟨bt, 0, none⟩)], .pointer (some ⟨bu, 0, none⟩), .pointer (some ⟨bn, 0, none⟩), .pointer (some ⟨Bx, 0, none⟩), .tuple #[.pointer (some ⟨g, 0, none⟩), .bool true, .bool true], .agg #[.slice X p q, .slice Y u v, .slice A1 n1 c1, .slice A2 n2 c2, .slice A3 n3 c3], .tuple #[.pointer (some ⟨g, 0, none⟩), .bool true, .bool true], .pointer (some ⟨g, 0, none⟩), .bool true, .bool true, .bool true, .bool false, undef, undef, undef, undef, .string s, .string S, .agg #[.slice X p q, .slice Y u v, .slice A1 n1 c1, .slice A2 n2 c2, .slice A3 n3 c3], .string S, .slice Av L.length cv, .pointer (some ⟨g, 0, none⟩), .string S, .func (.func 21) #[] #[.pointer (some ⟨bt + 1, 0, none⟩), .pointer (some ⟨bt, 0, none⟩)], .func (.func 21) #[] #[.pointer (some ⟨bt + 1, 0, none⟩), .pointer (some ⟨bt, 0, none⟩)], .bool false, .int .i64 stop, .int .i64 st, .int .i64 0, .bool true, undef, undef, .func (.func 21) #[] #[.pointer (some ⟨bt + 1, 0, none⟩), .pointer (some ⟨bt, 0, none⟩)], .agg x.enc.toArray, undef, undef, undef, undef, undef, undef, undef, undef, undef, undef, undef, undef, undef, undef, undef, undef, undef, undef, undef, undef, undef, undef, undef, undef, undef, undef, undef, undef, undef, undef, undef, undef, undef, undef, undef, undef, undef, undef, undef, undef, undef, undef, undef, undef, undef, undef, undef, undef, undef, undef, undef, undef, undef, undef, undef, undef, undef, undef, undef, undef, undef, undef], defers := [] })
      (fun x a' => by
        rintro _ W W' row ⟨Bx, h1, h2, h3⟩ hg hr
        exact ⟨Bx, grown_cells hg (fun r e => (hr r e).2) h1, h2, h3⟩) ?assign ?body ?done ?stop
    case assign =>
      rintro l pre ⟨xk, xf, xt, xn⟩ W K hsz hsp hi hK
      simp only [RunD.enc] at hK ⊢
      gi_wp2
      obtain ⟨h1, h2⟩ := hi
      have hlt := h2.lt
      have hz := h1.size
      have hOa : Only [] W (W.alloc (.cells #[.int .i64 (xk : Int), .int .i64 (xf : Int), .int .i64 (xt : Int), .int .i64 (xn : Int)] 39)) := (Only.refl _ _).alloc _
      exact hK _ _ ((KeepsOthers.alloc _ _).from _) (KpRn.only hOa (by omega) (by simp) (by simp)) ⟨h1.alloc _, h2.alloc _⟩ (by simp; omega) ⟨W.heap.size, Blk.new' _ _ _ rfl rfl, hlt, rfl⟩
    case body =>
      rintro l pre ⟨xk, xf, xt, xn⟩ a' W hl ⟨r, hr⟩ hszz ⟨hOW, kn⟩ ⟨Bx, hbx, hBx, rfl⟩ hlen hspx
      have hx := prefix_at hspx
      rw [← HL.out] at hx hlen
      obtain ⟨i, hi⟩ : ∃ i, i = pre.length := ⟨_, rfl⟩
      rw [← hi] at hx hlen kn
      have hk5 := k57.only hOW (by simp; omega)
      have hk6 := k67.only hOW (by simp; omega)
      have hk10 := k107.only hOW (by simp; omega)
      have hku := ku7.only hOW (by simp; omega)
      have hzW := hOW.size
      have hsz7 := Hz7.out
      obtain ⟨g', o', rfl, -, q0, q1, q2, q3⟩ := (HR7.out.only hOW (by have := Hb10.out; simp; omega)).rn hx
      simp only at q0 q1 q2 q3
      have e0 : W.cell? ⟨Bx, 0, none⟩ = some (.int .i64 (xk : Int)) := hbx.cell 0
      have e1 : W.cell? ⟨Bx, 1, none⟩ = some (.int .i64 (xf : Int)) := hbx.cell 1
      have e2 : W.cell? ⟨Bx, 2, none⟩ = some (.int .i64 (xt : Int)) := hbx.cell 2
      have e3 : W.cell? ⟨Bx, 3, none⟩ = some (.int .i64 (xn : Int)) := hbx.cell 3
      have cn : W.cell? ⟨bn, 0, none⟩ = some (.int .i64 (i : Int)) := kn.cell 0
      have fn : W.frozen? ⟨bn, 0, none⟩ = false := kn.frozen 0
      have c10 : W.cell? ⟨b10, 0, none⟩ = some (.slice (some ⟨g', o', none⟩) L.length cv) := hk10.cell 0
      have c5 : W.cell? ⟨b5, 0, none⟩ = some (.int .i64 st) := hk5.cell 0
      have cu : W.cell? ⟨bu, 0, none⟩ = some (.int .i64 0) := hku.cell 0
      have hdf : decide (L.length ≤ i) = false := decide_eq_false (by omega)
      have hdt : decide (i < L.length) = true := decide_eq_true hlen
      have Hi := Lib.hid hi
      clear hi hx hspx
      gi_wp2_with (fail)
      refine region_quiet_r (by kernel_rfl) (by kernel_rfl) (by kernel_rfl) ?_
      repeat (gi_big_quiet_step (fail))
      refine wpQuietIn_nil ?_
      rintro _ ⟨nq, rfl⟩
      gi_wp2_with (fail)
      have hOb : Only [bn] W ((W.drewN nq).setCell ⟨bn, 0, none⟩ (.int .i64 ((i : Int) + 1))) := ((Only.refl [bn] W).drewN _).setCell (.inl (by simp)) _
      have hkb : ∃ cs t, W.heap[bn]? = some (.cells cs t (0, 0)) ∧ (t ≠ 39 ∨ cs.size ≠ 4) := ⟨_, _, kn, .inl (by decide)⟩
      refine ⟨KeepsFrom.only hOb (by simp; omega), KpRn.only hOb (by omega) (by simp; omega) (by simpa using hkb), hOW.trans hOb, ?_⟩
      have h9 := (kn.drewN nq).set 0 (.int .i64 ((i : Int) + 1))
      rw [List.length_append, ← Hi.out]
      exact h9
    case stop =>
      rintro D c pre W hD hpre h hK
      exact h.elim
    case done =>
      rintro D ys W hD rfl ⟨hOW, kn⟩ hK
      rw [← HL.out] at kn
      have hsz7 := Hz7.out
      have hk5 := k57.only hOW (by simp; omega)
      have hk6 := k67.only hOW (by simp; omega)
      have hk10 := k107.only hOW (by simp; omega)
      have hku := ku7.only hOW (by simp; omega)
      have hRW := HR7.out.only hOW (by have := Hb10.out; simp; omega)
      have cn : W.cell? ⟨bn, 0, none⟩ = some (.int .i64 (L.length : Int)) := kn.cell 0
      have c10 : W.cell? ⟨b10, 0, none⟩ = some (.slice Av L.length cv) := hk10.cell 0
      have cu : W.cell? ⟨bu, 0, none⟩ = some (.int .i64 0) := hku.cell 0
      have hOu : Only [] w5 W := HO57.out.trans' hOW (by simp; omega)
      clear kn k57 k67 k107 ku7 HR7
      gi_wp2_with (fail)
      unfold Code.roundsIn
      obtain ⟨bu2, hbu2⟩ : ∃ z, z = W.heap.size := ⟨_, rfl⟩
      rw [← hbu2]
      obtain ⟨W2, hW2⟩ : ∃ z, z = W.alloc (.cells #[.int .i64 1] 3) := ⟨_, rfl⟩
      rw [← hW2]
      have ku2 : Blk W2 bu2 3 [.int .i64 1] := by rw [hW2]; exact Blk.new' _ _ _ hbu2.symm rfl
      have hOW2 : Only [] W W2 := by rw [hW2]; exact (Only.refl _ _).alloc _
      have hz2' : W2.heap.size = bu2 + 1 := by rw [hW2]; simp; omega
      have u2 : W2.cell? ⟨bu2, 0, none⟩ = some (.int .i64 1) := ku2.cell 0
      have Hbu2 := Lib.hid hbu2
      have Hz2' := Lib.hid hz2'
      clear hW2 hbu2 hz2' c10 cn cu
      gi_wp2_with (fail)
      rw [Hz2'.out]
      obtain ⟨bn2, hbn2⟩ : ∃ z, z = bu2 + 1 := ⟨_, rfl⟩
      obtain ⟨W3, hW3⟩ : ∃ z, z = W2.alloc (.cells #[.int .i64 0] 3) := ⟨_, rfl⟩
      rw [← hbn2, ← hW3]
      have kn2 : Blk W3 bn2 3 [.int .i64 0] := by rw [hW3]; exact Blk.new' _ _ _ (by have := Hz2'.out; omega) rfl
      have hO23 : Only [] W2 W3 := by rw [hW3]; exact (Only.refl _ _).alloc _
      have hOW3 := hOW2.trans hO23
      have hz3' : W3.heap.size = bn2 + 1 := by rw [hW3]; simp; have := Hz2'.out; omega
      have k53 := hk5.only hOW3 (by simp)
      have k63 := hk6.only hOW3 (by simp)
      have k103 := hk10.only hOW3 (by simp)
      have ku3 := ku2.only hO23 (by simp)
      have hR3' := hRW.only hOW3 (by simp)
      have hK3 : W3.heap[D]? = some (.deferred (some [])) := (hOW3.block D (Array.getElem?_eq_some_iff.1 hK).1 (by simp)).trans hK
      have hDl : D < W.heap.size := (Array.getElem?_eq_some_iff.1 hK).1
      have hO53 : Only [] w5 W3 := hOu.trans hOW3
      have hord : W.heap.size ≤ bu2 ∧ bu2 < bn2 := ⟨by have := Hbu2.out; omega, by omega⟩
      have HO53 := Lib.hid hO53
      have HR3 := Lib.hid hR3'
      have Hz3 := Lib.hid hz3'
      have hWz := hOW.size
      clear hW3 hbn2 u2 hk5 hk6 hk10 ku2 hRW hR3' hO23 hOW2 hOW3 hku hz3' hO53 hOu hOW
      refine wpIn_rangeFunc_ownC rfl (by omega) (gf := 21) (lb := #[.pointer (some ⟨bt + 1, 0, none⟩), .pointer (some ⟨bt, 0, none⟩)]) rfl trivial (enters_of Tryd.func21 (by kernel_rfl) rfl)
        Hrs.out KpRn.trans (KpRn.put (by have := Hz3.out; omega)) (HO53.out.belowB (Nat.le_refl _) (by simp)) (fun _ => rfl) (RI W3 bn2) (RX W3 b6 bn2) (RI.own W3 bn2 kn2.lt) (fun c => RX.own W3 b6 bn2 c k63.lt)
        ⟨Only.refl _ _, kn2⟩
        (fun x a' W => ∃ Bx, Blk W Bx 39 x.enc ∧ bn2 < Bx ∧ a' = { tmps := #[.agg #[.slice X p q, .slice Y u v, .slice A1 n1 c1, .slice A2 n2 c2, .slice A3 n3 c3], .string S, .int .i64 stop, .pointer (some ⟨b3, 0, none⟩), undef, .pointer (some ⟨b5, 0, none⟩), .pointer (some ⟨b6, 0, none⟩), .pointer (some ⟨g, 0, none⟩), .bool true, .bool true, .pointer (some ⟨b10, 0, none⟩), .func (.func 21) #[] #[.pointer (some ⟨bt + 1, 0, none⟩), .pointer (some ⟨bt, 0, none⟩)], .pointer (some ⟨bu2, 0, none⟩), .pointer (some ⟨bn2, 0, none⟩), .pointer (some ⟨Bx, 0, none⟩), .tuple #[.pointer (some ⟨g, 0, none⟩), .bool true, .bool true], .agg #[.slice X p q, .slice Y u v, .slice A1 n1 c1, .slice A2 n2 c2, .slice A3 n3 c3], .tuple #[.pointer (some ⟨g, 0, none⟩), .bool true, .bool true], .pointer (some ⟨g, 0, none⟩), .bool true, .bool true, .bool true, .bool false, undef, undef, undef, undef, .string s, .string S, .agg #[.slice X p q, .slice Y u v, .slice A1 n1 c1, .slice A2 n2 c2, .slice A3 n3 c3], .string S, .slice Av L.length cv, .pointer (some ⟨g, 0, none⟩), .string S, .func (.func 21) #[] #[.pointer (some ⟨bt + 1, 0, none⟩), .pointer (some ⟨bt, 0, none⟩)], .func (.func 21) #[] #[.pointer (some ⟨bt + 1, 0, none⟩), .pointer (some ⟨bt, 0, none⟩)], .bool false, .int .i64 stop, .int .i64 st, .int .i64 1, .bool true, .int .i64 0, .int .i64 1, .func (.func 21) #[] #[.pointer (some ⟨bt + 1, 0, none⟩), .pointer (some ⟨bt, 0, none⟩)], .agg x.enc.toArray, undef, undef, undef, undef, undef, undef, undef, undef, undef, undef, undef, undef, undef, undef, undef, undef, undef, undef, undef, undef, undef, undef, undef, undef, undef, undef, undef, undef, undef, undef, undef, undef, undef, undef, undef, undef, undef, undef, undef, undef, undef, undef, undef, undef, undef, undef, undef, undef, undef, undef, undef, undef, undef, undef, undef, undef, .int .i64 (L.length : Int), .slice Av L.length cv, .int .i64 (L.length : Int), .bool false, .int .i64 0, undef], defers := [] })
        (fun x a' => by
          rintro _ W W' row ⟨Bx, h1, h2, h3⟩ hg hr
          exact ⟨Bx, grown_cells hg (fun r e => (hr r e).2) h1, h2, h3⟩) ?assign2 ?body2 ?done2 ?stop2
      case assign2 =>
        rintro l pre ⟨xk, xf, xt, xn⟩ W K hsz hsp hi hK
        simp only [RunD.enc] at hK ⊢
        gi_wp2
        obtain ⟨h1, h2⟩ := hi
        have hlt := h2.lt
        have hz := h1.size
        have hOa : Only [] W (W.alloc (.cells #[.int .i64 (xk : Int), .int .i64 (xf : Int), .int .i64 (xt : Int), .int .i64 (xn : Int)] 39)) := (Only.refl _ _).alloc _
        exact hK _ _ ((KeepsOthers.alloc _ _).from _) (KpRn.only hOa (by omega) (by simp) (by simp)) ⟨h1.alloc _, h2.alloc _⟩ (by simp; omega) ⟨W.heap.size, Blk.new' _ _ _ rfl rfl, hlt, rfl⟩
      case body2 =>
        rintro l pre ⟨xk, xf, xt, xn⟩ a' W hl ⟨r, hr⟩ hszz ⟨hOW, kn⟩ ⟨Bx, hbx, hBx, rfl⟩ hlen hspx
        have hx := prefix_at hspx
        rw [← HL.out] at hx hlen
        obtain ⟨i, hi⟩ : ∃ i, i = pre.length := ⟨_, rfl⟩
        rw [← hi] at hx hlen kn
        have hk5 := k53.only hOW (by simp; omega)
        have hk6 := k63.only hOW (by simp; omega)
        have hk10 := k103.only hOW (by simp; omega)
        have hku := ku3.only hOW (by simp; omega)
        have hzW := hOW.size
        have hsz7 := Hz3.out
        obtain ⟨g', o', rfl, -, q0, q1, q2, q3⟩ := (HR3.out.only hOW (by have := Hb10.out; simp; omega)).rn hx
        simp only at q0 q1 q2 q3
        have e0 : W.cell? ⟨Bx, 0, none⟩ = some (.int .i64 (xk : Int)) := hbx.cell 0
        have e1 : W.cell? ⟨Bx, 1, none⟩ = some (.int .i64 (xf : Int)) := hbx.cell 1
        have e2 : W.cell? ⟨Bx, 2, none⟩ = some (.int .i64 (xt : Int)) := hbx.cell 2
        have e3 : W.cell? ⟨Bx, 3, none⟩ = some (.int .i64 (xn : Int)) := hbx.cell 3
        have cn : W.cell? ⟨bn2, 0, none⟩ = some (.int .i64 (i : Int)) := kn.cell 0
        have fn : W.frozen? ⟨bn2, 0, none⟩ = false := kn.frozen 0
        have c10 : W.cell? ⟨b10, 0, none⟩ = some (.slice (some ⟨g', o', none⟩) L.length cv) := hk10.cell 0
        have c5 : W.cell? ⟨b5, 0, none⟩ = some (.int .i64 st) := hk5.cell 0
        have cu : W.cell? ⟨bu2, 0, none⟩ = some (.int .i64 1) := hku.cell 0
        have hdf : decide (L.length ≤ i) = false := decide_eq_false (by omega)
        have hdt : decide (i < L.length) = true := decide_eq_true hlen
        have Hi := Lib.hid hi
        clear hi hx hspx
        by_cases hist : (i : Int) = st
        · subst hist
          gi_wp2_with (fail)
          refine region_quiet_r (by kernel_rfl) (by kernel_rfl) (by kernel_rfl) ?_
          repeat (gi_big_quiet_step (fail))
          refine wpQuietIn_nil ?_
          rintro _ ⟨nq, rfl⟩
          gi_wp2_with (fail)
          refine ⟨trivial, ?_⟩
          refine (CallsIn.inRound l (callsIn_wide.2 (known_any (W.drewN nq)))).mono ?_
          rintro e W4 ⟨rfl, hO4⟩
          have hOa : Only [] W W4 := ((Only.refl [] W).drewN nq).trans hO4
          have hk64 := hk6.only hOa (by simp)
          have c64 : W4.cell? ⟨b6, 0, none⟩ = some (.bool false) := hk64.cell 0
          have f64 : W4.frozen? ⟨b6, 0, none⟩ = false := hk64.frozen 0
          gi_wp2_with (fail)
          have hOb : Only [b6] W (W4.setCell ⟨b6, 0, none⟩ (.bool true)) := (hOa.mono (by simp)).setCell (.inl (by simp)) _
          exact ⟨KeepsFrom.only hOb (by simp; omega), rfl, (hOW.mono (by simp)).trans (hOb.mono (by simp)), hk64.set 0 (.bool true)⟩
        · have hib : ((i : Int) == st) = false := by simp; exact hist
          gi_wp2_with (fail)
          refine region_quiet_r (by kernel_rfl) (by kernel_rfl) (by kernel_rfl) ?_
          repeat (gi_big_quiet_step (fail))
          refine wpQuietIn_nil ?_
          rintro _ ⟨nq, rfl⟩
          gi_wp2_with (fail)
          have hOb : Only [bn2] W ((W.drewN nq).setCell ⟨bn2, 0, none⟩ (.int .i64 ((i : Int) + 1))) := ((Only.refl [bn2] W).drewN _).setCell (.inl (by simp)) _
          have hkb : ∃ cs t, W.heap[bn2]? = some (.cells cs t (0, 0)) ∧ (t ≠ 39 ∨ cs.size ≠ 4) := ⟨_, _, kn, .inl (by decide)⟩
          refine ⟨KeepsFrom.only hOb (by simp; omega), KpRn.only hOb (by omega) (by simp; omega) (by simpa using hkb), hOW.trans hOb, ?_⟩
          have h9 := (kn.drewN nq).set 0 (.int .i64 ((i : Int) + 1))
          rw [List.length_append, ← Hi.out]
          exact h9
      case stop2 =>
        rintro D2 c pre W4 hD2 hpre ⟨rfl, hOX, hb⟩ hK2
        gi_wp2_with (fail)
        have hzz := Hz3.out
        have hK4 : W4.heap[D]? = some (.deferred (some [])) := (hOX.block D (Array.getElem?_eq_some_iff.1 hK3).1 (by simp; omega)).trans hK3
        have c4 : W4.cell? ⟨b6, 0, none⟩ = some (.bool true) := hb.cell 0
        have hO5 := HO5w.out
        have h6w : w.heap.size ≤ b6 := by omega
        have hOx : Only [] w W4 := (hO5.trans HO53.out).trans' hOX (by have := hO5.size; simp; omega)
        have hwz := hO5.size
        refine ⟨by simp, .inl ⟨_, _, rfl, run_takeDeferred hK2, ?_⟩⟩
        have hOy : Only [] w (W4.putObj D2 (.deferred none)) := hOx.trans' (l' := [D2]) ⟨rfl, rfl, rfl, by simp [World.putObj], fun k _ hk => World.putObj_heap_other (by simpa using hk)⟩ (by simp; omega)
        have hK5 : (W4.putObj D2 (.deferred none)).heap[D]? = some (.deferred (some [])) := (World.putObj_heap_other (by omega)).trans hK4
        have c5 : (W4.putObj D2 (.deferred none)).cell? ⟨b6, 0, none⟩ = some (.bool true) := (World.cell?_of_block (World.putObj_heap_other (by show b6 ≠ D2; omega))).trans c4
        generalize (W4.putObj D2 (.deferred none)) = W5 at hOy hK5 c5 ⊢
        refine ⟨by simp, .inl ⟨_, _, rfl, run_takeDeferred hK5, ?_⟩⟩
        have hwD : w.heap.size ≤ D := by have := HO57.out.size; omega
        have hOz : Only [] w (W5.putObj D (.deferred none)) := hOy.trans' (l' := [D]) ⟨rfl, rfl, rfl, by simp [World.putObj], fun k _ hk => World.putObj_heap_other (by simpa using hk)⟩ (by simpa using hwD)
        have c6 : (W5.putObj D (.deferred none)).cell? ⟨b6, 0, none⟩ = some (.bool true) := (World.cell?_of_block (World.putObj_heap_other (by show b6 ≠ D; omega))).trans c5
        exact ⟨.bool true, by simp [results, Tryd.results4, go_sem, c6], rfl, hOz⟩
      case done2 =>
        rintro D2 ys W4 hD2 rfl ⟨hOW4, kn⟩ hK2
        rw [← HL.out] at kn
        have hsz7 := Hz3.out
        have hk6 := k63.only hOW4 (by simp; omega)
        have hk10 := k103.only hOW4 (by simp; omega)
        have hku := ku3.only hOW4 (by simp; omega)
        have cn : W4.cell? ⟨bn2, 0, none⟩ = some (.int .i64 (L.length : Int)) := kn.cell 0
        have c10 : W4.cell? ⟨b10, 0, none⟩ = some (.slice Av L.length cv) := hk10.cell 0
        have cu : W4.cell? ⟨bu2, 0, none⟩ = some (.int .i64 1) := hku.cell 0
        have hK4 : W4.heap[D]? = some (.deferred (some [])) := (hOW4.block D (Array.getElem?_eq_some_iff.1 hK3).1 (by simp; omega)).trans hK3
        gi_wp2_with (fail)
        unfold Code.roundsIn
        obtain ⟨bu3, hbu3⟩ : ∃ z, z = W4.heap.size := ⟨_, rfl⟩
        have ku4 : Blk (W4.alloc (.cells #[.int .i64 2] 3)) bu3 3 [.int .i64 2] := Blk.new' _ _ _ hbu3.symm rfl
        rw [← hbu3]
        have u4 : (W4.alloc (.cells #[.int .i64 2] 3)).cell? ⟨bu3, 0, none⟩ = some (.int .i64 2) := ku4.cell 0
        clear hbu3
        gi_wp2_with (fail)
        refine ⟨trivial, ?_⟩
        have hwz := HO5w.out.size
        have hwD : w.heap.size ≤ D := by have := HO57.out.size; omega
        have hwb6 : w.heap.size ≤ b6 := by omega
        have hOx : Only [] w (W4.alloc (.cells #[.int .i64 2] 3)) := ((HO5w.out.trans HO53.out).trans' hOW4 (by simp; omega)).alloc _
        have hk6 := hk6.alloc (.cells #[.int .i64 2] 3)
        have hK4 := (Below.heap_alloc W4 (.cells #[.int .i64 2] 3) D (Array.getElem?_eq_some_iff.1 hK4).1).trans hK4
        have hK2 := (Below.heap_alloc W4 (.cells #[.int .i64 2] 3) D2 (Array.getElem?_eq_some_iff.1 hK2).1).trans hK2
        clear u4 ku4
        generalize W4.alloc (.cells #[.int .i64 2] 3) = W4 at hOx hk6 hK4 hK2 ⊢
        refine (callsIn_wide.2 (known_any W4)).mono ?_
        rintro e W5 ⟨rfl, hO5⟩
        have hk65 := hk6.only hO5 (by simp)
        have c6 : W5.cell? ⟨b6, 0, none⟩ = some (.bool false) := hk65.cell 0
        have f6 : W5.frozen? ⟨b6, 0, none⟩ = false := hk65.frozen 0
        have hK45 := (hO5.block D (Array.getElem?_eq_some_iff.1 hK4).1 (by simp)).trans hK4
        have hK25 := (hO5.block D2 (Array.getElem?_eq_some_iff.1 hK2).1 (by simp)).trans hK2
        have hDD : b6 < D ∧ D < D2 ∧ w.heap.size ≤ D2 := by omega
        have hOx5 := hOx.trans hO5
        clear hO5 hK4 hK2 hOx
        gi_wp2_with (fail)
        have hb6 := hk65.set 0 (.bool true)
        have c7 : (W5.setCell ⟨b6, 0, none⟩ (.bool true)).cell? ⟨b6, 0, none⟩ = some (.bool true) := hb6.cell 0
        have hOx6 : Only [] w (W5.setCell ⟨b6, 0, none⟩ (.bool true)) := hOx5.setCell (.inr (by show _ ≤ b6; omega)) _
        have hK46 := (Below.heap_setCell W5 ⟨b6, 0, none⟩ (.bool true) D (by show D ≠ b6; omega)).trans hK45
        have hK26 := (Below.heap_setCell W5 ⟨b6, 0, none⟩ (.bool true) D2 (by show D2 ≠ b6; omega)).trans hK25
        clear c6 f6 hK45 hK25 hOx5 hb6
        generalize W5.setCell ⟨b6, 0, none⟩ (.bool true) = W6 at c7 hOx6 hK46 hK26 ⊢
        refine ⟨by simp, .inl ⟨_, _, rfl, run_takeDeferred hK26, ?_⟩⟩
        have hOy : Only [] w (W6.putObj D2 (.deferred none)) := hOx6.trans' (l' := [D2]) ⟨rfl, rfl, rfl, by simp [World.putObj], fun k _ hk => World.putObj_heap_other (by simpa using hk)⟩ (by simp; omega)
        have hK5 : (W6.putObj D2 (.deferred none)).heap[D]? = some (.deferred (some [])) := (World.putObj_heap_other (by omega)).trans hK46
        have c8 : (W6.putObj D2 (.deferred none)).cell? ⟨b6, 0, none⟩ = some (.bool true) := (World.cell?_of_block (World.putObj_heap_other (by show b6 ≠ D2; omega))).trans c7
        generalize (W6.putObj D2 (.deferred none)) = W7 at hOy hK5 c8 ⊢
        refine ⟨by simp, .inl ⟨_, _, rfl, run_takeDeferred hK5, ?_⟩⟩
        have hOz : Only [] w (W7.putObj D (.deferred none)) := hOy.trans' (l' := [D]) ⟨rfl, rfl, rfl, by simp [World.putObj], fun k _ hk => World.putObj_heap_other (by simpa using hk)⟩ (by simpa using hwD)
        have c9 : (W7.putObj D (.deferred none)).cell? ⟨b6, 0, none⟩ = some (.bool true) := (World.cell?_of_block (World.putObj_heap_other (by show b6 ≠ D; omega))).trans c8
        exact ⟨.bool true, by simp [results, Tryd.results4, go_sem, c9], rfl, hOz⟩
end Go.Proofs.YtodgllnmepnpfaaDoor
