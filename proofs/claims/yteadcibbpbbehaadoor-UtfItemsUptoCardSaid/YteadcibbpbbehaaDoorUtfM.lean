/- UtfItems: the walk. -/
import Derived.Test.YteadcibbpbbehaaDoorUtfN
import Derived.Test.YteadcibbpbbehaaDoorUtfQ
import Derived.Test.YteadcibbpbbehaaDoorWithin
import Derived.Test.YteadcibbpbbehaaDoorUtfJ
import Derived.RangeFuncCalls
import Derived.Test.YteadcibbpbbehaaDoorRound
namespace Go.Proofs.YteadcibbpbbehaaDoor
open Go.RowKit
attribute [local go_sem] Oper.semAt_some

/-- what the loop holds between two rounds -/
def II (w : World) (b8 : Nat) (pre : List It) (W : World) : Prop := Only [b8] w W ∧ Blk W b8 3 [.int .i64 (pre.length : Int)]
theorem II.own (w : World) (b8 : Nat) : OwnFrom w.heap.size (II w b8) := by
  rintro pre W W' row ⟨h1, h2⟩ hg hr
  exact ⟨h1.grown hg (fun k e => .inr (hr k e).1), grown_cells hg (fun r e => (hr r e).2) h2⟩
/-- what it holds where it is left early: the result's box says true, if what was handed out were the first items -/
def IX (w : World) (b4 b8 : Nat) (L : List It) (c : Code) (pre : List It) (W : World) : Prop := c = .ret ∧ Only [b8, b4] w W ∧ ∃ b, Blk W b4 4 [.bool b] ∧ (pre <+: L → b = true)
theorem IX.own (w : World) (b4 b8 : Nat) (L : List It) (c : Code) : OwnFrom w.heap.size (IX w b4 b8 L c) := by
  rintro pre W W' row ⟨h0, h1, b, h2, h3⟩ hg hr
  exact ⟨h0, h1.grown hg (fun k e => .inr (hr k e).1), b, grown_cells hg (fun r e => (hr r e).2) h2, h3⟩
theorem KpBn.only {Bn : Nat} {l : List Nat} {W W' : World} (h : Only l W W') (h1 : ∀ x ∈ l, 2 ≤ x ∧ x ≠ Bn) (h2 : ∀ x ∈ l, ∃ v, ∃ t : TypeId, Blk W x t [v]) : KpBn Bn W W' :=
  ⟨fun k hk hl => h.block k hl (fun hm => by have := h1 k hm; omega), fun k cs hk hc => h.block k (Array.getElem?_eq_some_iff.1 hk).1 (fun hm => by
    obtain ⟨v, t, e⟩ := h2 k hm
    have e2 := hk.symm.trans e
    injection e2 with e2; injection e2 with e2 _
    rw [e2] at hc; cases hc)⟩

theorem KeepsFrom.only {B : Nat} {l : List Nat} {W W' : World} (h : Only l W W') (hl : ∀ x ∈ l, x < B) : KeepsFrom B W W' :=
  ⟨h.size, fun k o hB hk _ => (h.block k (Array.getElem?_eq_some_iff.1 hk).1 (fun hm => by have := hl k hm; omega)).trans hk⟩

set_option maxRecDepth 100000 in
set_option maxHeartbeats 4000000 in
theorem utfItems_walk (w : World) (s : ByteArray) (hs : s.size ≤ 1048576) (stop : Int) (hstop : -9223372036854775808 ≤ stop ∧ stop ≤ 9223372036854775807) (hT : Tabs w) :
    Calls Tryd.prog 3 #[.string s, .int .i64 stop] w fun e w' => e = .returned (.bool true) ∧ Only [] w w' := by
  refine (callsIn_wide (n := 4)).1 ?_
  refine callsIn_of_wp_marks Tryd.func3 rfl trivial ?_ rfl
  simp only [Tryd.ntmps3, List.size_toArray, List.length_cons, List.length_nil, Nat.reduceAdd, Nat.reduceSub, Array.replicate_succ, Array.replicate_zero, List.push_toArray, List.append_toArray, List.nil_append, List.cons_append]
  gi_wp2_with (fail)
  refine ⟨trivial, ?_⟩
  refine (callsIn_wide.2 (refItems_any s hs _)).mono ?_
  obtain ⟨b3, hb3⟩ : ∃ k, k = w.heap.size := ⟨_, rfl⟩
  have k3 : Blk ((w.alloc (.cells #[.int .i64 stop] 3)).alloc (.cells #[.bool false] 4)) b3 3 [.int .i64 stop] := (Blk.new' _ _ _ hb3.symm rfl).alloc _
  have k4 : Blk ((w.alloc (.cells #[.int .i64 stop] 3)).alloc (.cells #[.bool false] 4)) (b3 + 1) 4 [.bool false] := Blk.new' _ _ _ (by simp; omega) rfl
  have hO : Only [] w ((w.alloc (.cells #[.int .i64 stop] 3)).alloc (.cells #[.bool false] 4)) := ((Only.refl _ _).alloc _).alloc _
  have hz : ((w.alloc (.cells #[.int .i64 stop] 3)).alloc (.cells #[.bool false] 4)).heap.size = b3 + 2 := by simp; omega
  rw [← hb3]
  have hwb : w.heap.size ≤ b3 := by omega
  have Hb3 := Lib.hid hb3
  clear hb3
  generalize ((w.alloc (.cells #[.int .i64 stop] 3)).alloc (.cells #[.bool false] 4)) = w0 at k3 k4 hO hz ⊢
  rintro e w1 ⟨v1, rfl, hown1, hO1⟩
  obtain ⟨A, c, rfl, hnc, hR, hA0⟩ := own_slice hown1
  have hA1 : ∀ ad, A = some ad → b3 + 2 ≤ ad.block := fun ad e => by have := (hA0 ad e).2; omega
  clear hA0
  rw [← itemsU_eq] at hR hnc ⊢
  have hll : (itemsU s).length ≤ s.size := by
    have := itemsF_len s s.size 0
    unfold itemsU; omega
  have k3 := k3.only hO1 (by simp)
  have k4 := k4.only hO1 (by simp)
  have hOw := hO.trans hO1
  have hz1 : b3 + 2 ≤ w1.heap.size := by have := hO1.size; omega
  clear hO hO1 hz hown1
  obtain ⟨b5, hb5⟩ : ∃ k, k = w1.heap.size := ⟨_, rfl⟩
  obtain ⟨L, hL⟩ : ∃ L, L = itemsU s := ⟨_, rfl⟩
  rw [← hL] at hR hnc hll ⊢
  have hOa : Only [] w1 (w1.alloc (.cells #[.slice A L.length c] 22)) := (Only.refl _ _).alloc _
  have k5 : Blk (w1.alloc (.cells #[.slice A L.length c] 22)) b5 22 [.slice A L.length c] := Blk.new' _ _ _ hb5.symm rfl
  have k3 := k3.only hOa (by simp)
  have k4 := k4.only hOa (by simp)
  have hR := hR.only hOa (by simp)
  rw [← hb5] at hR
  have hOw := hOw.trans hOa
  have hT1 := hT.only hOw (by simp) (by simp)
  have hb35 : b3 + 2 ≤ b5 := by omega
  have HL := Lib.hid hL
  have Hb5 := Lib.hid hb5
  clear hL hb5 hOa hz1
  gi_wp2_with (fail)
  refine ⟨trivial, ?_⟩
  rw [← Hb5.out]
  generalize (w1.alloc (.cells #[.slice A L.length c] 22)) = w2 at k3 k4 k5 hR hOw hT1 ⊢
  refine (callsIn_wide.2 (list_any s hs _ hT1 hT1.size)).mono ?_
  rintro e w3 ⟨v3, rfl, hown3, hO3⟩
  obtain ⟨A3, c3, rfl, hnc3, hR3, -⟩ := own_slice hown3
  rw [← HL.out] at hR3 hnc3 ⊢
  have k3 := k3.only hO3 (by simp)
  have k4 := k4.only hO3 (by simp)
  have k5 := k5.only hO3 (by simp)
  have hR := hR.only hO3 (by simp)
  have hOw := hOw.trans hO3
  have hT3 := hT.only hOw (by simp) (by simp)
  have c5 : w3.cell? ⟨b5, 0, none⟩ = some (.slice A L.length c) := k5.cell 0
  clear hown3 hO3 hT1
  gi_wp2_with (fail)
  refine ⟨trivial, ?_⟩
  refine (callsIn_wide.2 (same_any w3 c3 c L L rfl rfl hR3 hR (by omega) (by omega))).mono ?_
  rintro e w4 ⟨rfl, hO4⟩
  rw [decide_eq_true rfl]
  have k3 := k3.only hO4 (by simp)
  have k4 := k4.only hO4 (by simp)
  have k5 := k5.only hO4 (by simp)
  have hR := hR.only hO4 (by simp)
  have hOw := hOw.trans hO4
  have hz4 := hO4.size
  have e3 : w4.cell? ⟨b3, 0, none⟩ = some (.int .i64 stop) := k3.cell 0
  have f3 : w4.frozen? ⟨b3, 0, none⟩ = false := k3.frozen 0
  have e4 : w4.cell? ⟨b3 + 1, 0, none⟩ = some (.bool false) := k4.cell 0
  have f4 : w4.frozen? ⟨b3 + 1, 0, none⟩ = false := k4.frozen 0
  have hwz := hOw.size
  clear hR3 hT3 c5 hO4
  gi_wp2_with (fail)
  refine ⟨trivial, ?_⟩
  refine (callsIn_wide.2 (within_any stop 0 20 w4 hstop (by omega) (by omega) (by omega))).mono ?_
  rintro e w4' ⟨rfl, rfl⟩
  obtain ⟨k, hk⟩ : ∃ k, k = within stop 0 20 := ⟨_, rfl⟩
  rw [← hk]
  clear hk
  have k3 := k3.set 0 (.int .i64 k)
  have k4 := k4.far (p := ⟨b3, 0, none⟩) (by simp) (.int .i64 k)
  have k5 := k5.far (p := ⟨b3, 0, none⟩) (by show b5 ≠ b3; omega) (.int .i64 k)
  have hR := hR.only' (l := [b3]) ((Only.refl _ _).setCell (p := ⟨b3, 0, none⟩) (.inl (by simp)) (.int .i64 k)) (fun ad h1 h2 => by have := hA1 ad h1; simp; omega)
  have hOw := hOw.setCell (p := ⟨b3, 0, none⟩) (.inr hwb) (.int .i64 k)
  have hz5 : (w4.setCell ⟨b3, 0, none⟩ (.int .i64 k)).heap.size = w4.heap.size := by simp [World.setCell]
  rw [← hz5] at hwz hz4
  have hb5z := k5.lt
  rw [List.set_cons_zero] at k3
  gi_wp2_with (fail)
  refine ⟨trivial, ?_⟩
  clear e3 f3 e4 f4 hz4
  rw [← hz5]
  refine (callsIn_wide.2 (items_any s _)).mono ?_
  obtain ⟨b8, hb8⟩ : ∃ j, j = (w4.setCell ⟨b3, 0, none⟩ (.int .i64 k)).heap.size := ⟨_, rfl⟩
  rw [← hb8] at hwz hb5z ⊢
  generalize (w4.setCell ⟨b3, 0, none⟩ (.int .i64 k)) = w5 at k3 k4 k5 hR hOw hb8 ⊢
  have k8 : Blk (w5.alloc (.cells #[.int .i64 0] 3)) b8 3 [.int .i64 0] := Blk.new' _ _ _ hb8.symm rfl
  have hOa : Only [] w5 (w5.alloc (.cells #[.int .i64 0] 3)) := (Only.refl _ _).alloc _
  have hb9 : (w5.alloc (.cells #[.int .i64 0] 3)).heap.size = b8 + 1 := by simp; omega
  rw [hb9]
  have hOb : Only [] (w5.alloc (.cells #[.int .i64 0] 3)) ((w5.alloc (.cells #[.int .i64 0] 3)).alloc (.cells #[.string s] 9)) := (Only.refl _ _).alloc _
  have kS : Blk ((w5.alloc (.cells #[.int .i64 0] 3)).alloc (.cells #[.string s] 9)) (b8 + 1) 9 [.string s] := Blk.new' _ _ _ hb9 rfl
  have hz6 : ((w5.alloc (.cells #[.int .i64 0] 3)).alloc (.cells #[.string s] 9)).heap.size = b8 + 2 := by simp; omega
  have k8 := k8.only hOb (by simp)
  have hOc := hOa.trans hOb
  have k3 := k3.only hOc (by simp)
  have k4 := k4.only hOc (by simp)
  have k5 := k5.only hOc (by simp)
  have hR := hR.only hOc (by simp)
  have hOw := hOw.trans hOc
  have hT6 := hT.only hOw (by simp) (by simp)
  rintro e w6 ⟨rfl, hw6⟩
  rw [← hw6] at k3 k4 k5 k8 kS hR hOw hz6 hT6
  clear hOa hOb hOc hb9 hw6 hb8
  gi_wp2_with (fail)
  have hwz2 := hT.size
  refine wpIn_rangeFunc_ownH rfl (by omega) (gf := 32) (lb := #[.pointer (some ⟨b8 + 1, 0, none⟩)]) rfl trivial (enters_of Tryd.func32 (by kernel_rfl) rfl)
    (items_stops2 3 (by omega) (b8 + 1) s (by omega) w6 (by omega) (by omega) (kS.cell 0) hT6)
    KpBn.trans (KpBn.put (by omega) (by omega)) (Below.refl _ _) (fun _ => rfl) (II w6 b8) (IX w6 (b3 + 1) b8 L) (II.own w6 b8) (IX.own w6 (b3 + 1) b8 L)
    ⟨Only.refl _ _, k8⟩
    (fun x a' W => ∃ Bx, Blk W Bx 33 x.enc ∧ b8 < Bx ∧ a' = { tmps := #[.string s, .int .i64 stop, undef, .pointer (some ⟨b3, 0, none⟩), .pointer (some ⟨b3 + 1, 0, none⟩), .pointer (some ⟨b5, 0, none⟩), .slice A3 L.length c3, .bool true, .pointer (some ⟨b8, 0, none⟩), .pointer (some ⟨Bx, 0, none⟩), .string s, .slice A L.length c, .tuple #[.slice A3 L.length c3, .bool true], .string s, .tuple #[.slice A3 L.length c3, .bool true], .slice A3 L.length c3, .bool true, .bool true, .bool false, .bool false, .slice A3 L.length c3, .slice A L.length c, .bool true, .bool false, .bool false, .int .i64 stop, .int .i64 k, .string s, .func (.func 32) #[] #[.pointer (some ⟨b8 + 1, 0, none⟩)], .agg x.enc.toArray, undef, undef, undef, undef, undef, undef, undef, undef, undef, undef, undef, undef, undef, undef, undef, undef, undef, undef, undef, undef, undef, undef, undef, undef, undef, undef, undef, undef, undef, undef, undef, undef, undef, undef, undef, undef, undef, undef, undef, undef, undef, undef, undef, undef, undef], defers := [] })
    (fun x a' => by
      rintro _ W W' row ⟨Bx, h1, h2, h3⟩ hg hr
      exact ⟨Bx, grown_cells hg (fun r e => (hr r e).2) h1, h2, h3⟩) ?assign ?body ?done ?stop
  case assign =>
    rintro l pre ⟨xa, xn, xr, xb⟩ W K hi hK
    simp only [It.enc] at hK ⊢
    gi_wp2
    obtain ⟨h1, h2⟩ := hi
    have hsz := h2.lt
    have hOa : Only [] W (W.alloc (.cells #[.int .i64 (xa : Int), .int .i64 (xn : Int), .int .i32 (xr : Int), .bool xb] 33)) := (Only.refl _ _).alloc _
    exact hK _ _ ((KeepsOthers.alloc _ _).from _) (KpBn.only hOa (by simp) (by simp)) ⟨h1.alloc _, h2.alloc _⟩ ⟨W.heap.size, Blk.new' _ _ _ rfl rfl, hsz, rfl⟩
  case body =>
    rintro l pre ⟨xa, xn, xr, xb⟩ a' W hl ⟨r, hr⟩ ⟨hOW, k8⟩ ⟨Bx, hbx, hBx, rfl⟩ hlen
    rw [← HL.out] at hlen
    obtain ⟨i, hi⟩ : ∃ i, i = pre.length := ⟨_, rfl⟩
    rw [← hi] at hlen k8
    obtain ⟨y, hy⟩ : ∃ y, L[i]? = some y := ⟨_, List.getElem?_eq_getElem hlen⟩
    have hk5 := k5.only hOW (by simp; omega)
    have hk3 := k3.only hOW (by simp; omega)
    have hk4 := k4.only hOW (by simp; omega)
    obtain ⟨g, o, rfl, _, q0, -, -, -⟩ := (hR.only hOW (by simp; omega)).it hy
    have c8 : W.cell? ⟨b8, 0, none⟩ = some (.int .i64 (i : Int)) := k8.cell 0
    have c5 : W.cell? ⟨b5, 0, none⟩ = some (.slice (some ⟨g, o, none⟩) L.length c) := hk5.cell 0
    have c3 : W.cell? ⟨b3, 0, none⟩ = some (.int .i64 k) := hk3.cell 0
    have e0 : W.cell? ⟨Bx, 0, none⟩ = some (.int .i64 (xa : Int)) := hbx.cell 0
    have f8 : W.frozen? ⟨b8, 0, none⟩ = false := k8.frozen 0
    have c4 : W.cell? ⟨b3 + 1, 0, none⟩ = some (.bool false) := hk4.cell 0
    have f4 : W.frozen? ⟨b3 + 1, 0, none⟩ = false := hk4.frozen 0
    have hdf : decide (L.length ≤ i) = false := decide_eq_false (by omega)
    have hdt : decide (i < L.length) = true := decide_eq_true hlen
    have hTW : Tabs W := hT.only (hOw.trans' hOW (by simp; omega)) (by simp) (by simp)
    have hmx : Tryd.prog.follows .mixedOrders = true := by kernel_rfl
    obtain ⟨ya, yn, yr, yb⟩ := y
    simp only at q0
    have Hi := Lib.hid hi
    have Hy := Lib.hid hy
    clear hi hy
    by_cases hxy : xa = ya
    · subst hxy
      by_cases hik : (i : Int) = k
      · subst hik
        gi_wp2_with (fail)
        refine region_quiet_r (by kernel_rfl) (by kernel_rfl) (by kernel_rfl) ?_
        repeat (gi_big_quiet_step (fail))
        refine wpQuietIn_nil ?_
        rintro _ ⟨nq, rfl⟩
        gi_wp2_with (fail)
        refine region_seq_r 15 (by kernel_rfl) (by kernel_rfl) ?_
        simp only [headOps, List.take_succ_cons, List.take_zero, List.drop_succ_cons, List.drop_zero, List.map_cons, List.map_nil, List.cons_append, List.nil_append]
        repeat (gi_big_quiet_step (fail))
        refine wpQuietIn_nil ?_
        rintro _ ⟨nr, rfl⟩
        gi_wp2_with (fail)
        refine ⟨trivial, ?_⟩
        refine (CallsIn.inRound l (callsIn_wide.2 (known_any (W.drewN (nq + nr)) (hTW.only ((Only.refl [] W).drewN _) (by simp) (by simp)) hTW.size))).mono ?_
        rintro e W2 ⟨rfl, hO2⟩
        have hOa : Only [] W W2 := ((Only.refl [] W).drewN (nq + nr)).trans ⟨hO2.os, hO2.tape, hO2.output, hO2.size, hO2.block⟩
        have hk42 := hk4.only hOa (by simp)
        have c42 : W2.cell? ⟨b3 + 1, 0, none⟩ = some (.bool false) := hk42.cell 0
        have f42 : W2.frozen? ⟨b3 + 1, 0, none⟩ = false := hk42.frozen 0
        gi_wp2_with (fail)
        have hOb : Only [b3 + 1] W (W2.setCell ⟨b3 + 1, 0, none⟩ (.bool true)) := (hOa.mono (by simp)).setCell (.inl (by simp)) _
        exact ⟨KeepsFrom.only hOb (by simp; omega), rfl, (hOW.mono (by simp)).trans (hOb.mono (by simp)), true, hk42.set 0 (.bool true), fun _ => rfl⟩
      · have hnk : ((i : Int) == k) = false := by simp; exact hik
        gi_wp2_with (fail)
        refine region_quiet_r (by kernel_rfl) (by kernel_rfl) (by kernel_rfl) ?_
        repeat (gi_big_quiet_step (fail))
        refine wpQuietIn_nil ?_
        rintro _ ⟨nq, rfl⟩
        gi_wp2_with (fail)
        have hOb : Only [b8] W ((W.drewN nq).setCell ⟨b8, 0, none⟩ (.int .i64 ((i : Int) + 1))) := ((Only.refl [b8] W).drewN _).setCell (.inl (by simp)) _
        have hkb : ∃ v, ∃ t : TypeId, Blk W b8 t [v] := ⟨_, _, k8⟩
        refine ⟨KeepsFrom.only hOb (by simp; omega), KpBn.only hOb (by simp; omega) (by simpa using hkb), hOW.trans hOb, ?_⟩
        have h9 := (k8.drewN nq).set 0 (.int .i64 ((i : Int) + 1))
        rw [List.length_append, ← Hi.out]
        exact h9
    · have hne : ((xa : Int) == (ya : Int)) = false := by simp; omega
      have hnn : ((xa : Int) != (ya : Int)) = true := by simp; omega
      gi_wp2_with (fail)
      refine region_quiet_r (by kernel_rfl) (by kernel_rfl) (by kernel_rfl) ?_
      repeat (gi_big_quiet_step (fail))
      refine wpQuietIn_nil ?_
      rintro _ ⟨nq, rfl⟩
      gi_wp2_with (fail)
      refine region_seq_r 15 (by kernel_rfl) (by kernel_rfl) ?_
      simp only [headOps, List.take_succ_cons, List.take_zero, List.drop_succ_cons, List.drop_zero, List.map_cons, List.map_nil, List.cons_append, List.nil_append]
      repeat (gi_big_quiet_step (fail))
      refine wpQuietIn_nil ?_
      rintro _ ⟨nr, rfl⟩
      gi_wp2_with (fail)
      refine ⟨trivial, ?_⟩
      gi_wp2_with (fail)
      have hOb : Only [b3 + 1] W ((W.drewN (nq + nr)).setCell ⟨b3 + 1, 0, none⟩ (.bool false)) := ((Only.refl [b3 + 1] W).drewN _).setCell (.inl (by simp)) _
      refine ⟨KeepsFrom.only hOb (by simp; omega), rfl, (hOW.mono (by simp)).trans (hOb.mono (by simp)), false, (hk4.drewN (nq + nr)).set 0 (.bool false), fun hpre => ?_⟩
      exfalso
      obtain ⟨tl, htl⟩ := hpre
      have h1 := Hy.out
      rw [← htl, Hi.out] at h1
      simp at h1
      omega
  case done =>
    rintro D ys W hD rfl ⟨hOW, k8⟩ hK
    rw [← HL.out] at k8
    have hk5 := k5.only hOW (by simp; omega)
    have hk3 := k3.only hOW (by simp; omega)
    have hk4 := k4.only hOW (by simp; omega)
    have c8 : W.cell? ⟨b8, 0, none⟩ = some (.int .i64 (L.length : Int)) := k8.cell 0
    have c5 : W.cell? ⟨b5, 0, none⟩ = some (.slice A L.length c) := hk5.cell 0
    have hTW : Tabs W := hT.only (hOw.trans' hOW (by simp; omega)) (by simp) (by simp)
    gi_wp2_with (fail)
    refine ⟨trivial, ?_⟩
    refine (callsIn_wide.2 (known_any W hTW hTW.size)).mono ?_
    rintro e W2 ⟨rfl, hO2⟩
    have hk42 := hk4.only hO2 (by simp)
    have c4 : W2.cell? ⟨b3 + 1, 0, none⟩ = some (.bool false) := hk42.cell 0
    have f4 : W2.frozen? ⟨b3 + 1, 0, none⟩ = false := hk42.frozen 0
    have hK2 : W2.heap[D]? = some (.deferred (some [])) := (hO2.block D (Array.getElem?_eq_some_iff.1 hK).1 (by simp)).trans hK
    gi_wp2_with (fail)
    have hK3 := (Below.heap_setCell W2 ⟨b3 + 1, 0, none⟩ (.bool true) D (by show D ≠ b3 + 1; omega)).trans hK2
    have hb4 := hk42.set 0 (.bool true)
    have c4 : (W2.setCell ⟨b3 + 1, 0, none⟩ (.bool true)).cell? ⟨b3 + 1, 0, none⟩ = some (.bool true) := hb4.cell 0
    have hOx : Only [] w (W2.setCell ⟨b3 + 1, 0, none⟩ (.bool true)) := ((hOw.trans' hOW (by simp; omega)).trans hO2).setCell (.inr (by show _ ≤ b3 + 1; omega)) _
    generalize W2.setCell ⟨b3 + 1, 0, none⟩ (.bool true) = W3 at hK3 c4 hOx ⊢
    refine ⟨by simp, .inl ⟨_, _, rfl, run_takeDeferred hK3, ?_⟩⟩
    have hOy : Only [] w (W3.putObj D (.deferred none)) := hOx.trans' (l' := [D]) ⟨rfl, rfl, rfl, by simp [World.putObj], fun k _ hk => World.putObj_heap_other (by simpa using hk)⟩ (by simp; omega)
    have c5 : (W3.putObj D (.deferred none)).cell? ⟨b3 + 1, 0, none⟩ = some (.bool true) := (World.cell?_of_block (World.putObj_heap_other (by show b3 + 1 ≠ D; omega))).trans c4
    refine ⟨.bool true, by simp [results, Tryd.results3, go_sem, c5], ?_⟩
    exact ⟨rfl, hOy⟩
  case stop =>
    rintro D c pre W hD hpre ⟨rfl, hOW, b, hb, hbt⟩ hK
    obtain rfl := hbt (by rw [HL.out]; exact hpre)
    gi_wp2_with (fail)
    have c4 : W.cell? ⟨b3 + 1, 0, none⟩ = some (.bool true) := hb.cell 0
    have hOx : Only [] w W := hOw.trans' hOW (by simp; omega)
    refine ⟨by simp, .inl ⟨_, _, rfl, run_takeDeferred hK, ?_⟩⟩
    have hOy : Only [] w (W.putObj D (.deferred none)) := hOx.trans' (l' := [D]) ⟨rfl, rfl, rfl, by simp [World.putObj], fun k _ hk => World.putObj_heap_other (by simpa using hk)⟩ (by simp; omega)
    have c5 : (W.putObj D (.deferred none)).cell? ⟨b3 + 1, 0, none⟩ = some (.bool true) := (World.cell?_of_block (World.putObj_heap_other (by show b3 + 1 ≠ D; omega))).trans c4
    refine ⟨.bool true, by simp [results, Tryd.results3, go_sem, c5], ?_⟩
    exact ⟨rfl, hOy⟩
end Go.Proofs.YteadcibbpbbehaaDoor
