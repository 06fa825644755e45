/- ClassesWhole: the walk. -/
import Derived.Test.YtodgllnmepnpfaaDoorRn5
import Derived.Test.YtodgllnmepnpfaaDoorRn7
import Derived.Test.YtodgllnmepnpfaaDoorRight
import Derived.Test.YtodgllnmepnpfaaDoorKnow2
import Derived.Test.YtodgllnmepnpfaaDoorUtfJ
set_option linter.unusedVariables false
set_option linter.unusedSimpArgs false
namespace Go.Proofs.YtodgllnmepnpfaaDoor
open Go.RowKit
attribute [local go_sem] Oper.semAt_some

theorem eql_items_nil (f : Fn) (a b : Array Value) (w : World) : (binOp .eql 55 (.func f a b) .nilFunc).run Tryd.prog w = .ok (.bool false) w := by
  have hd : ∀ d : Nat, (Op.equalIn (d + 1) 55 (.func f a b) .nilFunc).run Tryd.prog w = .ok false w := fun d => by
    simp [Op.equalIn, run_underlying Tryd.underlying55]
  have h : (Op.equalIn (9999 + 1) 55 (.func f a b) .nilFunc).run Tryd.prog w = .ok false w := hd 9999
  have h2 : (Op.equal 55 (.func f a b) .nilFunc).run Tryd.prog w = .ok false w := h
  simp [binOp, h2]
/-- what the inner loop holds between two rounds -/
def JI (w : World) (bn : Nat) (pre : List It) (W : World) : Prop := Only [] w W ∧ Blk W bn 3 [.int .i64 (pre.length : Int)]
theorem JI.own (w : World) (bn B : Nat) (h : w.heap.size ≤ B) : OwnFrom B (JI w bn) := by
  rintro pre W W' row ⟨h1, h2⟩ hg hr
  exact ⟨only_grown h1 hg (fun r e => Nat.le_trans h (hr r e).1), grown_cells hg (fun r e => (hr r e).2) h2⟩
/-- where it is left early, what was handed out were not the items -/
def JX (T : ByteArray) (c : Code) (pre : List It) (W : World) : Prop := c = .ret ∧ ¬ pre <+: itemsU T
theorem JX.own (T : ByteArray) (B : Nat) (c : Code) : OwnFrom B (JX T c) := fun _ _ _ _ h _ _ => h
theorem KpBn.only {Bn : Nat} {l : List Nat} {W W' : World} (h : Only l W W') (h1 : ∀ x ∈ l, 2 ≤ x ∧ x ≠ Bn) (h2 : ∀ x ∈ l, ∃ v, ∃ t : TypeId, Blk W x t [v]) : KpBn Bn W W' :=
  ⟨fun k hk hl => h.block k hl (fun hm => by have := h1 k hm; omega), fun k cs hk hc => h.block k (Array.getElem?_eq_some_iff.1 hk).1 (fun hm => by
    obtain ⟨v, t, e⟩ := h2 k hm
    have e2 := hk.symm.trans e
    injection e2 with e2; injection e2 with e2 _
    rw [e2] at hc; cases hc)⟩

/-- what the outer loop holds between two rounds -/
def WI (w : World) (be bl : Nat) (pre : List RunD) (W : World) : Prop := Only [be, bl] w W ∧ Blk W be 3 [.int .i64 ((stW 0 0 pre).1 : Int)] ∧ Blk W bl 3 [.int .i64 ((stW 0 0 pre).2 : Int)]
theorem WI.own (w : World) (be bl : Nat) (h : be < w.heap.size) (h2 : bl < w.heap.size) : OwnFromC w.heap.size (w.heap.size + 2) (WI w be bl) := by
  rintro pre W W' row ⟨h1, h3, h4⟩ hg hr
  exact ⟨only_ownC h1 hg hr, blk_ownC h3 hg hr (by omega), blk_ownC h4 hg hr (by omega)⟩

set_option maxRecDepth 100000 in
set_option maxHeartbeats 8000000 in
theorem classesWhole_walk (w : World) (X Y A1 A2 A3 : Option Addr) (p q u v n1 n2 n3 c1 c2 c3 : Nat) (a b d : List Sp) (hn1 : a.length = n1) (hn2 : b.length = n2) (hn3 : d.length = n3)
    (s1 : n1 ≤ 17592186043904) (s2 : n2 ≤ 17592186043904) (s3 : n3 ≤ 17592186043904) (B : Nat) (r1 : Rd w B 2 A1 n1 (ses a)) (r2 : Rd w B 2 A2 n2 (ses b)) (r3 : Rd w B 2 A3 n3 (ses d))
    (s : ByteArray) (hs : s.size ≤ 140737488351232) (hT : Tabs w) :
    Calls Tryd.prog 5 #[.agg #[.slice X p q, .slice Y u v, .slice A1 n1 c1, .slice A2 n2 c2, .slice A3 n3 c3], .string s] w fun e w' => e = .returned (.bool true) ∧ Only [] w w' := by
  obtain ⟨b3, hb3⟩ : ∃ k, k = w.heap.size := ⟨_, rfl⟩
  obtain ⟨W0, hW0⟩ : ∃ W0, W0 = ((w.alloc (.cells #[.slice X p q, .slice Y u v, .slice A1 n1 c1, .slice A2 n2 c2, .slice A3 n3 c3] 44)).alloc (.cells #[.string s] 9)).alloc (.cells #[.bool false] 4) := ⟨_, rfl⟩
  have kd : Blk W0 b3 44 [.slice X p q, .slice Y u v, .slice A1 n1 c1, .slice A2 n2 c2, .slice A3 n3 c3] := by rw [hW0]; exact ((Blk.new' _ _ _ hb3.symm rfl).alloc _).alloc _
  have ks : Blk W0 (b3 + 1) 9 [.string s] := by rw [hW0]; exact (Blk.new' _ _ _ (by simp; omega) rfl).alloc _
  have k6 : Blk W0 (b3 + 2) 4 [.bool false] := by rw [hW0]; exact Blk.new' _ _ _ (by simp; omega) rfl
  have hO0 : Only [] w W0 := by rw [hW0]; exact (((Only.refl _ _).alloc _).alloc _).alloc _
  have hz0 : W0.heap.size = b3 + 3 := by rw [hW0]; simp; omega
  have hwb : w.heap.size ≤ b3 := by omega
  obtain ⟨bs, hbs⟩ : ∃ k, k = b3 + 1 := ⟨_, rfl⟩
  obtain ⟨b6, hb6⟩ : ∃ k, k = bs + 1 := ⟨_, rfl⟩
  rw [← hbs] at ks
  rw [show b3 + 2 = b6 by omega] at k6
  have hb3s6 : b3 < bs ∧ bs < b6 ∧ b6 < W0.heap.size := by omega
  have Hbs := Lib.hid hbs
  have Hb6 := Lib.hid hb6
  have e0 : W0.cell? ⟨b3, 0, none⟩ = some (.slice X p q) := kd.cell 0
  have e1 : W0.cell? ⟨b3, 1, none⟩ = some (.slice Y u v) := kd.cell 1
  have e2 : W0.cell? ⟨b3, 2, none⟩ = some (.slice A1 n1 c1) := kd.cell 2
  have e3 : W0.cell? ⟨b3, 3, none⟩ = some (.slice A2 n2 c2) := kd.cell 3
  have e4 : W0.cell? ⟨b3, 4, none⟩ = some (.slice A3 n3 c3) := kd.cell 4
  have N1 := Lib.hid hn1
  have N2 := Lib.hid hn2
  have N3 := Lib.hid hn3
  have R1 := Lib.hid (r1.only hO0 (by simp))
  have R2 := Lib.hid (r2.only hO0 (by simp))
  have R3 := Lib.hid (r3.only hO0 (by simp))
  have Hb3 := Lib.hid hb3
  have HW0 := Lib.hid hW0
  have Kd := Lib.hid kd
  have hrl := rightLaw_any W0 X Y A1 A2 A3 p q u v n1 n2 n3 c1 c2 c3 a b d hn1 hn2 hn3 s1 s2 s3 B R1.out R2.out R3.out
  have Hrl := Lib.hid hrl
  have h2w := tabs_two hT
  obtain ⟨hb3s, hbs6, hb60⟩ := hb3s6
  clear hn1 hn2 hn3 hb3 hW0 r1 r2 r3 kd hrl hbs hb6 hz0
  refine (callsIn_wide (n := 8)).1 ?_
  refine callsIn_of_wp_marks Tryd.func5 rfl trivial ?_ rfl
  simp only [Tryd.ntmps5, List.size_toArray, List.length_cons, List.length_nil, Nat.reduceAdd, Nat.reduceSub, Array.replicate_succ, Array.replicate_zero, List.push_toArray, List.append_toArray, List.nil_append, List.cons_append]
  gi_upto_region 1 with (fail)
  rw [← Hb3.out, ← HW0.out, ← Hbs.out, ← Hb6.out]
  gi_wp2_with (fail)
  refine ⟨trivial, ?_⟩
  refine (callsIn_wide.2 Hrl.out).mono ?_
  rintro e w1 ⟨t, rfl, hO1, ht⟩
  have hO1w := hO0.trans hO1
  have hz1 := hO1.size
  obtain ⟨bt, hbt⟩ : ∃ k, k = w1.heap.size := ⟨_, rfl⟩
  obtain ⟨w2, hw2⟩ : ∃ z, z = w1.alloc (.cells #[t] 22) := ⟨_, rfl⟩
  have kt : Blk w2 bt 22 [t] := by rw [hw2]; exact Blk.new' _ _ _ hbt.symm rfl
  have hO12 : Only [] w1 w2 := by rw [hw2]; exact (Only.refl _ _).alloc _
  have hO02 := hO1.trans hO12
  have hO2w := hO0.trans hO02
  have k62 := k6.only hO02 (by simp)
  have ks2 := ks.only hO02 (by simp)
  have Hw2 := Lib.hid hw2
  have Hbt := Lib.hid hbt
  have hz2 : W0.heap.size ≤ bt := by omega
  clear e0 e1 e2 e3 e4 hw2 hbt Hrl hO1w k6 ks
  rcases ht with ⟨g, rfl, hz, hTab⟩ | ⟨rfl, hne⟩
  rotate_left
  · have hdf : decide ((checkW a b d).1 = 0) = false := decide_eq_false hne
    rw [hdf]
    clear hne hdf
    gi_wp2_with (fail)
    rw [← Hw2.out]
    refine ⟨trivial, ?_⟩
    refine (callsIn_wide.2 (known_any w2)).mono ?_
    rintro e w3 ⟨rfl, hO3⟩
    have k63 := k62.only hO3 (by simp)
    have d0 : w3.cell? ⟨b6, 0, none⟩ = some (.bool false) := k63.cell 0
    have d1 : w3.frozen? ⟨b6, 0, none⟩ = false := k63.frozen 0
    gi_wp2_with (fail)
    have hOx : Only [] w (w3.setCell ⟨b6, 0, none⟩ (.bool true)) := (hO2w.trans hO3).setCell (.inr (by show _ ≤ b6; omega)) _
    have d2 : (w3.setCell ⟨b6, 0, none⟩ (.bool true)).cell? ⟨b6, 0, none⟩ = some (.bool true) := (k63.set 0 (.bool true)).cell 0
    refine ⟨.bool true, ?_, rfl, hOx⟩
    simp [results, Tryd.results5, go_sem, d2]
  · rw [decide_eq_true hz]
    have hTab2 := hTab.only hO12 (by simp)
    have s0 : w2.cell? ⟨bs, 0, none⟩ = some (.string s) := ks2.cell 0
    have s1' : w2.frozen? ⟨bs, 0, none⟩ = false := ks2.frozen 0
    obtain ⟨S, hS⟩ : ∃ S, S = fewS s 500 := ⟨_, rfl⟩
    have hSz : S.size ≤ 500 := by rw [hS]; exact (fewS_size s 500).1
    have HS := Lib.hid hS
    clear hz hTab hS
    gi_upto_region 4 with (fail)
    rw [← Hw2.out, ← Hbt.out]
    gi_wp2_with (fail)
    refine ⟨trivial, ?_⟩
    refine (callsIn_wide.2 (few_any s hs w2)).mono ?_
    rintro e w2' ⟨rfl, rfl⟩
    rw [← HS.out]
    obtain ⟨w3, hw3⟩ : ∃ z, z = w2.setCell ⟨bs, 0, none⟩ (.string S) := ⟨_, rfl⟩
    have hO23 : Only [bs] w2 w3 := by rw [hw3]; exact (Only.refl _ _).setCell (.inl (by simp)) _
    have ks3 : Blk w3 bs 9 [.string S] := by rw [hw3]; exact ks2.set 0 (.string S)
    have k63 := k62.only hO23 (by simp; omega)
    have kt3 := kt.only hO23 (by simp; omega)
    have hTab3 := hTab2.only hO23 (by simp; omega)
    have hO3w : Only [] w w3 := hO2w.trans' hO23 (by simp; omega)
    have t3 : w3.cell? ⟨bt, 0, none⟩ = some (.pointer (some ⟨g, 0, none⟩)) := kt3.cell 0
    have u3 : w3.cell? ⟨bs, 0, none⟩ = some (.string S) := ks3.cell 0
    have Hw3 := Lib.hid hw3
    have hz3 := hO23.size
    clear hw3 ks2 k62 hTab2 hO02 hO2w
    gi_upto_region 5 with (fail)
    rw [← Hw3.out]
    clear s0 s1'
    gi_wp2_with (fail)
    refine ⟨trivial, ?_⟩
    refine (callsIn_wide.2 (runs_any S g w3)).mono ?_
    obtain ⟨bq, hbq⟩ : ∃ k, k = w3.heap.size := ⟨_, rfl⟩
    rw [← hbq]
    have kq : Blk ((w3.alloc (.cells #[.pointer (some ⟨g, 0, none⟩)] 22)).alloc (.cells #[.string S] 9)) bq 22 [.pointer (some ⟨g, 0, none⟩)] := (Blk.new' _ _ _ hbq.symm rfl).alloc _
    have kr : Blk ((w3.alloc (.cells #[.pointer (some ⟨g, 0, none⟩)] 22)).alloc (.cells #[.string S] 9)) (bq + 1) 9 [.string S] := Blk.new' _ _ _ (by simp; omega) rfl
    have hO34 : Only [] w3 ((w3.alloc (.cells #[.pointer (some ⟨g, 0, none⟩)] 22)).alloc (.cells #[.string S] 9)) := ((Only.refl _ _).alloc _).alloc _
    have hz4 : ((w3.alloc (.cells #[.pointer (some ⟨g, 0, none⟩)] 22)).alloc (.cells #[.string S] 9)).heap.size = bq + 2 := by simp; omega
    rintro e w4 ⟨rfl, hw4⟩
    rw [← hw4] at kq kr hO34 hz4
    have hsn := eql_seq_nil (.func 21) #[] #[.pointer (some ⟨bq + 1, 0, none⟩), .pointer (some ⟨bq, 0, none⟩)] w4
    have ks4 := ks3.only hO34 (by simp)
    have k64 := k63.only hO34 (by simp)
    have kt4 := kt3.only hO34 (by simp)
    have hTab4 := hTab3.only hO34 (by simp)
    have hO4w := hO3w.trans hO34
    have hTt4 := hT.only hO4w (by simp) (by simp)
    have hbtq : bt < bq := by have := kt3.lt; omega
    have hrs := runs_stops 7 (by omega) (bq + 1) bq w4.heap.size S (by omega) w4 W0.heap.size g a b d hTab4 (by omega) rfl (kr.cell 0) (kq.cell 0) hTt4
    have Hrs := Lib.hid hrs
    have Hz4 := Lib.hid hz4
    have HT4 := Lib.hid hTt4
    clear hw4 hbq ks3 k63 kt3 hTab3 hO3w hO34 t3 u3 hrs hz4 hTt4 kq kr
    gi_wp2_with (fail)
    obtain ⟨be, hbe⟩ : ∃ z, z = w4.heap.size := ⟨_, rfl⟩
    rw [← hbe]
    obtain ⟨bl, hbl⟩ : ∃ z, z = be + 1 := ⟨_, rfl⟩
    obtain ⟨w5, hw5⟩ : ∃ z, z = (w4.alloc (.cells #[.int .i64 0] 3)).alloc (.cells #[.int .i64 0] 3) := ⟨_, rfl⟩
    rw [← hbl, ← hw5]
    have k4e : Blk w5 be 3 [.int .i64 0] := by rw [hw5]; exact (Blk.new' _ _ _ hbe.symm rfl).alloc _
    have k4l : Blk w5 bl 3 [.int .i64 0] := by rw [hw5]; exact Blk.new' _ _ _ (by simp; omega) rfl
    have hO45 : Only [] w4 w5 := by rw [hw5]; exact ((Only.refl _ _).alloc _).alloc _
    have hz5 : w5.heap.size = bl + 1 := by rw [hw5]; simp; omega
    have ks5 := ks4.only hO45 (by simp)
    have k65 := k64.only hO45 (by simp)
    have kt5 := kt4.only hO45 (by simp)
    have HTab4 := Lib.hid hTab4
    have hT5 := HT4.out.only hO45 (by simp) (by simp)
    have hord : bs < be ∧ b6 < be ∧ bt < be ∧ be < bl ∧ W0.heap.size ≤ be ∧ w4.heap.size ≤ be := by have := Hz4.out; omega
    have Hz5 := Lib.hid hz5
    have HO45 := Lib.hid hO45
    have hwh := runsU_wh a b d S
    have Hwh := Lib.hid hwh
    have HT5 := Lib.hid hT5
    have HO4w := Lib.hid hO4w
    clear hw5 hbl hbe ks4 k64 kt4 hTab4 hO45 hz5 hsn hwh hT5 hO4w
    refine wpIn_rangeFunc_ownC rfl (by omega) (gf := 21) (lb := #[.pointer (some ⟨bq + 1, 0, none⟩), .pointer (some ⟨bq, 0, none⟩)]) rfl trivial (enters_of Tryd.func21 (by kernel_rfl) rfl)
      Hrs.out KpRn.trans (KpRn.put (by have := Hz5.out; omega)) (HO45.out.belowB (Nat.le_refl _) (by simp)) (fun _ => rfl) (WI w5 be bl) (fun _ _ _ => False) (WI.own w5 be bl k4e.lt k4l.lt) (fun c => fun _ _ _ _ h => h.elim)
      ⟨Only.refl _ _, k4e, k4l⟩
      (fun x a' W => ∃ Bx, Blk W Bx 39 x.enc ∧ bl < Bx ∧ a' = { tmps := #[.agg #[.slice X p q, .slice Y u v, .slice A1 n1 c1, .slice A2 n2 c2, .slice A3 n3 c3], .string s, .pointer (some ⟨b3, 0, none⟩), .pointer (some ⟨bs, 0, none⟩), .pointer (some ⟨b6, 0, none⟩), .pointer (some ⟨bt, 0, none⟩), .bool true, .bool true, .func (.func 21) #[] #[.pointer (some ⟨bq + 1, 0, none⟩), .pointer (some ⟨bq, 0, none⟩)], .pointer (some ⟨be, 0, none⟩), .pointer (some ⟨bl, 0, none⟩), .pointer (some ⟨Bx, 0, none⟩), undef, undef, undef, .tuple #[.pointer (some ⟨g, 0, none⟩), .bool true, .bool true], .agg #[.slice X p q, .slice Y u v, .slice A1 n1 c1, .slice A2 n2 c2, .slice A3 n3 c3], .tuple #[.pointer (some ⟨g, 0, none⟩), .bool true, .bool true], .pointer (some ⟨g, 0, none⟩), .bool true, .bool true, .bool true, .bool false, undef, undef, undef, undef, .string s, .string S, .pointer (some ⟨g, 0, none⟩), .string S, .func (.func 21) #[] #[.pointer (some ⟨bq + 1, 0, none⟩), .pointer (some ⟨bq, 0, none⟩)], .func (.func 21) #[] #[.pointer (some ⟨bq + 1, 0, none⟩), .pointer (some ⟨bq, 0, none⟩)], .bool false, .func (.func 21) #[] #[.pointer (some ⟨bq + 1, 0, none⟩), .pointer (some ⟨bq, 0, none⟩)], .agg x.enc.toArray, undef, undef, undef, undef, undef, undef, undef, undef, undef, undef, undef, undef, undef, undef, undef, undef, undef, undef, undef, undef, undef, undef, undef, undef, undef, undef, undef, undef, undef, undef, undef, undef, undef, undef, undef, undef, undef, undef, undef, undef, undef, undef, undef, undef, undef, undef, undef, undef, undef, undef, undef, undef, undef, undef, undef, undef, undef, undef, undef, undef, undef, undef, undef, undef, undef], defers := [] })
      (fun x a' => by
        rintro _ W W' row ⟨Bx, h1, h2, h3⟩ hg hr
        exact ⟨Bx, grown_cells hg (fun r e => (hr r e).2) h1, h2, h3⟩) ?assign ?body ?done ?stop
    case assign =>
      rintro l pre ⟨xk, xf, xt, xn⟩ W K hsz hsp hi hK
      simp only [RunD.enc] at hK ⊢
      gi_wp2
      obtain ⟨h1, h2, h3⟩ := hi
      have hlt := h3.lt
      have hz := h1.size
      have hOa : Only [] W (W.alloc (.cells #[.int .i64 (xk : Int), .int .i64 (xf : Int), .int .i64 (xt : Int), .int .i64 (xn : Int)] 39)) := (Only.refl _ _).alloc _
      have hz5 := Hz5.out
      exact hK _ _ ((KeepsOthers.alloc _ _).from _) (KpRn.only hOa (by omega) (by simp) (by simp)) ⟨h1.alloc _, h2.alloc _, h3.alloc _⟩ (by simp; omega) ⟨W.heap.size, Blk.new' _ _ _ rfl rfl, hlt, rfl⟩
    case stop =>
      rintro D c pre W hD hpre h hK
      exact h.elim
    case body =>
      rintro l pre ⟨xk, xf, xt, xn⟩ a' W hl ⟨r, hr⟩ hszz ⟨hOW, ke, kl⟩ ⟨Bx, hbx, hBx, rfl⟩ hlen hspx
      obtain ⟨q1, q2, q3⟩ := Hwh.out.at hspx
      obtain ⟨E, hE⟩ : ∃ z, z = (stW 0 0 pre).1 := ⟨_, rfl⟩
      obtain ⟨K, hK⟩ : ∃ z, z = (stW 0 0 pre).2 := ⟨_, rfl⟩
      rw [← hE] at q1 ke
      rw [← hK] at q2 kl
      clear hE hK
      obtain rfl : xf = E := q1
      have hen := q3.ends
      have hit := q3.items
      simp only at q2 hen hit
      have Hit := Lib.hid hit
      have hz5 := Hz5.out
      have hks := ks5.only hOW (by simp; omega)
      have hk6 := k65.only hOW (by simp; omega)
      have hkt := kt5.only hOW (by simp; omega)
      have hO4W : Only [] w4 W := HO45.out.trans' hOW (by simp; omega)
      have HTabW := Lib.hid (HTab4.out.only hO4W (by simp))
      have HTW := Lib.hid (HT5.out.only hOW (by simp; omega) (by simp; omega))
      have hzW := hOW.size
      have e0 : W.cell? ⟨Bx, 0, none⟩ = some (.int .i64 (xk : Int)) := hbx.cell 0
      have e1 : W.cell? ⟨Bx, 1, none⟩ = some (.int .i64 (xf : Int)) := hbx.cell 1
      have e2 : W.cell? ⟨Bx, 2, none⟩ = some (.int .i64 (xt : Int)) := hbx.cell 2
      have e3 : W.cell? ⟨Bx, 3, none⟩ = some (.int .i64 (xn : Int)) := hbx.cell 3
      have ce : W.cell? ⟨be, 0, none⟩ = some (.int .i64 (xf : Int)) := ke.cell 0
      have cl : W.cell? ⟨bl, 0, none⟩ = some (.int .i64 (K : Int)) := kl.cell 0
      have cs : W.cell? ⟨bs, 0, none⟩ = some (.string S) := hks.cell 0
      have hd1 : decide (xt ≤ xf) = false := decide_eq_false (by omega)
      have hd2 : decide (S.size < xt) = false := decide_eq_false (by omega)
      have hd3 : ((xk : Int) == (K : Int)) = false := by simp; omega
      clear hit q3 hspx
      gi_upto_region 14 with (fail)
      obtain ⟨bn, hbn⟩ : ∃ z, z = W.heap.size := ⟨_, rfl⟩
      obtain ⟨W1, hW1⟩ : ∃ z, z = W.alloc (.cells #[.int .i64 0] 3) := ⟨_, rfl⟩
      have kn : Blk W1 bn 3 [.int .i64 0] := by rw [hW1]; exact Blk.new' _ _ _ hbn.symm rfl
      have hO1 : Only [] W W1 := by rw [hW1]; exact (Only.refl _ _).alloc _
      have Hbn := Lib.hid hbn
      have HW1 := Lib.hid hW1
      have e1' := hO1.cellv e1 (by simp)
      have e2' := hO1.cellv e2 (by simp)
      have cs' := hO1.cellv cs (by simp)
      have hz1 := hO1.size
      clear hbn hW1 e0 e1 e2 e3 ce cl cs hd1 hd2 hd3
      gi_upto_region 15 with (fail)
      rw [← Hbn.out, ← HW1.out]
      gi_wp2_with (fail)
      refine ⟨trivial, ?_⟩
      obtain ⟨T, hT'⟩ : ∃ T, T = S.extract xf xt := ⟨_, rfl⟩
      rw [← hT'] at Hit ⊢
      have hTz : T.size ≤ 500 := by rw [hT', ByteArray.size_extract]; omega
      clear hT'
      refine (CallsIn.inRound l (callsIn_wide.2 (items_any T W1))).mono ?_
      obtain ⟨bi, hbi⟩ : ∃ z, z = W1.heap.size := ⟨_, rfl⟩
      rw [← hbi]
      have ki : Blk (W1.alloc (.cells #[.string T] 9)) bi 9 [.string T] := Blk.new' _ _ _ hbi.symm rfl
      have hO12' : Only [] W1 (W1.alloc (.cells #[.string T] 9)) := (Only.refl _ _).alloc _
      rintro e W2 ⟨rfl, hW2⟩
      rw [← hW2] at ki hO12'
      have hsn := eql_items_nil (.func 26) #[] #[.pointer (some ⟨bi, 0, none⟩)] W2
      have kn2 := kn.only hO12' (by simp)
      have hO2 := hO1.trans hO12'
      have hbni : bn < bi := by have := kn.lt; omega
      have Hbi := Lib.hid hbi
      clear hbi hW2 e1' e2' cs' kn hO12' hO1
      gi_wp2_with (fail)
      have hrW2 : W2.heap[l]? = some (.loop r) := (hO2.block l (Array.getElem?_eq_some_iff.1 hr).1 (by simp)).trans hr
      have hTW2 := HTW.out.only hO2 (by simp) (by simp)
      have hWlt : W.heap.size ≤ bn := by have := Hbn.out; omega
      clear hsn
      refine wpIn_rangeFunc_ownN rfl hrW2 (by omega) (gf := 26) (lb := #[.pointer (some ⟨bi, 0, none⟩)]) rfl trivial (enters_of Tryd.func26 (by kernel_rfl) rfl)
        (SeqStopsK.inRound l (items_stops2 5 (by omega) bi T (by omega) W2 ki.lt (by have := ki.lt; omega) (ki.cell 0) hTW2))
        KpBn.trans (KpBn.put ki.lt (by have := ki.lt; omega)) (Below.refl _ _) (fun _ => rfl) (JI W bn) (JX T) (JI.own W bn W2.heap.size (by have := hO2.size; omega)) (fun c => JX.own T W2.heap.size c)
        ⟨hO2, kn2⟩
        (fun y a' W' => ∃ By, Blk W' By 58 y.enc ∧ bn < By ∧ a' = { tmps := #[.agg #[.slice X p q, .slice Y u v, .slice A1 n1 c1, .slice A2 n2 c2, .slice A3 n3 c3], .string s, .pointer (some ⟨b3, 0, none⟩), .pointer (some ⟨bs, 0, none⟩), .pointer (some ⟨b6, 0, none⟩), .pointer (some ⟨bt, 0, none⟩), .bool true, .bool true, .func (.func 21) #[] #[.pointer (some ⟨bq + 1, 0, none⟩), .pointer (some ⟨bq, 0, none⟩)], .pointer (some ⟨be, 0, none⟩), .pointer (some ⟨bl, 0, none⟩), .pointer (some ⟨Bx, 0, none⟩), .pointer (some ⟨bn, 0, none⟩), .func (.func 26) #[] #[.pointer (some ⟨bi, 0, none⟩)], .pointer (some ⟨By, 0, none⟩), .tuple #[.pointer (some ⟨g, 0, none⟩), .bool true, .bool true], .agg #[.slice X p q, .slice Y u v, .slice A1 n1 c1, .slice A2 n2 c2, .slice A3 n3 c3], .tuple #[.pointer (some ⟨g, 0, none⟩), .bool true, .bool true], .pointer (some ⟨g, 0, none⟩), .bool true, .bool true, .bool true, .bool false, undef, undef, undef, undef, .string s, .string S, .pointer (some ⟨g, 0, none⟩), .string S, .func (.func 21) #[] #[.pointer (some ⟨bq + 1, 0, none⟩), .pointer (some ⟨bq, 0, none⟩)], .func (.func 21) #[] #[.pointer (some ⟨bq + 1, 0, none⟩), .pointer (some ⟨bq, 0, none⟩)], .bool false, .func (.func 21) #[] #[.pointer (some ⟨bq + 1, 0, none⟩), .pointer (some ⟨bq, 0, none⟩)], .agg (RunD.enc ⟨xk, xf, xt, xn⟩).toArray, .pointer (some ⟨Bx, 1, none⟩), .pointer (some ⟨Bx, 1, none⟩), .int .i64 (xf : Int), .int .i64 (xf : Int), .bool false, .bool false, .pointer (some ⟨Bx, 1, none⟩), .pointer (some ⟨Bx, 2, none⟩), .int .i64 (xt : Int), .pointer (some ⟨Bx, 1, none⟩), .pointer (some ⟨Bx, 1, none⟩), .int .i64 (xf : Int), .bool false, .bool false, .bool false, .pointer (some ⟨Bx, 1, none⟩), .pointer (some ⟨Bx, 2, none⟩), .int .i64 (xt : Int), .string S, .int .i64 (S.size : Int), .bool false, .bool false, .bool false, .pointer (some ⟨Bx, 0, none⟩), .int .i64 (xk : Int), .int .i64 (K : Int), .bool false, .bool false, .string S, .pointer (some ⟨Bx, 1, none⟩), .pointer (some ⟨Bx, 1, none⟩), .int .i64 (xf : Int), .pointer (some ⟨Bx, 1, none⟩), .pointer (some ⟨Bx, 2, none⟩), .int .i64 (xt : Int), .string T, .func (.func 26) #[] #[.pointer (some ⟨bi, 0, none⟩)], .func (.func 26) #[] #[.pointer (some ⟨bi, 0, none⟩)], .bool false, .func (.func 26) #[] #[.pointer (some ⟨bi, 0, none⟩)], .agg y.enc.toArray, undef, undef, undef, undef, undef, undef, undef, undef, undef, undef, undef, undef, undef, undef, undef, undef, undef, undef, undef, undef, undef, undef, undef, undef], defers := [] })
        (fun x a' => by
          rintro _ W W' row ⟨Bx, h1, h2, h3⟩ hg hr
          exact ⟨Bx, grown_cells hg (fun r e => (hr r e).2) h1, h2, h3⟩) ?assign2 ?body2 ?done2 ?stop2
      case assign2 =>
        rintro l2 pre2 ⟨ya, yn, yr, yb⟩ W3 K3 hi hK3
        simp only [It.enc] at hK3 ⊢
        gi_wp2
        obtain ⟨h1, h2⟩ := hi
        have hlt := h2.lt
        have hOa : Only [] W3 (W3.alloc (.cells #[.int .i64 (ya : Int), .int .i64 (yn : Int), .int .i32 (yr : Int), .bool yb] 58)) := (Only.refl _ _).alloc _
        exact hK3 _ _ ((KeepsOthers.alloc _ _).from _) (KpBn.only hOa (by simp) (by simp)) ⟨h1.alloc _, h2.alloc _⟩ ⟨W3.heap.size, Blk.new' _ _ _ rfl rfl, hlt, rfl⟩
      case stop2 =>
        rintro c pre2 W3 hsp ⟨rfl, hnp⟩
        exact (hnp hsp).elim
      case body2 =>
        rintro l2 pre2 ⟨ya, yn, yr, yb⟩ a2 W3 hl2 ⟨r2, hr2⟩ ⟨hO3, kn3⟩ ⟨By, hby, hBy, rfl⟩ hlen2
        obtain ⟨KK, hKK⟩ : ∃ z, z = kindIt a b d ⟨ya, yn, yr, yb⟩ := ⟨_, rfl⟩
        have HKK := Lib.hid hKK
        have hkt3 := hkt.only hO3 (by simp)
        have hbx3 := hbx.only hO3 (by simp)
        have hk63 := hk6.only hO3 (by simp)
        have HTab3 := Lib.hid (HTabW.out.only hO3 (by simp))
        have hzW3 := hO3.size
        have x0 : W3.cell? ⟨Bx, 0, none⟩ = some (.int .i64 (xk : Int)) := hbx3.cell 0
        have x5 : W3.cell? ⟨bt, 0, none⟩ = some (.pointer (some ⟨g, 0, none⟩)) := hkt3.cell 0
        have cn3 : W3.cell? ⟨bn, 0, none⟩ = some (.int .i64 (pre2.length : Int)) := kn3.cell 0
        have c63 : W3.cell? ⟨b6, 0, none⟩ = some (.bool false) := hk63.cell 0
        have hms : ∀ W', Only [] W3 W' → W'.cell? ⟨Bx, 0, none⟩ = some (.int .i64 (xk : Int)) ∧ W'.cell? ⟨bn, 0, none⟩ = some (.int .i64 (pre2.length : Int)) ∧ W'.frozen? ⟨bn, 0, none⟩ = false ∧ W'.frozen? ⟨b6, 0, none⟩ = false ∧ W'.cell? ⟨b6, 0, none⟩ = some (.bool false) := fun W' h => ⟨h.cellv x0 (by simp), h.cellv cn3 (by simp), (kn3.only h (by simp)).frozen 0, (hk63.only h (by simp)).frozen 0, (hk63.only h (by simp)).cell 0⟩
        have g0 : W3.cell? ⟨By, 0, none⟩ = some (.int .i64 (ya : Int)) := hby.cell 0
        have g1 : W3.cell? ⟨By, 1, none⟩ = some (.int .i64 (yn : Int)) := hby.cell 1
        have g2 : W3.cell? ⟨By, 2, none⟩ = some (.int .i32 (yr : Int)) := hby.cell 2
        have g3 : W3.cell? ⟨By, 3, none⟩ = some (.bool yb) := hby.cell 3
        have hlen3 : pre2.length ≤ 500 := by
          have := (seg_items T T.size 0 (by omega) (by omega)).le.1
          unfold itemsU at hlen2
          omega
        clear hkt3 hbx3
        by_cases hk : KK = xk
        case' pos => have hne1 : ((KK : Int) != (xk : Int)) = false := by simp; omega
        case' neg => have hne1 : ((KK : Int) != (xk : Int)) = true := by simp; omega
        all_goals
          have HK := Lib.hid hk
          clear hKK hk
          gi_wp2_with (fail)
          gi_region_with (first
            | (refine ⟨trivial, ?_⟩
               gi_at_call 15
               refine (CallsIn.inRound l2 (CallsIn.inRound l (callsIn_wide.2 (kind_any _ W0.heap.size g a b d (by first | exact HTab3.out | exact HTab3.out.only ((Only.refl [] W3).drew) (by simp)) (by first | omega | (simp; omega)) _ _ _ _)))).mono ?_
               rintro e w6 ⟨rfl, hO6⟩
               replace hO6 : Only [] W3 w6 := by first | exact hO6 | exact hO6.ofDrew
               rw [show (if yb = true then 4 else kindOf a b d (yr : Int)) = KK from HKK.out.symm]
               obtain ⟨y1, y2, y3, y4, y5⟩ := hms _ hO6))
        all_goals
          gi_wp2_with (fail)
          first
          | (have hOb : Only [bn] W3 (w6.setCell ⟨bn, 0, none⟩ (.int .i64 ((pre2.length : Int) + 1))) := (hO6.mono (by simp)).setCell (.inl (by simp)) _
             have hkb : ∃ v, ∃ t : TypeId, Blk W3 bn t [v] := ⟨_, _, kn3⟩
             refine ⟨KeepsFrom.only hOb (by have := kn2.lt; simp; omega), KpBn.only hOb (by simp; omega) (by simpa using hkb), hO3.trans' hOb (by simp; omega), ?_⟩
             have h9 := (kn3.only hO6 (by simp)).set 0 (.int .i64 ((pre2.length : Int) + 1))
             rw [List.length_append]
             exact h9)
          | (have hOb : Only [b6] W3 (w6.setCell ⟨b6, 0, none⟩ (.bool false)) := (hO6.mono (by simp)).setCell (.inl (by simp)) _
             refine ⟨KeepsFrom.only hOb (by have := kn2.lt; simp; omega), rfl, fun hpre => ?_⟩
             exact HK.out (HKK.out.trans (Hit.out.2 _ (hpre.subset (by simp)))))
      case done2 =>
        rintro ys W3 rfl ⟨hO3, kn3⟩
        have hln := Hit.out.1
        rw [hln] at kn3
        have hke := ke.only hO3 (by simp)
        have hkl := kl.only hO3 (by simp)
        have hbx3 := hbx.only hO3 (by simp)
        have x0 : W3.cell? ⟨Bx, 0, none⟩ = some (.int .i64 (xk : Int)) := hbx3.cell 0
        have x2 : W3.cell? ⟨Bx, 2, none⟩ = some (.int .i64 (xt : Int)) := hbx3.cell 2
        have x3 : W3.cell? ⟨Bx, 3, none⟩ = some (.int .i64 (xn : Int)) := hbx3.cell 3
        have cn3 : W3.cell? ⟨bn, 0, none⟩ = some (.int .i64 (xn : Int)) := kn3.cell 0
        have ce3 : W3.cell? ⟨be, 0, none⟩ = some (.int .i64 (xf : Int)) := hke.cell 0
        have cl3 : W3.cell? ⟨bl, 0, none⟩ = some (.int .i64 (K : Int)) := hkl.cell 0
        have fe3 := hke.frozen 0
        have fl3 := hkl.frozen 0
        clear hln
        gi_wp2_with (fail)
        have hOb : Only [be, bl] W ((W3.setCell ⟨be, 0, none⟩ (.int .i64 (xt : Int))).setCell ⟨bl, 0, none⟩ (.int .i64 (xk : Int))) := ((hO3.mono (by simp)).setCell (.inl (by simp)) _).setCell (.inl (by simp)) _
        have hke4 := (hke.set 0 (.int .i64 (xt : Int))).far (p := ⟨bl, 0, none⟩) (by show be ≠ bl; omega) (.int .i64 (xk : Int))
        have hkl4 := (hkl.far (p := ⟨be, 0, none⟩) (by show bl ≠ be; omega) (.int .i64 (xt : Int))).set 0 (.int .i64 (xk : Int))
        have hkb : ∀ x ∈ [be, bl], ∃ cs t, W.heap[x]? = some (.cells cs t (0, 0)) ∧ (t ≠ 39 ∨ cs.size ≠ 4) := by
          intro x hx
          rcases List.mem_cons.1 hx with rfl | hx
          · exact ⟨_, _, ke, .inl (by decide)⟩
          · rw [List.mem_singleton.1 hx]; exact ⟨_, _, kl, .inl (by decide)⟩
        refine ⟨KeepsFrom.only hOb (by simp; omega), KpRn.only hOb (by omega) (by simp; omega) hkb, hOW.trans hOb, ?_, ?_⟩
        · rw [stW_snoc]; exact hke4
        · rw [stW_snoc]; exact hkl4
    case done =>
      rintro D ys W hD rfl ⟨hOW, ke, kl⟩ hK
      rw [Hwh.out.all] at ke
      have hz5 := Hz5.out
      have hks := ks5.only hOW (by simp; omega)
      have hk6 := k65.only hOW (by simp; omega)
      have ce : W.cell? ⟨be, 0, none⟩ = some (.int .i64 (S.size : Int)) := ke.cell 0
      have cs : W.cell? ⟨bs, 0, none⟩ = some (.string S) := hks.cell 0
      have hOx : Only [] w W := (HO4w.out.trans HO45.out).trans' hOW (by have := HO4w.out.size; simp; omega)
      gi_wp2_with (fail)
      refine ⟨trivial, ?_⟩
      refine (callsIn_wide.2 (known_any W)).mono ?_
      rintro e W2 ⟨rfl, hO2⟩
      have hk62 := hk6.only hO2 (by simp)
      have c6 : W2.cell? ⟨b6, 0, none⟩ = some (.bool false) := hk62.cell 0
      have f6 : W2.frozen? ⟨b6, 0, none⟩ = false := hk62.frozen 0
      have hK2 := (hO2.block D (Array.getElem?_eq_some_iff.1 hK).1 (by simp)).trans hK
      have hwb6 : w.heap.size ≤ b6 ∧ b6 < D ∧ w.heap.size ≤ D := by omega
      have hOx2 := hOx.trans hO2
      clear hO2 hK hOx ce cs
      gi_wp2_with (fail)
      have hb6 := hk62.set 0 (.bool true)
      have c7 : (W2.setCell ⟨b6, 0, none⟩ (.bool true)).cell? ⟨b6, 0, none⟩ = some (.bool true) := hb6.cell 0
      have hOx6 : Only [] w (W2.setCell ⟨b6, 0, none⟩ (.bool true)) := hOx2.setCell (.inr (by show _ ≤ b6; omega)) _
      have hK26 := (Below.heap_setCell W2 ⟨b6, 0, none⟩ (.bool true) D (by show D ≠ b6; omega)).trans hK2
      clear c6 f6 hK2 hOx2 hb6
      generalize W2.setCell ⟨b6, 0, none⟩ (.bool true) = W6 at c7 hOx6 hK26 ⊢
      refine ⟨by simp, .inl ⟨_, _, rfl, run_takeDeferred hK26, ?_⟩⟩
      have hOz : Only [] w (W6.putObj D (.deferred none)) := hOx6.trans' (l' := [D]) ⟨rfl, rfl, rfl, by simp [World.putObj], fun k _ hk => World.putObj_heap_other (by simpa using hk)⟩ (by simp; omega)
      have c9 : (W6.putObj D (.deferred none)).cell? ⟨b6, 0, none⟩ = some (.bool true) := (World.cell?_of_block (World.putObj_heap_other (by show b6 ≠ D; omega))).trans c7
      exact ⟨.bool true, by simp [results, Tryd.results5, go_sem, c9], rfl, hOz⟩
end Go.Proofs.YtodgllnmepnpfaaDoor
