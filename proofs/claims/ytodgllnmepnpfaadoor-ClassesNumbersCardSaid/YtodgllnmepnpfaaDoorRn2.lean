/- classes.Runs: what the iterator hands out, inside a fence. -/
import Derived.Test.YtodgllnmepnpfaaDoorRn1
import Derived.Lib.OthersKept
import Derived.Sort.CutIn
import Derived.Stop.RegionWithIn
set_option linter.unusedVariables false
set_option linter.unusedSimpArgs false
namespace Go.Proofs.YtodgllnmepnpfaaDoor
open Go.RowKit Go.Shelf
attribute [local go_sem] Oper.semAt_some

/-- what a round that goes on keeps: what lay below n₀, each single run in a box, the texts' iterators -/
def KpRn (n₀ : Nat) (W W' : World) : Prop := Below n₀ W W' ∧ (∀ (k : Nat) (cs : Array Value), W.heap[k]? = some (.cells cs 39 (0, 0)) → cs.size = 4 → W'.heap[k]? = W.heap[k]?) ∧ ∀ (k : Nat) (s : ByteArray) (p : Nat), W.heap[k]? = some (.stringIter s p) → W'.heap[k]? = W.heap[k]?
theorem KpRn.trans {n₀ : Nat} {A B C : World} (h : KpRn n₀ A B) (k : KpRn n₀ B C) : KpRn n₀ A C :=
  ⟨h.1.trans k.1, fun b cs hb hc => (k.2.1 b cs ((h.2.1 b cs hb hc).trans hb) hc).trans (h.2.1 b cs hb hc), fun b s p hb => (k.2.2 b s p ((h.2.2 b s p hb).trans hb)).trans (h.2.2 b s p hb)⟩
theorem KpRn.put {n₀ : Nat} {w : World} (hn : n₀ ≤ w.heap.size) (W : World) (l : Nat) (o o' : Obj) (hl : w.heap.size ≤ l) (h : W.heap[l]? = some o) (hc : o.isCells = false) (hw : o.isWalk = false) : KpRn n₀ W (W.putObj l o') :=
  ⟨belowK_b hn W l o o' hl h hc hw, fun k cs hk _ => World.putObj_heap_other (fun e => by subst e; rw [h] at hk; cases hk; cases hc), fun k s p hk => World.putObj_heap_other (fun e => by subst e; rw [h] at hk; cases hk; cases hw)⟩
theorem KpRn.only {n₀ : Nat} {l : List Nat} {W W' : World} (h : Only l W W') (hn : n₀ ≤ W.heap.size) (h1 : ∀ x ∈ l, n₀ ≤ x) (h2 : ∀ x ∈ l, ∃ cs t, W.heap[x]? = some (.cells cs t (0, 0)) ∧ (t ≠ 39 ∨ cs.size ≠ 4)) : KpRn n₀ W W' :=
  ⟨h.belowB hn h1, fun k cs hk hc => h.block k (Array.getElem?_eq_some_iff.1 hk).1 (fun hm => by
    obtain ⟨cs', t, e, hne⟩ := h2 k hm
    rw [hk] at e; injection e with e; injection e with e1 e2
    rcases hne with hne | hne
    · exact hne e2.symm
    · exact hne (e1 ▸ hc)), fun k s p hk => h.block k (Array.getElem?_eq_some_iff.1 hk).1 (fun hm => by
    obtain ⟨cs', t, e, _⟩ := h2 k hm
    rw [hk] at e; cases e)⟩
theorem Tab.below {w0 W : World} {base g n₀ : Nat} {a b d : List Sp} (h : Tab w0 base g a b d) (hB : Below n₀ w0 W) (hz : w0.heap.size ≤ n₀) : Tab W base g a b d :=
  h.only (l := []) ⟨hB.os, hB.tape, hB.output, hB.size, fun k hk _ => hB.block k (by omega)⟩ (by simp)
theorem tabs_below {w0 W : World} {n₀ : Nat} (h : Tabs w0) (hB : Below n₀ w0 W) (hz : w0.heap.size ≤ n₀) : Tabs W :=
  h.only (l := []) ⟨hB.os, hB.tape, hB.output, hB.size, fun k hk _ => hB.block k (by omega)⟩ (by simp) (by simp)
theorem cell_below {w0 W : World} {n₀ : Nat} {p : Addr} {v : Value} (h : w0.cell? p = some v) (hB : Below n₀ w0 W) (hz : w0.heap.size ≤ n₀) : W.cell? p = some v := by
  have := World.block_lt_of_cell? w0 p h
  exact (hB.cell (by omega)).trans h
theorem grown_one {k : Nat} {W W' : World} (h : Only [k] W W') : W.grownBy W' (some k) := ⟨h.os, h.tape, h.output, h.size, fun j hj hne => h.block j hj (fun hm => hne (by rw [List.mem_singleton.1 hm]))⟩
theorem grown_none {W W' : World} (h : Only [] W W') : W.grownBy W' none := ⟨h.os, h.tape, h.output, h.size, fun k hk _ => h.block k hk (by simp)⟩
theorem AbidesAt.none {β : Type} {B : Nat} {J : β → World → Prop} (h : AbidesAt B J) {s : β} {W W' : World} (hs : J s W) (hO : Only [] W W') : J s W' := h s W W' Option.none hs (grown_none hO) (by simp)
theorem AbidesAt.own {β : Type} {B : Nat} {J : β → World → Prop} (h : AbidesAt B J) {s : β} {W W' : World} (hs : J s W) (hO : Only [B] W W') : J s W' := h s W W' (some B) hs (grown_one hO) (fun r e => by cases e; exact ⟨Nat.le_refl _, .inr rfl⟩)
theorem AbidesAt.walk {β : Type} {B : Nat} {J : β → World → Prop} (h : AbidesAt B J) {s : β} {W W' : World} (hs : J s W) {k : Nat} (hO : Only [k] W W') (hk : B ≤ k) {o : Obj} (ho : W.heap[k]? = some o) (hw : o.isWalk = true) : J s W' := h s W W' (some k) hs (grown_one hO) (fun r e => by cases e; exact ⟨hk, .inl ⟨o, ho, hw⟩⟩)
theorem only_iter (W : World) (k : Nat) (s : ByteArray) (p : Nat) : Only [k] W (W.iterAt k s p) :=
  ⟨rfl, rfl, rfl, by rw [Lib.iterAt_size]; exact Nat.le_refl _, fun i hi hn => Lib.iterAt_other W k i s p (by simpa using hn)⟩
theorem iter_pos {W : World} {k : Nat} {s : ByteArray} {p : Nat} (h : W.heap[k]? = some (.stringIter s p)) : W.iterPos k = p := by
  unfold World.iterPos; rw [h]
theorem loadRn {P : Program} (hP : P = Tryd.prog) {w : World} {h0 : Nat} {v0 v1 v2 v3 : Value} (hb : Blk w h0 39 [v0, v1, v2, v3]) : w.cell? ⟨h0, 0, none⟩ = some v0 ∧ w.cell? ⟨h0, 1, none⟩ = some v1 ∧ w.cell? ⟨h0, 2, none⟩ = some v2 ∧ w.cell? ⟨h0, 3, none⟩ = some v3 :=
  ⟨hb.cell 0, hb.cell 1, hb.cell 2, hb.cell 3⟩

set_option maxRecDepth 100000 in
set_option maxHeartbeats 8000000 in
theorem runs1_in (n : Nat) (hn : 1 ≤ n) (l Bs Bt n₀ : Nat) (s : ByteArray) (hs : s.size ≤ 4500000) (w0 : World) (base g : Nat) (a b d : List Sp) (hTab : Tab w0 base g a b d) (hbw : base ≤ w0.heap.size) (hz0 : w0.heap.size ≤ n₀)
    (J Jx : List RunD → World → Prop) (W : World) (hW : Below n₀ w0 W) (hn0 : n₀ ≤ W.heap.size) (hJ : AbidesAt W.heap.size J) (hJx : AbidesAt W.heap.size Jx)
    (hY : ∀ pre x W1, J pre W1 → pre.length < (runsU a b d s).length → pre ++ [x] <+: runsU a b d s → W.heap.size < W1.heap.size → YieldAt Fence.wide (n - 1) Tryd.prog l #[.agg x.enc.toArray] W1 fun e W' =>
      (e = .returned (.bool true) ∧ J (pre ++ [x]) W' ∧ KpRn n₀ W1 W') ∨ (e = .returned (.bool false) ∧ Jx (pre ++ [x]) W'))
    (hBs : w0.cell? ⟨Bs, 0, none⟩ = some (.string s)) (hBt : w0.cell? ⟨Bt, 0, none⟩ = some (.pointer (some ⟨g, 0, none⟩))) (hT : Tabs w0) (h0 : J [] W) :
    CallsIn Fence.wide n Tryd.prog 21 #[.func (.yield l) #[] #[], .pointer (some ⟨Bs, 0, none⟩), .pointer (some ⟨Bt, 0, none⟩)] W fun e W' => (∃ v, e = .returned v) ∧
      ((∃ ys, ys = runsU a b d s ∧ J ys W') ∨ (∃ pre, pre <+: runsU a b d s ∧ Jx pre W')) := by
  refine callsIn_of_wp Tryd.func21 rfl trivial ?_ rfl
  simp only [Tryd.ntmps21, List.size_toArray, List.length_cons, List.length_nil, Nat.reduceAdd, Nat.reduceSub, Array.replicate_succ, Array.replicate_zero, List.push_toArray, List.append_toArray, List.nil_append, List.cons_append]
  obtain ⟨br, hbr⟩ : ∃ k, k = W.heap.size := ⟨_, rfl⟩
  rw [← hbr] at hn0 hJ hJx hY
  have hbs1 := cell_below hBs hW hz0
  have hO1 : Only [] W (W.alloc (.cells #[.int .i64 0, .int .i64 0, .int .i64 0, .int .i64 0] 39)) := (Only.refl _ _).alloc _
  have hbs2 := hO1.cellv hbs1 (by simp)
  have hO2 : Only [] W ((W.alloc (.cells #[.int .i64 0, .int .i64 0, .int .i64 0, .int .i64 0] 39)).alloc (.stringIter s 0)) := hO1.alloc _
  have hz1 : (W.alloc (.cells #[.int .i64 0, .int .i64 0, .int .i64 0, .int .i64 0] 39)).heap.size = br + 1 := by simp; omega
  have hit : ((W.alloc (.cells #[.int .i64 0, .int .i64 0, .int .i64 0, .int .i64 0] 39)).alloc (.stringIter s 0)).heap[br + 1]? = some (.stringIter s 0) := by rw [← hz1]; exact World.iter_heap _ s 0
  have hbb : Blk ((W.alloc (.cells #[.int .i64 0, .int .i64 0, .int .i64 0, .int .i64 0] 39)).alloc (.stringIter s 0)) br 39 [.int .i64 0, .int .i64 0, .int .i64 0, .int .i64 0] := (Blk.new' _ _ _ hbr.symm rfl).alloc _
  have hJ0 := hJ.none h0 hO2
  have hW2 : Below n₀ w0 ((W.alloc (.cells #[.int .i64 0, .int .i64 0, .int .i64 0, .int .i64 0] 39)).alloc (.stringIter s 0)) := hW.trans (hO2.belowB (by omega) (by simp))
  have Hbr := Lib.hid hbr
  clear hbr
  gi_wp2_with (fail)
  rw [← Hbr.out]
  gi_loopw [5] (fun _ wr => ∃ (p : Nat) (pre : List RunD) (k f c : Nat), p ≤ s.size ∧ Hid ((c = 0 ∧ p = 0 ∧ pre = [] ∧ k = 0 ∧ f = 0) ∨ (1 ≤ c ∧ c ≤ p ∧ f ≤ p ∧ k ≤ 4 ∧ pre ++ runsG a b d ⟨k, f, p, c⟩ (itemsF s (s.size - p) p) = runsU a b d s)) ∧ J pre wr ∧ Blk wr br 39 [.int .i64 (k : Int), .int .i64 (f : Int), .int .i64 0, .int .i64 (c : Int)] ∧ wr.heap[br + 1]? = some (.stringIter s p) ∧ Below n₀ w0 wr) (fun _ wr => s.size - wr.iterPos (br + 1))
  case atStart => exact ⟨0, [], 0, 0, 0, by omega, Lib.hid (.inl ⟨rfl, rfl, rfl, rfl, rfl⟩), hJ0, hbb, hit, hW2⟩
  case round =>
    clear hit hbb hJ0 hW2 hO2 hz1 hO1 hbs1 hbs2
    obtain ⟨p, pre, k, f, c, hp, hst, hJs, hb, hit, hB⟩ := hrel
    have hpos0 := iter_pos hit
    have hwsz : br < wr.heap.size := hb.lt
    by_cases hlt : p < s.size
    · have hnx : ∀ ty, (Instr.next (.pointer (some ⟨br + 1, 0, none⟩)) true ty).run Tryd.prog wr = _ := fun ty => Lib.run_next_any_at wr (br + 1) s p ty hit hlt
      have hit2 := Lib.iterAt_heap wr (br + 1) s p (p + (Utf8.decode s p).2) hit
      have hdw := Lib.width_pos s p
      have hdl := dec_le s p hlt
      have hrl := Lib.rune_le s p
      have hkg := kind_good (s := s) (p := p) a b d
      have hst2 := itemsF_step hlt
      have hkl := kind_le a b d (itAt s p)
      obtain ⟨K, hK⟩ : ∃ K, K = kindIt a b d (itAt s p) := ⟨_, rfl⟩
      have hone : RunD.one a b d (itAt s p) = ⟨K, p, p + (Utf8.decode s p).2, 1⟩ := by rw [hK]; rfl
      have hkb : kindIt a b d (itAt s p) = if isBad (Utf8.decode s p) = true then 4 else kindOf a b d ((Utf8.decode s p).1 : Int) := rfl
      have hie : itAt (s.extract p s.size) 0 = ⟨0, (Utf8.decode s p).2, (Utf8.decode s p).1, isBad (Utf8.decode s p)⟩ := by
        have e : Utf8.decode (s.extract p s.size) 0 = Utf8.decode s p := by rw [Lib.tail_decode, Nat.add_zero]
        unfold itAt; rw [e]
      rw [← hK] at hkg hkl hkb
      have hrun : ∀ c' f' k' : Nat, runsG a b d ⟨k', f', p, c'⟩ (itemsF s (s.size - p) p) = if K = k' then runsG a b d ⟨k', f', p + (Utf8.decode s p).2, c' + 1⟩ (itemsF s (s.size - (p + (Utf8.decode s p).2)) (p + (Utf8.decode s p).2)) else ⟨k', f', p, c'⟩ :: runsG a b d ⟨K, p, p + (Utf8.decode s p).2, 1⟩ (itemsF s (s.size - (p + (Utf8.decode s p).2)) (p + (Utf8.decode s p).2)) := by
        intro c' f' k'
        rw [hst2, runsG, ← hK, hone]; rfl
      have hzero : p = 0 → runsU a b d s = runsG a b d ⟨K, 0, (Utf8.decode s p).2, 1⟩ (itemsF s (s.size - (p + (Utf8.decode s p).2)) (p + (Utf8.decode s p).2)) := by
        rintro rfl
        unfold runsU itemsU
        rw [Nat.sub_zero] at hst2
        rw [hst2, runsL, hone, Nat.zero_add]
      obtain ⟨dd, hd⟩ : ∃ dd, dd = Utf8.decode s p := ⟨_, rfl⟩
      rw [← hd] at hnx hit2 hdw hdl hrl hkg hkb hie hrun hzero
      obtain ⟨r, m⟩ := dd
      simp only at hnx hit2 hdw hdl hrl hkg hkb hie hrun hzero
      obtain ⟨W1, hW1⟩ : ∃ W1, W1 = wr.iterAt (br + 1) s (p + m) := ⟨_, rfl⟩
      have hO1 : Only [br + 1] wr W1 := by rw [hW1]; exact only_iter _ _ _ _
      rw [← hW1] at hnx hit2
      have hJ1 := hJ.walk hJs hO1 (by omega) hit rfl
      have hb1 := hb.only hO1 (by simp)
      have hn1 : br < W1.heap.size := hb1.lt
      have hB1 : Below n₀ w0 W1 := hB.trans (hO1.belowB (by omega) (by simp; omega))
      have hBs1 := cell_below hBs hB1 hz0
      have hBt1 := cell_below hBt hB1 hz0
      have HK := Lib.hid hK
      have Hrun := Lib.hid hrun
      have Hzero := Lib.hid hzero
      have Hkb := Lib.hid hkb
      have Hkg := Lib.hid hkg
      have Hie := Lib.hid hie
      clear hK hone hst2 hrun hzero hkb hkg hie hd hW1 hO1 hJs hb hit hB
      gi_wp2_with (fail)
      refine ⟨trivial, ?_⟩
      refine (callsIn_wide.2 (of_any W1 base g a b d (hTab.below hB1 hz0) (r : Int))).mono ?_
      rintro e W2 ⟨rfl, hO2⟩
      have hBs2 := hO2.cellv hBs1 (by simp)
      have hBt2 := hO2.cellv hBt1 (by simp)
      obtain ⟨k0, hk0⟩ : ∃ z, z = kindOf a b d (r : Int) := ⟨_, rfl⟩
      rw [← hk0]
      have Hk0 := Lib.hid hk0
      clear hk0 hBs1 hBt1 hnx
      by_cases hr : r = 65533
      case' neg =>
        have hr1 : ((r : Int) == 65533) = false := by simp; omega
        have hkk : k0 = K := by rw [Hk0.out]; exact (Hkg.out hr).symm
        rw [hkk]
        clear hkk
        gi_upto_region 7 with (fail)
        obtain ⟨W3, e3, hO3⟩ : ∃ W3, W3 = W2 ∧ Only [] W2 W3 := ⟨_, rfl, Only.refl _ _⟩
        rw [← e3]
        clear e3
      case' pos =>
        subst hr
        gi_wp2_with (fail)
        have hT2 := hTab.below (hB1.trans (hO2.belowB (by omega) (by simp))) hz0
        have hTt2 := tabs_below hT (hB1.trans (hO2.belowB (by omega) (by simp))) hz0
        have hms : ∀ W, Only [] W2 W → W.cell? ⟨Bs, 0, none⟩ = some (.string s) ∧ W.cell? ⟨Bt, 0, none⟩ = some (.pointer (some ⟨g, 0, none⟩)) := fun W h => ⟨h.cellv hBs2 (by simp), h.cellv hBt2 (by simp)⟩
        gi_region_with (first
          | (refine ⟨trivial, ?_⟩
             gi_at_call 22
             refine (callsIn_wide.2 (one_any s p hlt hs _ (hTt2.only (by first | exact (Only.refl [] W2) | exact (Only.refl [] W2).drew) (by simp) (by simp)))).mono ?_
             rintro e w5 ⟨rfl, hO5⟩
             replace hO5 : Only [] W2 w5 := by first | exact hO5 | exact hO5.ofDrew
             rw [Hie.out]
             obtain ⟨q1, q2⟩ := hms _ hO5)
          | (refine ⟨trivial, ?_⟩
             gi_at_call 15
             simp only [It.enc]
             refine (callsIn_wide.2 (kind_any _ base g a b d (hT2.only (by first | exact hO5 | exact hO5.drew) (by simp)) (by have := hO5.size; have := hO2.size; have := hB1.size; simp; omega) _ _ _ _)).mono ?_
             rintro e w6 ⟨rfl, hO6⟩
             first | replace hO6 : Only [] W2 w6 := hO5.trans hO6 | replace hO6 : Only [] W2 w6 := hO5.drew.trans hO6
             rw [← Hkb.out]))
        all_goals
          have hO3 := hO6
          rename World => W3
          clear hO5 hO6
      all_goals
        have hO13 := hO2.trans hO3
        have hJ3 := hJ.none hJ1 hO13
        have hb3 := hb1.only hO13 (by simp)
        have hit3 : W3.heap[br + 1]? = some (.stringIter s (p + m)) := (hO13.block _ (Array.getElem?_eq_some_iff.1 hit2).1 (by simp)).trans hit2
        have hB3 : Below n₀ w0 W3 := hB1.trans (hO13.belowB (by omega) (by simp))
        have hz3 : br < W3.heap.size := hb3.lt
        have hpos3 := iter_pos hit3
        clear hJ1 hb1 hit2 hB1 hO2 hO3 hO13 hBs2 hBt2 Hk0 Hkb Hkg Hie hn1
        have c0 : W3.cell? ⟨br, 0, none⟩ = some (.int .i64 (k : Int)) := hb3.cell 0
        have c1 : W3.cell? ⟨br, 1, none⟩ = some (.int .i64 (f : Int)) := hb3.cell 1
        have c2 : W3.cell? ⟨br, 2, none⟩ = some (.int .i64 0) := hb3.cell 2
        have c3 : W3.cell? ⟨br, 3, none⟩ = some (.int .i64 (c : Int)) := hb3.cell 3
        have z0 := hb3.frozen 0
        have z1 := hb3.frozen 1
        have z2 := hb3.frozen 2
        have z3 := hb3.frozen 3
        by_cases hc : c = 0
        · subst hc
          rcases hst.out with ⟨-, rfl, rfl, rfl, rfl⟩ | ⟨h, -⟩
          rotate_left
          · omega
          have hg0 : ¬ (0 : Int) < ((0 : Nat) : Int) := by omega
          have hO4 := ((Only.refl [br] W3).setCell (p := ⟨br, 0, none⟩) (.inl (by simp)) (.int .i64 (K : Int))).setCell (p := ⟨br, 3, none⟩) (.inl (by simp)) (.int .i64 1)
          have HJ4 := Lib.hid (hJ.own hJ3 hO4)
          have Hb4 := Lib.hid ((hb3.set 0 (.int .i64 (K : Int))).set 3 (.int .i64 1))
          have hit4 := (hO4.block _ (Array.getElem?_eq_some_iff.1 hit3).1 (by simp)).trans hit3
          have Hpos4 := Lib.hid (iter_pos hit4)
          have Hit4 := Lib.hid hit4
          have HB4 := Lib.hid (hB3.trans (hO4.belowB (by omega) (by simp; omega)))
          clear hO4 hit4 hJ3 hb3 hit3 hB3 hst
          gi_wp2_with (fail)
          go_roundw
          case rel => exact ⟨0 + m, [], K, 0, 1, by omega, Lib.hid (.inr ⟨by omega, by omega, by omega, by omega, by rw [List.nil_append, Hzero.out rfl]; simp⟩), HJ4.out, Hb4.out, Hit4.out, HB4.out⟩
          case measure => rw [Hpos4.out, hpos0]; omega
        · rcases hst.out with ⟨h, -⟩ | ⟨hc1, hcp, hfp, hk4, heq⟩
          · omega
          have Heq := Lib.hid heq
          have hg0 : (0 : Int) < (c : Int) := by omega
          clear heq hst
          by_cases hKk : K = k
          · subst hKk
            have hne : ((K : Int) != (K : Int)) = false := by simp
            have hO4 := ((Only.refl [br] W3).setCell (p := ⟨br, 0, none⟩) (.inl (by simp)) (.int .i64 (K : Int))).setCell (p := ⟨br, 3, none⟩) (.inl (by simp)) (.int .i64 ((c : Int) + 1))
            have HJ4 := Lib.hid (hJ.own hJ3 hO4)
            have Hb4 := Lib.hid ((hb3.set 0 (.int .i64 (K : Int))).set 3 (.int .i64 ((c : Int) + 1)))
            have hit4 := (hO4.block _ (Array.getElem?_eq_some_iff.1 hit3).1 (by simp)).trans hit3
            have Hpos4 := Lib.hid (iter_pos hit4)
            have Hit4 := Lib.hid hit4
            have HB4 := Lib.hid (hB3.trans (hO4.belowB (by omega) (by simp; omega)))
            clear hO4 hit4 hJ3 hb3 hit3 hB3
            gi_wp2_with (fail)
            go_roundw
            case rel => exact ⟨p + m, pre, K, f, c + 1, by omega, Lib.hid (.inr ⟨by omega, by omega, by omega, by omega, by rw [← Heq.out, Hrun.out c f K, if_pos rfl]⟩), HJ4.out, Hb4.out, Hit4.out, HB4.out⟩
            case measure => rw [Hpos4.out, hpos0]; omega
          · have hne : ((K : Int) != (k : Int)) = true := by simp; omega
            have hO4 := (Only.refl [br] W3).setCell (p := ⟨br, 2, none⟩) (.inl (by simp)) (.int .i64 (p : Int))
            have hJ4 := hJ.own hJ3 hO4
            have hb4 : Blk (W3.setCell ⟨br, 2, none⟩ (.int .i64 (p : Int))) br 39 [.int .i64 (k : Int), .int .i64 (f : Int), .int .i64 (p : Int), .int .i64 (c : Int)] := hb3.set 2 (.int .i64 (p : Int))
            have hit4 := (hO4.block _ (Array.getElem?_eq_some_iff.1 hit3).1 (by simp)).trans hit3
            have hB4 := hB3.trans (hO4.belowB (by omega) (by simp; omega))
            have hr2 := Hrun.out c f k
            rw [if_neg hKk] at hr2
            rw [hr2] at Heq
            have hlen : pre.length < (runsU a b d s).length := by rw [← Heq.out]; simp
            have hsz4 : br < (W3.setCell ⟨br, 2, none⟩ (.int .i64 (p : Int))).heap.size := hb4.lt
            obtain ⟨fn, tmps, assign, body, hy, hR⟩ := hY pre ⟨k, f, p, c⟩ _ hJ4 hlen ⟨_, by rw [← Heq.out, List.append_assoc]; rfl⟩ hsz4
            simp only [RunD.enc] at hy
            have d0 := hb4.cell 0
            have d1 := hb4.cell 1
            have d2 := hb4.cell 2
            have d3 := hb4.cell 3
            clear hr2 hlen hsz4 hO4 hJ3 hJ4 hit3 hB3 hb3
            gi_wp2_with (fail)
            refine hR.mono ?_
            rintro e W5 (⟨rfl, hJ5, hk5⟩ | ⟨rfl, hJx5⟩)
            · have hb5 : Blk W5 br 39 [.int .i64 (k : Int), .int .i64 (f : Int), .int .i64 (p : Int), .int .i64 (c : Int)] := (hk5.2.1 br _ hb4 rfl).trans hb4
              have hit5 := (hk5.2.2 _ _ _ hit4).trans hit4
              have hB5 := hB4.trans hk5.1
              have hwz5 := hb5.lt
              have c0 : W5.cell? ⟨br, 0, none⟩ = some (.int .i64 (k : Int)) := hb5.cell 0
              have c1 : W5.cell? ⟨br, 1, none⟩ = some (.int .i64 (f : Int)) := hb5.cell 1
              have c2 : W5.cell? ⟨br, 2, none⟩ = some (.int .i64 (p : Int)) := hb5.cell 2
              have c3 : W5.cell? ⟨br, 3, none⟩ = some (.int .i64 (c : Int)) := hb5.cell 3
              have z0 := hb5.frozen 0
              have z1 := hb5.frozen 1
              have z2 := hb5.frozen 2
              have z3 := hb5.frozen 3
              have hO6 := (((((((Only.refl [br] W5).setCell (p := ⟨br, 0, none⟩) (.inl (by simp)) (.int .i64 0)).setCell (p := ⟨br, 1, none⟩) (.inl (by simp)) (.int .i64 (p : Int))).setCell (p := ⟨br, 2, none⟩) (.inl (by simp)) (.int .i64 0)).setCell (p := ⟨br, 3, none⟩) (.inl (by simp)) (.int .i64 0)).setCell (p := ⟨br, 0, none⟩) (.inl (by simp)) (.int .i64 (K : Int))).setCell (p := ⟨br, 3, none⟩) (.inl (by simp)) (.int .i64 1))
              have HJ6 := Lib.hid (hJ.own hJ5 hO6)
              have Hb6 := Lib.hid ((((((hb5.set 0 (.int .i64 0)).set 1 (.int .i64 (p : Int))).set 2 (.int .i64 0)).set 3 (.int .i64 0)).set 0 (.int .i64 (K : Int))).set 3 (.int .i64 1))
              have hit6 := (hO6.block _ (Array.getElem?_eq_some_iff.1 hit5).1 (by simp)).trans hit5
              have Hpos6 := Lib.hid (iter_pos hit6)
              have Hit6 := Lib.hid hit6
              have HB6 := Lib.hid (hB5.trans (hO6.belowB (by omega) (by simp; omega)))
              clear hO6 hit6 hJ5 hb5 hit5 hB5 hk5 hb4 hit4 hB4 hy hR d0 d1 d2 d3
              gi_wp2_with (fail)
              go_roundw
              case rel => exact ⟨p + m, pre ++ [⟨k, f, p, c⟩], K, p, 1, by omega, Lib.hid (.inr ⟨by omega, by omega, by omega, by omega, by rw [← Heq.out, List.append_assoc]; rfl⟩), HJ6.out, Hb6.out, Hit6.out, HB6.out⟩
              case measure => rw [Hpos6.out, hpos0]; omega
            · clear hb4 hit4 hB4 hy hR d0 d1 d2 d3
              gi_wp2_with (fail)
              refine bodyPost_ret (results_none rfl _ _ _) rfl ?_
              exact ⟨⟨_, rfl⟩, .inr ⟨pre ++ [⟨k, f, p, c⟩], ⟨_, by rw [← Heq.out, List.append_assoc]; rfl⟩, hJx5⟩⟩
    · obtain rfl : p = s.size := by omega
      have hnx : ∀ ty, (Instr.next (.pointer (some ⟨br + 1, 0, none⟩)) true ty).run Tryd.prog wr = _ := fun ty => Lib.run_next_end_at wr (br + 1) s s.size ty hit hlt
      have he : itemsF s (s.size - s.size) s.size = [] := by rw [Nat.sub_self]; rfl
      have hbs1 := cell_below hBs hB hz0
      have c0 : wr.cell? ⟨br, 0, none⟩ = some (.int .i64 (k : Int)) := hb.cell 0
      have c1 : wr.cell? ⟨br, 1, none⟩ = some (.int .i64 (f : Int)) := hb.cell 1
      have c2 : wr.cell? ⟨br, 2, none⟩ = some (.int .i64 0) := hb.cell 2
      have c3 : wr.cell? ⟨br, 3, none⟩ = some (.int .i64 (c : Int)) := hb.cell 3
      have z2 := hb.frozen 2
      have hO4 := (Only.refl [br] wr).setCell (p := ⟨br, 2, none⟩) (.inl (by simp)) (.int .i64 (s.size : Int))
      have hJ4 := hJ.own hJs hO4
      have hb4 : Blk (wr.setCell ⟨br, 2, none⟩ (.int .i64 (s.size : Int))) br 39 [.int .i64 (k : Int), .int .i64 (f : Int), .int .i64 (s.size : Int), .int .i64 (c : Int)] := hb.set 2 (.int .i64 (s.size : Int))
      have He := Lib.hid he
      by_cases hc : c = 0
      · subst hc
        rcases hst.out with ⟨-, h2, rfl, -, -⟩ | ⟨h, -⟩
        rotate_left
        · omega
        have hg0 : ¬ (0 : Int) < ((0 : Nat) : Int) := by omega
        have hru : runsU a b d s = [] := by
          unfold runsU itemsU
          rw [h2]; rfl
        have Hru := Lib.hid hru
        have HJ4 := Lib.hid hJ4
        clear he hst hJs hb hit hB hO4 hJ4 hb4 hru h2
        gi_wp2_with (fail)
        go_end0
        first | exact ⟨⟨_, rfl⟩, .inl ⟨[], Hru.out.symm, HJ4.out⟩⟩ | exact ⟨⟨_, rfl⟩, .inl (by rw [Hru.out]; exact HJ4.out)⟩
      · rcases hst.out with ⟨h, -⟩ | ⟨hc1, hcp, hfp, hk4, heq⟩
        · omega
        rw [he, runsG] at heq
        have Heq := Lib.hid heq
        have hg0 : (0 : Int) < (c : Int) := by omega
        have hlen : pre.length < (runsU a b d s).length := by rw [← heq]; simp
        have hsz4 : br < (wr.setCell ⟨br, 2, none⟩ (.int .i64 (s.size : Int))).heap.size := hb4.lt
        obtain ⟨fn, tmps, assign, body, hy, hR⟩ := hY pre ⟨k, f, s.size, c⟩ _ hJ4 hlen ⟨[], by rw [List.append_nil]; exact Heq.out⟩ hsz4
        simp only [RunD.enc] at hy
        have d0 := hb4.cell 0
        have d1 := hb4.cell 1
        have d2 := hb4.cell 2
        have d3 := hb4.cell 3
        clear heq he hst hJs hb hit hB hO4 hJ4 hlen hsz4
        gi_wp2_with (fail)
        refine hR.mono ?_
        rintro e W5 (⟨rfl, hJ5, hk5⟩ | ⟨rfl, hJx5⟩)
        · clear hb4 hy hR d0 d1 d2 d3 hk5
          gi_wp2_with (fail)
          go_end0
          exact ⟨⟨_, rfl⟩, .inl ⟨_, Heq.out, hJ5⟩⟩
        · clear hb4 hy hR d0 d1 d2 d3
          gi_wp2_with (fail)
          go_end0
          exact ⟨⟨_, rfl⟩, .inr ⟨_, ⟨[], by rw [List.append_nil]; exact Heq.out⟩, hJx5⟩⟩

theorem runs_stops (n : Nat) (hn : 1 ≤ n) (Bs Bt n₀ : Nat) (s : ByteArray) (hs : s.size ≤ 4500000) (w : World) (base g : Nat) (a b d : List Sp) (hTab : Tab w base g a b d) (hbw : base ≤ w.heap.size) (hz : w.heap.size = n₀) (hBs : w.cell? ⟨Bs, 0, none⟩ = some (.string s)) (hBt : w.cell? ⟨Bt, 0, none⟩ = some (.pointer (some ⟨g, 0, none⟩))) (hT : Tabs w) :
    SeqStopsC Fence.wide n Tryd.prog 21 #[.pointer (some ⟨Bs, 0, none⟩), .pointer (some ⟨Bt, 0, none⟩)] (fun x : RunD => #[.agg x.enc.toArray]) (KpRn n₀) (fun ys => ys = runsU a b d s) (fun pre => pre <+: runsU a b d s) (runsU a b d s).length w := fun l J Jx W hW hJ hJx hY h0 =>
  runs1_in n hn l Bs Bt n₀ s hs w base g a b d hTab hbw (by omega) J Jx W (hz ▸ hW) (by rw [← hz]; exact hW.size) hJ hJx hY hBs hBt hT h0

set_option maxRecDepth 100000 in
theorem runs_any (s : ByteArray) (g : Nat) (w : World) :
    Calls Tryd.prog 8 #[.pointer (some ⟨g, 0, none⟩), .string s] w fun e w' => e = .returned (.func (.func 21) #[] #[.pointer (some ⟨w.heap.size + 1, 0, none⟩), .pointer (some ⟨w.heap.size, 0, none⟩)]) ∧ w' = (w.alloc (.cells #[.pointer (some ⟨g, 0, none⟩)] 22)).alloc (.cells #[.string s] 9) := by
  go_enter Tryd.func8, Tryd.ntmps8
  go_wp2_with (fail)
  go_ret
  exact ⟨rfl, rfl⟩
end Go.Proofs.YtodgllnmepnpfaaDoor
