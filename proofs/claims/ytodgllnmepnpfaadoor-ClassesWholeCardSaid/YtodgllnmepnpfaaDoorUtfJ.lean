/- the iterator inside the fence, where a round may write what lies below the text's box. -/
import Derived.Test.YtodgllnmepnpfaaDoorUtfI
set_option linter.unusedVariables false
set_option linter.unusedSimpArgs false
namespace Go.Proofs.YtodgllnmepnpfaaDoor
open Go.RowKit

/-- what a round that goes on keeps: the two tables, the text's box, and each single item that lay in a box -/
def KpBn (Bn : Nat) (W W' : World) : Prop := (∀ k, k ≤ 1 ∨ k = Bn → k < W.heap.size → W'.heap[k]? = W.heap[k]?) ∧ ∀ (k : Nat) (cs : Array Value), W.heap[k]? = some (.cells cs 58 (0, 0)) → cs.size = 4 → W'.heap[k]? = W.heap[k]?
theorem KpBn.trans {Bn : Nat} {A B C : World} (h : KpBn Bn A B) (k : KpBn Bn B C) : KpBn Bn A C :=
  ⟨fun j hj hl => by
    have e := h.1 j hj hl
    have hl2 : j < B.heap.size := by
      have h1 : A.heap[j]? = some A.heap[j] := Array.getElem?_eq_getElem hl
      exact (Array.getElem?_eq_some_iff.1 (e.trans h1)).1
    exact (k.1 j hj hl2).trans e, fun b cs hb hc => (k.2 b cs ((h.2 b cs hb hc).trans hb) hc).trans (h.2 b cs hb hc)⟩
theorem KpBn.put {Bn : Nat} {w : World} (hn : Bn < w.heap.size) (h2 : 2 ≤ w.heap.size) (W : World) (l : Nat) (o o' : Obj) (hl : w.heap.size ≤ l) (h : W.heap[l]? = some o) (hc : o.isCells = false) (hw : o.isWalk = false) : KpBn Bn W (W.putObj l o') :=
  ⟨fun k hk _ => World.putObj_heap_other (by omega), fun k cs hk _ => World.putObj_heap_other (fun e => by subst e; rw [h] at hk; cases hk; cases hc)⟩
theorem KpBn.cell {Bn : Nat} {W W' : World} (h : KpBn Bn W W') {v : Value} (hv : W.cell? ⟨Bn, 0, none⟩ = some v) : W'.cell? ⟨Bn, 0, none⟩ = some v :=
  (World.cell?_of_block (a := ⟨Bn, 0, none⟩) (h.1 Bn (.inr rfl) (World.block_lt_of_cell? W ⟨Bn, 0, none⟩ hv))).trans hv
theorem KpBn.tabs {Bn : Nat} {W W' : World} (h : KpBn Bn W W') (hT : Tabs W) : Tabs W' :=
  ⟨fun c hc => (World.cell?_of_block (a := ⟨0, c, none⟩) (h.1 0 (.inl (by omega)) (World.block_lt_of_cell? W ⟨0, c, none⟩ (hT.1 c hc)))).trans (hT.1 c hc),
   fun i hi => ⟨(World.cell?_of_block (a := ⟨1, 2 * i, none⟩) (h.1 1 (.inl (by omega)) (World.block_lt_of_cell? W ⟨1, 2 * i, none⟩ (hT.2 i hi).1))).trans (hT.2 i hi).1,
    (World.cell?_of_block (a := ⟨1, 2 * i + 1, none⟩) (h.1 1 (.inl (by omega)) (World.block_lt_of_cell? W ⟨1, 2 * i + 1, none⟩ (hT.2 i hi).2))).trans (hT.2 i hi).2⟩⟩

set_option maxRecDepth 100000 in
set_option maxHeartbeats 2000000 in
theorem items2_in (n : Nat) (hn : 1 ≤ n) (l Bn : Nat) (s : ByteArray) (hs : s.size ≤ 140737488351232) (J Jx : List It → World → Prop) (W : World) (hJ : AbidesFrom W.heap.size J)
    (hY : ∀ pre x W1, J pre W1 → pre.length < (itemsU s).length → YieldAt Fence.wide (n - 1) Tryd.prog l #[.agg x.enc.toArray] W1 fun e W' =>
      (e = .returned (.bool true) ∧ J (pre ++ [x]) W' ∧ KpBn Bn W1 W') ∨ (e = .returned (.bool false) ∧ Jx (pre ++ [x]) W'))
    (hBn : W.cell? ⟨Bn, 0, none⟩ = some (.string s)) (hT : Tabs W) (h0 : J [] W) :
    CallsIn Fence.wide n Tryd.prog 26 #[.func (.yield l) #[] #[], .pointer (some ⟨Bn, 0, none⟩)] W fun e W' => (∃ v, e = .returned v) ∧
      ((∃ ys, ys = itemsU s ∧ J ys W') ∨ (∃ pre, pre <+: itemsU s ∧ Jx pre W')) := by
  refine callsIn_of_wp Tryd.func26 rfl trivial ?_ rfl
  simp only [Tryd.ntmps26, List.size_toArray, List.length_cons, List.length_nil, Nat.reduceAdd, Nat.reduceSub, Array.replicate_succ, Array.replicate_zero, List.push_toArray, List.append_toArray, List.nil_append, List.cons_append]
  gi_wp2
  gi_loopw [3] (fun vp wr => ∃ (p : Nat) (pre : List It), vp = .int .i64 (p : Int) ∧ p ≤ s.size ∧ pre ++ itemsF s (s.size - p) p = itemsU s ∧ J pre wr ∧ wr.cell? ⟨Bn, 0, none⟩ = some (.string s) ∧ Tabs wr) (fun vp _ => s.size - (intOf vp).toNat)
  case atStart => exact ⟨0, [], rfl, by omega, rfl, h0, hBn, hT⟩
  case round =>
    obtain ⟨p, pre, rfl, hp, hq, hJs, hBs, hTs⟩ := hrel
    have Hq := Lib.hid hq
    clear hq
    by_cases hlt : p < s.size
    · have hst := itemsF_step hlt
      obtain ⟨x, hx⟩ : ∃ x, x = itAt s p := ⟨_, rfl⟩
      have hxn : p + x.n = p + (Utf8.decode s p).2 := by rw [hx]; rfl
      have hxw : 1 ≤ x.n := by rw [hx]; exact Lib.width_pos s p
      have hxe : p + x.n ≤ s.size := by rw [hxn]; exact dec_le s p hlt
      rw [← hx, ← hxn] at hst
      have hfi := firstIt_at s p hlt
      rw [← hx] at hfi
      have hlen : pre.length < (itemsU s).length := by rw [← Hq.out, hst]; simp
      obtain ⟨xa, xn, xr, xb⟩ := x
      simp only at hst hxw hxe hxn
      have Hst := Lib.hid hst
      have Hfi := Lib.hid hfi
      clear hst hfi hx hxn
      gi_wp2_with (fail)
      refine ⟨trivial, ?_⟩
      refine (callsIn_wide.2 (first_any (s.extract p s.size) p _ hTs)).mono ?_
      rintro e w1 ⟨rfl, hO1⟩
      rw [Hfi.out]
      simp only [It.enc]
      obtain ⟨bx, hbx⟩ : ∃ b, b = w1.heap.size := ⟨_, rfl⟩
      have hOx : Only [] wr (w1.alloc (.cells #[.int .i64 (xa : Int), .int .i64 (xn : Int), .int .i32 (xr : Int), .bool xb] 58)) := hO1.alloc _
      have hJ2 := hJ _ _ _ none hJs (grown_of_only hOx) (by simp)
      have hB2 := hOx.cellv hBs (by simp)
      have hT2 := hTs.only hOx (by simp) (by simp)
      have hb2 : Blk (w1.alloc (.cells #[.int .i64 (xa : Int), .int .i64 (xn : Int), .int .i32 (xr : Int), .bool xb] 58)) bx 58 [.int .i64 (xa : Int), .int .i64 (xn : Int), .int .i32 (xr : Int), .bool xb] := Blk.new' _ _ _ hbx.symm rfl
      obtain ⟨fn, tmps, assign, body, hy, hR⟩ := hY pre ⟨xa, xn, xr, xb⟩ _ hJ2 hlen
      simp only [It.enc] at hy
      have Hbx := Lib.hid hbx
      clear hbx hJs hBs hTs hO1 hOx hJ2
      gi_wp2
      refine hR.mono ?_
      rintro e W3 (⟨rfl, hJ3, hk3⟩ | ⟨rfl, hJx3⟩)
      · have hb3 : Blk W3 bx 58 [.int .i64 (xa : Int), .int .i64 (xn : Int), .int .i32 (xr : Int), .bool xb] := (hk3.2 bx _ hb2 rfl).trans hb2
        have hB3 := hk3.cell hB2
        have hT3 : Tabs W3 := hk3.tabs hT2
        have e1 : W3.cell? ⟨bx, 1, none⟩ = some (.int .i64 (xn : Int)) := hb3.cell 1
        have hbx := Hbx.out
        rw [← hbx]
        clear hk3 hb3 hb2 hB2 hT2 hy hR
        have Hbx := Lib.hid hbx
        clear hbx
        gi_wp2
        go_roundw
        case rel => exact ⟨p + xn, pre ++ [⟨xa, xn, xr, xb⟩], by go_num, hxe, by rw [← Hq.out, Hst.out, List.append_assoc]; rfl, hJ3, hB3, hT3⟩
        case measure => simp [intOf]; omega
      · clear hb2 hB2 hT2 hy hR
        gi_wp2
        refine bodyPost_ret (results_none rfl _ _ _) rfl ?_
        exact ⟨⟨_, rfl⟩, .inr ⟨pre ++ [⟨xa, xn, xr, xb⟩], ⟨itemsF s (s.size - (p + xn)) (p + xn), by rw [← Hq.out, Hst.out, List.append_assoc]; rfl⟩, hJx3⟩⟩
    · obtain rfl : p = s.size := by omega
      have he : itemsF s (s.size - s.size) s.size = [] := by rw [Nat.sub_self]; rfl
      have He := Lib.hid he
      clear he
      gi_wp2
      go_end0
      exact ⟨⟨_, rfl⟩, .inl ⟨pre, by rw [← Hq.out, He.out, List.append_nil], hJs⟩⟩

theorem items_stops2 (n : Nat) (hn : 1 ≤ n) (Bn : Nat) (s : ByteArray) (hs : s.size ≤ 140737488351232) (w : World) (hBw : Bn < w.heap.size) (h2 : 2 ≤ w.heap.size) (hc : w.cell? ⟨Bn, 0, none⟩ = some (.string s)) (hT : Tabs w) :
    SeqStopsK Fence.wide n Tryd.prog 26 #[.pointer (some ⟨Bn, 0, none⟩)] (fun x : It => #[.agg x.enc.toArray]) (KpBn Bn) (fun ys => ys = itemsU s) (fun pre => pre <+: itemsU s) (itemsU s).length w := fun l J Jx W hW hJ _ hY h0 =>
  items2_in n hn l Bn s hs J Jx W hJ hY ((hW.cell (p := ⟨Bn, 0, none⟩) (by show Bn < w.heap.size; omega)).trans hc) (hT.below hW h2) h0

end Go.Proofs.YtodgllnmepnpfaaDoor
