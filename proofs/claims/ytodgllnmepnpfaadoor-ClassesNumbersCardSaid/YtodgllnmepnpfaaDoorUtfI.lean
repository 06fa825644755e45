/- utf.Items: what the iterator hands out, inside a fence. -/
import Derived.Test.YtodgllnmepnpfaaDoorUtfT
import Derived.Lib.RuneCountTail
import Derived.RangeFuncNested
import Derived.RangeFuncBound
import Derived.RangeFuncCalls
import Derived.RangeFuncLeaves
import Derived.Shelf.Abstract
import Derived.Shelf.RegionOpen
import Derived.OwnWalkIn
import Derived.TacticsInMore
import Derived.LoopNIn
import Derived.LoopIn
set_option linter.unusedVariables false
set_option linter.unusedSimpArgs false
namespace Go.Proofs.YtodgllnmepnpfaaDoor
open Go.RowKit Go.Shelf

attribute [local go_sem] Oper.semAt_some

/-- the model's decoding is the reference's Width and read -/
theorem dec_eq (s : ByteArray) (p : Nat) (hp : p < s.size) : (widthS s p ≠ 0 → Utf8.decode s p = (readS s p (widthS s p), widthS s p)) ∧ (0 = widthS s p → Utf8.decode s p = (65533, 1)) := by
  have h := widthP_dec (s.size - p) _ _ _ _ (by omega) (byte_lt' s p) (byte_lt' s (p + 1)) (byte_lt' s (p + 2)) (byte_lt' s (p + 3))
  have e : Utf8.decode s p = Lib.decodeN (s.size - p) (byteAt s p) (byteAt s (p + 1)) (byteAt s (p + 2)) (byteAt s (p + 3)) := Lib.decode_at s p
  rw [e]
  exact ⟨fun h0 => (h.1 h0).1, fun h0 => h.2 h0.symm⟩
theorem dec_le (s : ByteArray) (p : Nat) (hp : p < s.size) : p + (Utf8.decode s p).2 ≤ s.size := by
  by_cases h : widthS s p = 0
  · rw [(dec_eq s p hp).2 h.symm]; exact hp
  · rw [(dec_eq s p hp).1 h]; exact (widthS_fits s p hp h).1

/-- the item at a place -/
def itAt (s : ByteArray) (p : Nat) : It := ⟨p, (Utf8.decode s p).2, (Utf8.decode s p).1, isBad (Utf8.decode s p)⟩
def itemsF (s : ByteArray) : Nat → Nat → List It
  | 0, _ => []
  | f + 1, p => if p < s.size then itAt s p :: itemsF s f (p + (Utf8.decode s p).2) else []
def itemsU (s : ByteArray) : List It := itemsF s s.size 0
theorem firstIt_at (s : ByteArray) (p : Nat) (hp : p < s.size) : firstIt (s.extract p s.size) p = itAt s p := by
  have e : Lib.decodeGo (s.extract p s.size) = Utf8.decode s p := by
    unfold Lib.decodeGo
    rw [if_neg (by simp [ByteArray.size_extract]; omega), Lib.tail_decode, Nat.add_zero]
  unfold firstIt itAt
  rw [e]
theorem itemsF_more (s : ByteArray) : ∀ (f g p : Nat), s.size ≤ p + f → s.size ≤ p + g → itemsF s f p = itemsF s g p
  | 0, 0, p, _, _ => rfl
  | 0, g + 1, p, h, _ => by rw [itemsF, itemsF, if_neg (by omega)]
  | f + 1, 0, p, _, h => by rw [itemsF, itemsF, if_neg (by omega)]
  | f + 1, g + 1, p, h1, h2 => by
    rw [itemsF, itemsF]
    by_cases hp : p < s.size
    · have := Lib.width_pos s p
      rw [if_pos hp, if_pos hp, itemsF_more s f g _ (by omega) (by omega)]
    · rw [if_neg hp, if_neg hp]
theorem itemsF_step {s : ByteArray} {p : Nat} (hp : p < s.size) : itemsF s (s.size - p) p = itAt s p :: itemsF s (s.size - (p + (Utf8.decode s p).2)) (p + (Utf8.decode s p).2) := by
  have e : itemsF s (s.size - p) p = itemsF s (s.size - (p + 1) + 1) p := by congr 1; omega
  have := Lib.width_pos s p
  rw [e, itemsF, if_pos hp, itemsF_more s (s.size - (p + 1)) (s.size - (p + (Utf8.decode s p).2)) _ (by omega) (by omega)]

/-- what a round that goes on keeps: what lay below n₀, and each single item that lay in a box -/
def KpIt (n₀ : Nat) (W W' : World) : Prop := Below n₀ W W' ∧ ∀ (k : Nat) (cs : Array Value), W.heap[k]? = some (.cells cs 58 (0, 0)) → cs.size = 4 → W'.heap[k]? = W.heap[k]?
theorem KpIt.trans {n₀ : Nat} {A B C : World} (h : KpIt n₀ A B) (k : KpIt n₀ B C) : KpIt n₀ A C :=
  ⟨h.1.trans k.1, fun b cs hb hc => (k.2 b cs ((h.2 b cs hb hc).trans hb) hc).trans (h.2 b cs hb hc)⟩
theorem KpIt.put {n₀ : Nat} {w : World} (hn : n₀ ≤ w.heap.size) (W : World) (l : Nat) (o o' : Obj) (hl : w.heap.size ≤ l) (h : W.heap[l]? = some o) (hc : o.isCells = false) (hw : o.isWalk = false) : KpIt n₀ W (W.putObj l o') :=
  ⟨belowK_b hn W l o o' hl h hc hw, fun k cs hk _ => World.putObj_heap_other (fun e => by subst e; rw [h] at hk; cases hk; cases hc)⟩

theorem Tabs.below {w w' : World} {n₀ : Nat} (h : Tabs w) (hB : Below n₀ w w') (h2 : 2 ≤ n₀) : Tabs w' :=
  ⟨fun c hc => (hB.cell (p := ⟨0, c, none⟩) (by show 0 < n₀; omega)).trans (h.1 c hc), fun i hi => ⟨(hB.cell (p := ⟨1, 2 * i, none⟩) (by show 1 < n₀; omega)).trans (h.2 i hi).1, (hB.cell (p := ⟨1, 2 * i + 1, none⟩) (by show 1 < n₀; omega)).trans (h.2 i hi).2⟩⟩
theorem grown_of_only {W W' : World} (h : Only [] W W') : W.grownBy W' none := ⟨h.os, h.tape, h.output, h.size, fun k hk _ => h.block k hk (by simp)⟩

set_option maxRecDepth 100000 in
set_option maxHeartbeats 2000000 in
theorem items1_in (n : Nat) (hn : 1 ≤ n) (l Bn n₀ : Nat) (s : ByteArray) (hs : s.size ≤ 140737488351232) (J Jx : List It → World → Prop) (W : World) (hJ : AbidesFrom W.heap.size J)
    (hY : ∀ pre x W1, J pre W1 → pre.length < (itemsU s).length → YieldAt Fence.wide (n - 1) Tryd.prog l #[.agg x.enc.toArray] W1 fun e W' =>
      (e = .returned (.bool true) ∧ J (pre ++ [x]) W' ∧ KpIt n₀ W1 W') ∨ (e = .returned (.bool false) ∧ Jx (pre ++ [x]) W'))
    (hB : Bn < n₀) (h2 : 2 ≤ n₀) (hBn : W.cell? ⟨Bn, 0, none⟩ = some (.string s)) (hT : Tabs W) (h0 : J [] W) :
    CallsIn Fence.wide n Tryd.prog 26 #[.func (.yield l) #[] #[], .pointer (some ⟨Bn, 0, none⟩)] W fun e W' => (∃ v, e = .returned v) ∧
      ((∃ ys, ys = itemsU s ∧ J ys W') ∨ (∃ pre, pre <+: itemsU s ∧ Jx pre W')) := by
  refine callsIn_of_wp Tryd.func26 rfl trivial ?_ rfl
  simp only [Tryd.ntmps26, List.size_toArray, List.length_cons, List.length_nil, Nat.reduceAdd, Nat.reduceSub, Array.replicate_succ, Array.replicate_zero, List.push_toArray, List.append_toArray, List.nil_append, List.cons_append]
  gi_wp2
  gi_loopw [3] (fun vp wr => ∃ (p : Nat) (pre : List It), vp = .int .i64 (p : Int) ∧ p ≤ s.size ∧ pre ++ itemsF s (s.size - p) p = itemsU s ∧ J pre wr ∧ wr.cell? ⟨Bn, 0, none⟩ = some (.string s) ∧ Tabs wr) (fun vp _ => s.size - (intOf vp).toNat)
  case atStart => exact ⟨0, [], rfl, by omega, rfl, h0, hBn, hT⟩
  case round =>
    obtain ⟨p, pre, rfl, hp, hq, hJs, hBs, hTs⟩ := hrel
    have Hq := Lib.hid hq
    clear hq
    by_cases hlt : p < s.size
    · have hst := itemsF_step hlt
      obtain ⟨x, hx⟩ : ∃ x, x = itAt s p := ⟨_, rfl⟩
      have hxn : p + x.n = p + (Utf8.decode s p).2 := by rw [hx]; rfl
      have hxw : 1 ≤ x.n := by rw [hx]; exact Lib.width_pos s p
      have hxe : p + x.n ≤ s.size := by rw [hxn]; exact dec_le s p hlt
      rw [← hx, ← hxn] at hst
      have hfi := firstIt_at s p hlt
      rw [← hx] at hfi
      have hlen : pre.length < (itemsU s).length := by rw [← Hq.out, hst]; simp
      obtain ⟨xa, xn, xr, xb⟩ := x
      simp only at hst hxw hxe hxn
      have Hst := Lib.hid hst
      have Hfi := Lib.hid hfi
      clear hst hfi hx hxn
      gi_wp2_with (fail)
      refine ⟨trivial, ?_⟩
      refine (callsIn_wide.2 (first_any (s.extract p s.size) p _ hTs)).mono ?_
      rintro e w1 ⟨rfl, hO1⟩
      rw [Hfi.out]
      simp only [It.enc]
      obtain ⟨bx, hbx⟩ : ∃ b, b = w1.heap.size := ⟨_, rfl⟩
      have hOx : Only [] wr (w1.alloc (.cells #[.int .i64 (xa : Int), .int .i64 (xn : Int), .int .i32 (xr : Int), .bool xb] 58)) := hO1.alloc _
      have hJ2 := hJ _ _ _ none hJs (grown_of_only hOx) (by simp)
      have hB2 := hOx.cellv hBs (by simp)
      have hT2 := hTs.only hOx (by simp) (by simp)
      have hb2 : Blk (w1.alloc (.cells #[.int .i64 (xa : Int), .int .i64 (xn : Int), .int .i32 (xr : Int), .bool xb] 58)) bx 58 [.int .i64 (xa : Int), .int .i64 (xn : Int), .int .i32 (xr : Int), .bool xb] := Blk.new' _ _ _ hbx.symm rfl
      obtain ⟨fn, tmps, assign, body, hy, hR⟩ := hY pre ⟨xa, xn, xr, xb⟩ _ hJ2 hlen
      simp only [It.enc] at hy
      have Hbx := Lib.hid hbx
      clear hbx hJs hBs hTs hO1 hOx hJ2
      gi_wp2
      refine hR.mono ?_
      rintro e W3 (⟨rfl, hJ3, hk3⟩ | ⟨rfl, hJx3⟩)
      · have hb3 : Blk W3 bx 58 [.int .i64 (xa : Int), .int .i64 (xn : Int), .int .i32 (xr : Int), .bool xb] := (hk3.2 bx _ hb2 rfl).trans hb2
        have hB3 := (hk3.1.cell (p := ⟨Bn, 0, none⟩) hB).trans hB2
        have hT3 : Tabs W3 := hT2.below hk3.1 h2
        have e1 : W3.cell? ⟨bx, 1, none⟩ = some (.int .i64 (xn : Int)) := hb3.cell 1
        have hbx := Hbx.out
        rw [← hbx]
        clear hk3 hb3 hb2 hB2 hT2 hy hR
        have Hbx := Lib.hid hbx
        clear hbx
        gi_wp2
        go_roundw
        case rel => exact ⟨p + xn, pre ++ [⟨xa, xn, xr, xb⟩], by go_num, hxe, by rw [← Hq.out, Hst.out, List.append_assoc]; rfl, hJ3, hB3, hT3⟩
        case measure => simp [intOf]; omega
      · clear hb2 hB2 hT2 hy hR
        gi_wp2
        refine bodyPost_ret (results_none rfl _ _ _) rfl ?_
        exact ⟨⟨_, rfl⟩, .inr ⟨pre ++ [⟨xa, xn, xr, xb⟩], ⟨itemsF s (s.size - (p + xn)) (p + xn), by rw [← Hq.out, Hst.out, List.append_assoc]; rfl⟩, hJx3⟩⟩
    · obtain rfl : p = s.size := by omega
      have he : itemsF s (s.size - s.size) s.size = [] := by rw [Nat.sub_self]; rfl
      have He := Lib.hid he
      clear he
      gi_wp2
      go_end0
      exact ⟨⟨_, rfl⟩, .inl ⟨pre, by rw [← Hq.out, He.out, List.append_nil], hJs⟩⟩

theorem items_stops (n : Nat) (hn : 1 ≤ n) (Bn n₀ : Nat) (s : ByteArray) (hs : s.size ≤ 140737488351232) (w : World) (hB : Bn < n₀) (h2 : 2 ≤ n₀) (hn0 : n₀ ≤ w.heap.size) (hc : w.cell? ⟨Bn, 0, none⟩ = some (.string s)) (hT : Tabs w) :
    SeqStopsK Fence.wide n Tryd.prog 26 #[.pointer (some ⟨Bn, 0, none⟩)] (fun x : It => #[.agg x.enc.toArray]) (KpIt n₀) (fun ys => ys = itemsU s) (fun pre => pre <+: itemsU s) (itemsU s).length w := fun l J Jx W hW hJ _ hY h0 =>
  items1_in n hn l Bn n₀ s hs J Jx W hJ hY hB h2 ((hW.cell (p := ⟨Bn, 0, none⟩) (by show Bn < w.heap.size; omega)).trans hc) (hT.below (hW.mono hn0) h2) h0

set_option maxRecDepth 100000 in
theorem items_any (s : ByteArray) (w : World) :
    Calls Tryd.prog 14 #[.string s] w fun e w' => e = .returned (.func (.func 26) #[] #[.pointer (some ⟨w.heap.size, 0, none⟩)]) ∧ w' = w.alloc (.cells #[.string s] 9) := by
  go_enter Tryd.func14, Tryd.ntmps14
  go_wp2_with (fail)
  go_ret
  exact ⟨rfl, rfl⟩
end Go.Proofs.YtodgllnmepnpfaaDoor
