/- RingThrough: the walk. -/
import Derived.Test.YtjjfnepmnjjemaaRingP
namespace Go.Proofs.Ytjjfnepmnjjemaa
open Go.RowKit

theorem str_append (a b : List UInt8) : str a ++ str b = str (a ++ b) := by
  apply ByteArray.ext
  simp [str, ByteArray.data_append]
/-- where the loop stands: 'gl' bytes have come out, the queue lies behind them, 'at_' bytes went in -/
structure Thru (l q : List UInt8) (n gl at_ i ni no : Nat) : Prop where
  sum : gl + q.length = at_
  le : at_ ≤ n
  qeq : q = (l.drop gl).take q.length
  far : ni ≤ 2000 → no ≤ 2000 → min n (i - 2000) ≤ gl
set_option maxRecDepth 100000 in
theorem Thru.step {l q : List UInt8} {n gl at_ i ni no r k m t b : Nat} (h : Thru l q n gl at_ i ni no) (hl : l.length = n) (hr : 1 ≤ r) (hq : q.length ≤ r) (hb : at_ + b ≤ n) (hb2 : ni ≤ i → b = n - at_) (hk : no ≤ i → k = r)
    (hm : m = min b (r - q.length)) (ht : t = min k (q.length + m)) (hgl : gl < n) : Thru l ((q ++ (l.drop at_).take m).drop t) n (gl + t) (at_ + m) (i + 1) ni no ∧ (q ++ (l.drop at_).take m).take t = (l.drop gl).take t ∧ (q ++ (l.drop at_).take m).length = q.length + m := by
  have h1 := h.sum
  have h2 := h.le
  have hlen : (q ++ (l.drop at_).take m).length = q.length + m := by rw [List.length_append, List.length_take, List.length_drop, hl]; omega
  have e : q ++ (l.drop at_).take m = (l.drop gl).take (q.length + m) := by
    rw [List.take_add, List.drop_drop, h1, ← h.qeq]
  refine ⟨⟨?_, by omega, ?_, ?_⟩, ?_, hlen⟩
  · rw [List.length_drop, hlen]; omega
  · rw [List.length_drop, hlen]
    rw [e, List.drop_take, List.drop_drop]
  · intro a c
    have := h.far a c
    have : 2000 ≤ i → b = n - at_ ∧ k = r := fun hi => ⟨hb2 (by omega), hk (by omega)⟩
    by_cases hi : 2000 ≤ i
    · obtain ⟨e1, e2⟩ := this hi
      omega
    · omega
  · rw [e, List.take_take, Nat.min_eq_left (by omega)]

set_option maxRecDepth 100000 in
set_option maxHeartbeats 2000000 in
theorem ringThrough_walk (w : World) (r0 : Int) (hr0 : -9223372036854775808 ≤ r0 ∧ r0 ≤ 9223372036854775807) (A : Option Addr) (n0 c : Nat) (l0 : List UInt8) (hl0 : l0.length = n0) (hrd0 : Rd w w.heap.size 1 A n0 (bvs l0)) (hnc : n0 ≤ c) (hc : c ≤ 140737488351232)
    (Ai : Option Addr) (ni ci : Nat) (li : List Int) (hli : li.length = ni) (hri : Rd w w.heap.size 1 Ai ni (li.map (Value.int .i64))) (hci : ni ≤ ci) (hcib : ci ≤ 140737488351232) (hwi : ∀ x ∈ li, (Lit.int .i64 x).wf = true)
    (Ao : Option Addr) (no co : Nat) (lo : List Int) (hlo : lo.length = no) (hro : Rd w w.heap.size 1 Ao no (lo.map (Value.int .i64))) (hco : no ≤ co) (hcob : co ≤ 140737488351232) (hwo : ∀ x ∈ lo, (Lit.int .i64 x).wf = true) :
    Calls Try.prog 5 #[.int .i64 r0, .slice A n0 c, .slice Ai ni ci, .slice Ao no co] w fun e w' => e = .returned (.bool true) ∧ Only [] w w' := by
  obtain ⟨r, hr⟩ : ∃ r : Nat, within r0 1 50 = (r : Int) ∧ 1 ≤ r ∧ r ≤ 50 := by
    have := within_bd r0 1 50 (by omega)
    exact ⟨(within r0 1 50).toNat, by omega, by omega, by omega⟩
  obtain ⟨hr, hr1, hr2⟩ := hr
  have HR := Lib.hid hr
  have HL := Lib.hid hl0
  have HLi := Lib.hid hli
  have HLo := Lib.hid hlo
  clear hr hl0 hli hlo
  obtain ⟨n, l, hl, hrd, hn1, hn2, _, hle, hcase⟩ := hrd0.cutTo HL.out 1000
  have Hle := Lib.hid hle
  have Hl := Lib.hid hl
  clear hle hl
  go_enter Try.func5, Try.ntmps5
  go_wp2_with (fail)
  refine (within_any r0 1 50 _ hr0 (by omega) (by omega) (by omega)).mono ?_
  rintro e w0 ⟨rfl, rfl⟩
  rw [HR.out]
  go_upto_if 21 with (fail)
  go_cut [1] (fun s wx => w = wx ∧ s = .slice A n c)
  case first =>
    rcases hcase with ⟨h3, h4⟩ | ⟨h3, h4⟩
    · have h5 : ¬ (1000 : Int) < (n0 : Int) := by omega
      have H4 := Lib.hid h4
      clear h4
      go_wp2
      go_meet
      case rel => exact ⟨rfl, by rw [H4.out]⟩
    · have hsh := run_slice_h (P := Try.prog) (A := A) (n := n0) (c := c) (m := n) (hi := (1000 : Int)) Try.underlying26 (size := 1) (by kernel_rfl) (by omega) (by omega)
      have h5 : (1000 : Int) < (n0 : Int) := by omega
      have H4 := Lib.hid h4
      clear h4
      go_wp2
      go_meet
      case rel => exact ⟨rfl, rfl⟩
  case rest =>
  obtain ⟨rfl, rfl⟩ := hcut
  clear hcase hrd0
  go_wp2_with (fail)
  refine (ringNew_yes r _ hr1 (by omega)).mono ?_
  rintro e w1 ⟨g, rfl, hg, hR1, hO1⟩
  obtain ⟨g2, hg2⟩ : ∃ g2, g2 = w.heap.size := ⟨_, rfl⟩
  rw [← hg2] at hR1
  have hgw : w.heap.size ≤ g2 := by omega
  clear hg2
  go_wp2_with (fail)
  go_loopw [11, 12, 13] (fun va vs vi wr => ∃ (i at_ gl at' : Nat) (s : ByteArray) (arr q : List UInt8), vi = .int .i64 (i : Int) ∧ i ≤ 4000 ∧ va = .int .i64 (at_ : Int) ∧ vs = .string s ∧ s = str (l.take gl) ∧ gl ≤ n ∧ Thru l q n gl at_ i ni no ∧ RingAt wr g g2 r at' arr q ∧ Only [] w wr) (fun _ _ i _ => 4000 - (intOf i).toNat)
  case atStart => exact ⟨0, 0, 0, _, _, _, [], rfl, by omega, rfl, rfl, by simp [str]; rfl, by omega, ⟨rfl, by omega, by simp, by omega⟩, hR1, hO1⟩
  case round =>
    obtain ⟨i, at_, gl, at', s, arr, q, rfl, hi, rfl, rfl, hs, hgl, hT, hR, hO⟩ := hrel
    have hss : s.size = gl := by rw [hs, str_size, List.length_take, Hl.out]; omega
    have Hs := Lib.hid hs
    have HT := Lib.hid hT
    have Hss := Lib.hid hss
    clear hs hT hss
    by_cases hlt : i < 4000 ∧ gl < n
    · obtain ⟨hlt, hlt2⟩ := hlt
      have hss := Hss.out
      have hssn : (s.size : Int) < (n : Int) := by omega
      have hatn := HT.out.le
      clear hss
      go_upto_if 54 with (fail)
      go_cut [14] (fun s wx => wr = wx ∧ ∃ b : Nat, s = .int .i64 (b : Int) ∧ at_ + b ≤ n ∧ (ni ≤ i → b = n - at_))
      case first =>
        by_cases h3 : i < ni
        · obtain ⟨gi, oi, _, _, hix, hcell⟩ := (hri.only hO (by simp)).index1 (P := Try.prog) Try.underlying37 (by kernel_rfl) h3
          obtain ⟨x, hx⟩ : ∃ x, li[i]? = some x := ⟨_, List.getElem?_eq_getElem (by rw [HLi.out]; exact h3)⟩
          rw [List.getElem?_map, hx] at hcell
          simp only [Option.map_some] at hcell
          have hxw := wf_i64 (hwi x (List.mem_of_getElem? hx))
          clear hx
          go_wp2_with (fail)
          refine (within_any x 0 ((n : Int) - (at_ : Int)) _ hxw (by omega) (by omega) (by omega)).mono ?_
          rintro e w5 ⟨rfl, rfl⟩
          have hbd := within_bd x 0 ((n : Int) - (at_ : Int)) (by omega)
          go_wp2
          go_meet
          case rel => exact ⟨rfl, (within x 0 ((n : Int) - (at_ : Int))).toNat, by congr 1; omega, by omega, by omega⟩
        · go_wp2
          go_meet
          case rel => exact ⟨rfl, n - at_, by congr 1; omega, by omega, fun _ => rfl⟩
      case rest =>
      obtain ⟨rfl, b, rfl, hb1, hb2⟩ := hcut
      have Hb2 := Lib.hid hb2
      clear hb2
      go_upto_if 64 with (fail)
      go_cut [15] (fun s wx => wr = wx ∧ ∃ k : Nat, s = .int .i64 (k : Int) ∧ k ≤ r ∧ (no ≤ i → k = r))
      case first =>
        by_cases h3 : i < no
        · obtain ⟨gi, oi, _, _, hix, hcell⟩ := (hro.only hO (by simp)).index1 (P := Try.prog) Try.underlying37 (by kernel_rfl) h3
          obtain ⟨x, hx⟩ : ∃ x, lo[i]? = some x := ⟨_, List.getElem?_eq_getElem (by rw [HLo.out]; exact h3)⟩
          rw [List.getElem?_map, hx] at hcell
          simp only [Option.map_some] at hcell
          have hxw := wf_i64 (hwo x (List.mem_of_getElem? hx))
          clear hx
          go_wp2_with (fail)
          refine (within_any x 0 (r : Int) _ hxw (by omega) (by omega) (by omega)).mono ?_
          rintro e w5 ⟨rfl, rfl⟩
          have hbd := within_bd x 0 (r : Int) (by omega)
          go_wp2
          go_meet
          case rel => exact ⟨rfl, (within x 0 (r : Int)).toNat, by congr 1; omega, by omega, by omega⟩
        · go_wp2
          go_meet
          case rel => exact ⟨rfl, r, rfl, by omega, fun _ => rfl⟩
      case rest =>
      obtain ⟨rfl, k, rfl, hk1, hk2⟩ := hcut
      have Hk2 := Lib.hid hk2
      clear hk2
      have hqr : q.length ≤ r := hR.2.2.2.2.2.2.1
      obtain ⟨Ab, hsl, hrb⟩ := (hrd.only hO (by simp)).slice_lh (P := Try.prog) Try.underlying26 (by kernel_rfl) (k := at_) (m := b) (c := c) (lo := (at_ : Int)) (hi := (at_ : Int) + (b : Int)) rfl (by omega) hb1 (by omega)
      rw [Nat.mul_one, Nat.mul_one, bvs_drop, bvs_take] at hrb
      go_wp2_with (fail)
      refine (ringPut_any g g2 r at' b (c - at_) Ab arr q _ _ hR _ hrb (by intro ad e h; obtain ⟨ad', e', hb, _⟩ := hrb.2 h; rw [e] at e'; cases e'; omega) (by omega) (by omega)).mono ?_
      rintro e w3 ⟨arr3, rfl, hR3, hO3⟩
      obtain ⟨m, hm⟩ : ∃ m, m = min b (r - q.length) := ⟨_, rfl⟩
      rw [List.take_take, Nat.min_comm, ← hm] at hR3
      rw [← hm]
      have hmb : m ≤ b := by omega
      obtain ⟨t, ht⟩ : ∃ t, t = min k (q.length + m) := ⟨_, rfl⟩
      obtain ⟨hT2, hgot, hlen⟩ := HT.out.step Hl.out hr1 hqr hb1 Hb2.out Hk2.out hm ht hlt2
      obtain ⟨q', hq'⟩ : ∃ q', q' = q ++ (l.drop at_).take m := ⟨_, rfl⟩
      rw [← hq'] at hR3 hT2 hgot hlen
      have ht' : t = min (k : Int).toNat q'.length := by rw [hlen]; omega
      have hgt : gl + t ≤ n := by have h1 := HT.out.sum; omega
      have hs2 : s ++ str (q'.take t) = str (l.take (gl + t)) := by rw [Hs.out, str_append, hgot, List.take_add]
      have HT2 := Lib.hid hT2
      have Hs2 := Lib.hid hs2
      have Hlen := Lib.hid hlen
      have Ht' := Lib.hid ht'
      have hgg3 := hR3.lt
      replace hO := hO.trans' hO3 (by intro x hx; simp at hx; omega)
      clear hT2 hgot hlen hq' hs2 ht' ht hm hsl hrb hR hO3
      go_wp2_with (fail)
      refine (ringTake_any g g2 r at' k _ q' _ hR3 t Ht'.out).mono ?_
      rintro e w4 ⟨o4, a4, rfl, ho4, hb4, hR4, hO4⟩
      have hsum : ¬ 9223372036854775807 < s.size + (str (q'.take t)).size := by have h1 := Hss.out; have h2 := Ht'.out; have h3 : n ≤ 1000 := hn2; rw [str_size, List.length_take]; omega
      have hcv := byteStr (n := t) t hb4 (by have := Ht'.out; rw [List.length_take]; omega)
      replace hO := hO.trans' hO4 (by intro x hx; simp at hx; omega)
      clear hR3 hO4 hb4
      go_wp2
      rw [Hs2.out]
      go_roundw
      case rel => exact ⟨i + 1, at_ + m, gl + t, a4, _, _, _, by go_num, by omega, by go_num, rfl, rfl, hgt, HT2.out, hR4, hO⟩
      case measure => simp [intOf]; omega
    · have hss := Hss.out
      have hcv := run_string_rd (P := Try.prog) 26 9 5 Try.underlying26 Try.underlying5 Try.underlying9 c (hrd.only hO (by simp))
      by_cases hgn : gl = n
      · have he : str l = s := by rw [Hs.out, List.take_of_length_le (by rw [Hl.out]; omega)]
        rw [he] at hcv
        have hsz : ¬ (s.size : Int) < (n : Int) := by omega
        have Hlt := Lib.hid hlt
        clear hlt he hss hR
        by_cases hi4 : i < 4000
        all_goals
          go_wp2_with (fail)
          refine (ringKnown _).mono ?_
          rintro e w9 ⟨rfl, hO9⟩
          go_wp2
          go_ret
          exact ⟨rfl, hO.trans hO9⟩
      · have hi4 : ¬ i < 4000 := by omega
        have hbig : 2000 < ni ∨ 2000 < no := by have h1 := HT.out.far; omega
        have Hlt := Lib.hid hlt
        clear hlt hss hR
        by_cases hni : 2000 < ni
        case' neg => have hno : 2000 < no := by omega
        all_goals
          have Hbig := Lib.hid hbig
          clear hbig
          go_wp2_with (fail)
          all_goals
            refine (ringKnown _).mono ?_
            rintro e w9 ⟨rfl, hO9⟩
            go_wp2
            go_ret
            exact ⟨by first | rfl | exact ret_bool (by have h := Hbig.out; simp only [Bool.or_eq_true, decide_eq_true_eq]; omega), hO.trans hO9⟩
end Go.Proofs.Ytjjfnepmnjjemaa
