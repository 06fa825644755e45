/- UtfValid: the walk. -/
import Derived.Test.YteadcibbpbbehaaDoorVa0
import Derived.Test.YteadcibbpbbehaaDoorUtfG
namespace Go.Proofs.YteadcibbpbbehaaDoor
open Go.RowKit

/-- the first i are not bad -/
def clB (L : List It) (i : Nat) : Bool := (L.take i).all fun x => !x.bad
theorem clB_succ {L : List It} {i : Nat} {x : It} (h : L[i]? = some x) : clB L (i + 1) = (clB L i && !x.bad) := by
  unfold clB; rw [List.take_add_one, h]; simp
theorem clB_all (L : List It) : clB L L.length = true ↔ ∀ x ∈ L, x.bad = false := by
  unfold clB; rw [List.take_length, List.all_eq_true]; simp
set_option maxRecDepth 100000 in
set_option maxHeartbeats 4000000 in
theorem utfValid_walk (w : World) (s : ByteArray) (hs : s.size ≤ 1048576) (t : ByteArray) (ht : t.size ≤ 1048576) (hT : Tabs w) :
    Calls Tryd.prog 6 #[.string s, .string t] w fun e w' => e = .returned (.bool true) ∧ Only [] w w' := by
  have hrep := repl_len s s.size 0 (by omega)
  have hrc := repl_clean s
  have hr2 := repl_twice s
  have hci := clean_iff s
  have hjn := repl_joined s t
  go_enter Tryd.func6, Tryd.ntmps6
  obtain ⟨r, hr⟩ : ∃ r, r = str (replS s) := ⟨_, rfl⟩
  have hrs : r.size ≤ 4194304 := by rw [hr, str_size]; unfold replS; omega
  have hrt : tailU r = 0 := by rw [hr]; exact hrc.tail
  have hrr : replS r = replS s := by rw [hr]; exact hr2
  have hrn : NB r 0 := by rw [hr]; exact hrc
  rw [← hr] at hci
  have Hr := Lib.hid hr
  have Hrt := Lib.hid hrt
  have Hrr := Lib.hid hrr
  have Hrn := Lib.hid (NB.list.1 hrn)
  have Hci := Lib.hid hci
  have Hjn := Lib.hid hjn
  clear hrep hrc hr2 hci hjn hr hrt hrr hrn
  go_wp2_with (fail)
  refine (replace_any s hs w hT).mono ?_
  rintro e w1 ⟨rfl, hO⟩
  rw [show (⟨(replS s).toArray⟩ : ByteArray) = r from Hr.out.symm]
  obtain ⟨bi, hbi⟩ : ∃ k, k = w1.heap.size := ⟨_, rfl⟩
  have hit : (w1.alloc (.stringIter r 0)).heap[bi]? = some (.stringIter r 0) := by rw [hbi]; exact World.iter_heap w1 r 0
  have hOa : Only [] w1 (w1.alloc (.stringIter r 0)) := (Only.refl _ _).alloc _
  have hbw : w1.heap.size ≤ bi := by omega
  have Hbi := Lib.hid hbi
  have Hit := Lib.hid hit
  have HOa := Lib.hid hOa
  clear hbi hit hOa
  go_wp2_with (fail)
  rw [← Hbi.out]
  go_loopw [6, 8] (fun v6 v8 wr => ∃ p : Nat, v6 = .bool false ∧ p ≤ r.size ∧ wr.heap[bi]? = some (.stringIter r p) ∧ Only [] w1 wr) (fun _ _ wr => r.size - wr.iterPos bi)
  case atStart => exact ⟨0, rfl, by omega, Hit.out, HOa.out⟩
  case round =>
    obtain ⟨p, rfl, hp, hit, hO2⟩ := hrel
    have hpos0 := iterPos_of hit
    by_cases hlt : p < r.size
    · have hnx : ∀ ty, (Instr.next (.pointer (some ⟨bi, 0, none⟩)) true ty).run Tryd.prog wr = _ := fun ty => Lib.run_next_any_at wr bi r p ty hit hlt
      have hit2 := Lib.iterAt_heap wr bi r p (p + (Utf8.decode r p).2) hit
      have hO3 := hO2.iterAt hbw r (p + (Utf8.decode r p).2)
      have hdl := dec_le r p hlt
      have hdw := Lib.width_pos r p
      obtain ⟨d, hd⟩ : ∃ d, d = Utf8.decode r p := ⟨_, rfl⟩
      rw [← hd] at hnx hit2 hO3 hdl hdw
      obtain ⟨z, k⟩ := d
      simp only at hnx hit2 hO3 hdl hdw
      obtain ⟨W1, hW1⟩ : ∃ W1, W1 = wr.iterAt bi r (p + k) := ⟨_, rfl⟩
      rw [← hW1] at hnx hit2 hO3
      have hpos2 := iterPos_of hit2
      have hz0 : ¬ (z : Int) < 0 := by omega
      have Hd := Lib.hid hd
      clear hd hW1 hit hO2
      go_wp2_with (fail)
      go_roundw
      case rel => exact ⟨p + k, by first | rfl | simp, by omega, hit2, hO3⟩
      case measure => rw [hpos0, hpos2]; omega
    · obtain rfl : p = r.size := by omega
      have hnx : ∀ ty, (Instr.next (.pointer (some ⟨bi, 0, none⟩)) true ty).run Tryd.prog wr = _ := fun ty => Lib.run_next_end_at wr bi r r.size ty hit hlt
      have hO3 := hO.trans hO2
      have hT2 := hT.only hO3 (by simp) (by simp)
      clear hit hO hO2 hpos0
      go_wp2_with (fail)
      refine (list_any' r (by omega) wr hT2 hT2.size).mono ?_
      rintro e w3 ⟨v, rfl, hown, hO4⟩
      have hO4 := hO3.trans hO4
      have hT3 := hT.only hO4 (by simp) (by simp)
      obtain ⟨A, c, rfl, hnc, hR, -⟩ := own_slice hown
      obtain ⟨n, hn⟩ : ∃ n, n = (itemsU r).length := ⟨_, rfl⟩
      have hnb : n ≤ 4500000 := by rw [hn]; have := itemsF_len r r.size 0; unfold itemsU; omega
      rw [← hn] at hR hnc ⊢
      have Hn := Lib.hid hn
      clear hown hn hO3 hT2 hnx
      go_wp2_with (fail)
      refine (replace_any' r (by omega) w3 hT3).mono ?_
      rintro e w4 ⟨rfl, hO5⟩
      rw [show (⟨(replS r).toArray⟩ : ByteArray) = r by rw [Hrr.out]; exact Hr.out.symm]
      have hR := hR.only hO5 (by simp)
      have hO5 := hO4.trans hO5
      have hT4 := hT.only hO5 (by simp) (by simp)
      clear hO4 hT3
      go_wp2_with (fail)
      refine (tail_any r (by omega) w4 hT4).mono ?_
      rintro e w5 ⟨rfl, hO6⟩
      rw [Hrt.out]
      have hR := hR.only hO6 (by simp)
      have hO6 := hO5.trans hO6
      have hT5 := hT.only hO6 (by simp) (by simp)
      clear hO5 hT4
      go_wp2_with (fail)
      go_loop [11] (fun vi => ∃ i : Nat, vi = .int .i64 (i : Int) ∧ i ≤ n) (fun vi => n - (intOf vi).toNat)
      case atStart => exact ⟨0, rfl, by omega⟩
      case round =>
        obtain ⟨i, rfl, hi⟩ := hrel
        by_cases hlt2 : i < n
        · obtain ⟨x, hx⟩ : ∃ x, (itemsU r)[i]? = some x := ⟨_, List.getElem?_eq_getElem (by rw [← Hn.out]; exact hlt2)⟩
          obtain ⟨g, o, rfl, _, q0, q1, q2, q3⟩ := hR.it hx
          rw [Hrn.out x (List.mem_of_getElem? hx)] at q3
          clear hx q0 q1 q2
          go_wp2_with (fail)
          go_round
          case rel => exact ⟨i + 1, by go_num, by omega⟩
          case measure => simp [intOf]; omega
        · obtain rfl : i = n := by omega
          clear hR
          go_wp2_with (fail)
          refine (list_any s hs w5 hT5 hT5.size).mono ?_
          rintro e w6 ⟨v, rfl, hown, hO7⟩
          have hO7 := hO6.trans hO7
          have hT6 := hT.only hO7 (by simp) (by simp)
          obtain ⟨A2, c2, rfl, hnc2, hR, -⟩ := own_slice hown
          obtain ⟨L, hL⟩ : ∃ L, L = itemsU s := ⟨_, rfl⟩
          have hlb : L.length ≤ 1048576 := by rw [hL]; have := itemsF_len s s.size 0; unfold itemsU; omega
          rw [← hL] at hR hnc2 ⊢
          have hclL := clB_all L
          rw [hL, ← NB.list, ← hL] at hclL
          have HclL := Lib.hid hclL
          have HL := Lib.hid hL
          clear hown hL hO6 hT5 hclL hnc
          go_wp2_with (fail)
          go_loop [14, 15] (fun vc vi => ∃ i : Nat, vi = .int .i64 (i : Int) ∧ i ≤ L.length ∧ vc = .bool (clB L i)) (fun _ vi => L.length - (intOf vi).toNat)
          case atStart => exact ⟨0, rfl, by omega, rfl⟩
          case round =>
            obtain ⟨i, rfl, hi, rfl⟩ := hrel
            by_cases hlt3 : i < L.length
            · obtain ⟨x, hx⟩ : ∃ x, L[i]? = some x := ⟨_, List.getElem?_eq_getElem hlt3⟩
              obtain ⟨g, o, rfl, _, q0, q1, q2, q3⟩ := hR.it hx
              have hcs := clB_succ hx
              obtain ⟨xa, xn, xr, xb⟩ := x
              simp only at q3 hcs
              have hdt : decide (i < L.length) = true := decide_eq_true hlt3
              clear hx q0 q1 q2
              obtain ⟨m, hm⟩ : ∃ m, m = clB L i := ⟨_, rfl⟩
              rw [← hm] at hcs ⊢
              have Hcs := Lib.hid hcs
              clear hm hcs
              cases m with
              | true =>
                go_wp2_with (fail)
                go_round
                case rel => exact ⟨i + 1, by go_num, by omega, by rw [Hcs.out]; simp⟩
                case measure => simp [intOf]; omega
              | false =>
                go_wp2_with (fail)
                go_round
                case rel => exact ⟨i + 1, by go_num, by omega, by rw [Hcs.out]; simp⟩
                case measure => simp [intOf]; omega
            · obtain rfl : i = L.length := by omega
              have hdf : decide (L.length < L.length) = false := decide_eq_false (by omega)
              clear hR
              obtain ⟨m, hm⟩ : ∃ m, m = clB L L.length := ⟨_, rfl⟩
              rw [← hm]
              have hrsd : (r.toList == s.toList) = m := by
                rw [Lib.toList_data, Lib.toList_data]
                cases m with
                | true => have h := Hci.out.1 (HclL.out.1 hm.symm); rw [h]; simp
                | false =>
                  have h : ¬ r = s := fun e => by have := HclL.out.2 (Hci.out.2 e); rw [← hm] at this; cases this
                  have h2 : ¬ r.data.toList = s.data.toList := fun e => h (by apply ByteArray.ext; exact Array.toList_inj.1 e)
                  simpa using h2
              clear hm
              have hmm : (!m == m) = false := by cases m <;> rfl
              go_wp2_with (fail)
              refine (tail_any s (by omega) w6 hT6).mono ?_
              rintro e w7 ⟨rfl, hO8⟩
              have hO8 := hO7.trans hO8
              have hT7 := hT.only hO8 (by simp) (by simp)
              obtain ⟨k, hk⟩ : ∃ k, k = tailU s := ⟨_, rfl⟩
              rw [← hk]
              have Hk := Lib.hid hk
              clear hO7 hT6 hk
              by_cases hk0 : k = 0
              · subst hk0
                have hj := Hjn.out Hk.out.symm
                obtain ⟨z, hz⟩ : ∃ z, z = s ++ t := ⟨_, rfl⟩
                have hzs : z.size = s.size + t.size := by rw [hz, ByteArray.size_append]
                have had : ¬ (9223372036854775807 < s.size + t.size) := by omega
                have hap : s ++ t = z := hz.symm
                rw [← hz] at hj
                have Hj := Lib.hid hj
                clear hz hj
                go_wp2_with (fail)
                refine (replace_any' z (by omega) w7 hT7).mono ?_
                rintro e w8 ⟨rfl, hO9⟩
                have hO9 := hO8.trans hO9
                have hT8 := hT.only hO9 (by simp) (by simp)
                clear hO8 hT7 hap had
                go_wp2_with (fail)
                refine (replace_any t ht w8 hT8).mono ?_
                rintro e w9 ⟨rfl, hO10⟩
                have hO10 := hO9.trans hO10
                have hT9 := hT.only hO10 (by simp) (by simp)
                clear hO9 hT8
                obtain ⟨y, hy⟩ : ∃ y, y = str (replS t) := ⟨_, rfl⟩
                rw [show (⟨(replS t).toArray⟩ : ByteArray) = y from hy.symm]
                obtain ⟨x, hx⟩ : ∃ x, x = str (replS z) := ⟨_, rfl⟩
                rw [show (⟨(replS z).toArray⟩ : ByteArray) = x from hx.symm]
                have hysz : y.size ≤ 4194304 := by
                  rw [hy, str_size]
                  have := repl_len t t.size 0 (by omega)
                  unfold replS; omega
                have had : ¬ (9223372036854775807 < r.size + y.size) := by omega
                have hap : r ++ y = x := by
                  apply ByteArray.ext
                  apply Array.toList_inj.1
                  rw [ByteArray.data_append, Array.toList_append, Hr.out, hy, hx, str_data, str_data, str_data, Hj.out]
                clear hy hx
                go_wp2_with (fail)
                refine (known_any w9 hT9 hT9.size).mono ?_
                rintro e w10 ⟨rfl, hO11⟩
                go_wp2_with (fail)
                go_ret
                exact ⟨by first | rfl | simp, hO10.trans hO11⟩
              · have hk1 : ((k : Int) != 0) = true := by simp; omega
                go_wp2_with (fail)
                refine (known_any w7 hT7 hT7.size).mono ?_
                rintro e w8 ⟨rfl, hO9⟩
                go_wp2_with (fail)
                go_ret
                exact ⟨by first | rfl | simp, hO8.trans hO9⟩
end Go.Proofs.YteadcibbpbbehaaDoor
