/- UtfRange: the walk. -/
import Derived.Test.YteadcibbpbbehaaDoorUtfN
import Derived.Lib.OthersKept
import Derived.WalkSmall
namespace Go.Proofs.YteadcibbpbbehaaDoor
open Go.RowKit

theorem encode_enc (r : Nat) : Utf8.encode (r : Int) = str (Lib.encodeRune (r : Int)) := by
  unfold Lib.encodeRune Lib.encodeRuneZ
  by_cases h1 : r < 128
  · have hv : Utf8.valid (r : Int) = true := by simp [Utf8.valid]; omega
    rw [if_pos (by omega)]
    simp [Utf8.encode, hv, h1, str]
  · rw [if_neg (by omega)]
    by_cases h2 : r < 2048
    · have hv : Utf8.valid (r : Int) = true := by simp [Utf8.valid]; omega
      rw [if_pos (by omega)]
      have e1 : (192 + (r : Int) / 64).toNat = 192 + r / 64 := by omega
      have e2 : (128 + (r : Int) % 64).toNat = 128 + r % 64 := by omega
      simp [Utf8.encode, hv, h1, h2, str, e1, e2]
    · rw [if_neg (by omega)]
      by_cases h3 : (2048 ≤ (r : Int) ∧ (r : Int) < 55296) ∨ (57343 < (r : Int) ∧ (r : Int) ≤ 65535)
      · have hv : Utf8.valid (r : Int) = true := by simp [Utf8.valid]; omega
        have h4 : r < 65536 := by omega
        rw [if_pos h3]
        have e1 : (224 + (r : Int) / 4096).toNat = 224 + r / 4096 := by omega
        have e2 : (128 + (r : Int) / 64 % 64).toNat = 128 + r / 64 % 64 := by omega
        have e3 : (128 + (r : Int) % 64).toNat = 128 + r % 64 := by omega
        simp [Utf8.encode, hv, h1, h2, h4, str, e1, e2, e3]
      · rw [if_neg h3]
        by_cases h4 : 65536 ≤ (r : Int) ∧ (r : Int) ≤ 1114111
        · have hv : Utf8.valid (r : Int) = true := by simp [Utf8.valid]; omega
          have h5 : ¬ r < 65536 := by omega
          rw [if_pos h4]
          have e0 : (240 + (r : Int) / 262144).toNat = 240 + r / 262144 := by omega
          have e1 : (128 + (r : Int) / 4096 % 64).toNat = 128 + r / 4096 % 64 := by omega
          have e2 : (128 + (r : Int) / 64 % 64).toNat = 128 + r / 64 % 64 := by omega
          have e3 : (128 + (r : Int) % 64).toNat = 128 + r % 64 := by omega
          simp [Utf8.encode, hv, h1, h2, h5, str, e0, e1, e2, e3]
        · have hv : Utf8.valid (r : Int) = false := by simp [Utf8.valid]; omega
          rw [if_neg h4]
          simp [Utf8.encode, hv, Utf8.runeError, str]

theorem Only.iterAt {a w : World} (h : Only [] a w) {k : Nat} (hk : a.heap.size ≤ k) (s : ByteArray) (pos : Nat) : Only [] a (w.iterAt k s pos) :=
  h.trans' (l' := [k]) ⟨rfl, rfl, rfl, by rw [Lib.iterAt_size]; exact Nat.le_refl _, fun i hi hn => Lib.iterAt_other w k i s pos (by simpa using hn)⟩ (by intro x hx; simp at hx; omega)

/-- what a good item's bytes are -/
theorem good_bytes (s : ByteArray) (p : Nat) (hp : p < s.size) (h : isBad (Utf8.decode s p) = false) : Utf8.encode ((Utf8.decode s p).1 : Int) = s.extract p (p + (Utf8.decode s p).2) := by
  have hw : widthS s p ≠ 0 := by
    rw [bad_width s p hp] at h
    exact of_decide_eq_false h
  rw [encode_enc, enc_out s p hp, dec_width s p hp, if_neg hw, outS, if_pos hw]
  apply ByteArray.ext
  rw [ByteArray.data_extract]
  apply Array.toList_inj.1
  rw [Array.toList_extract]
  show (str _).data.toList = ((s.data.toList).drop p).take (p + widthS s p - p)
  rw [str_data, Nat.add_sub_cancel_left]

set_option maxRecDepth 100000 in
set_option maxHeartbeats 4000000 in
theorem utfRange_walk (w : World) (s : ByteArray) (hs : s.size ≤ 1048576) (hT : Tabs w) :
    Calls Tryd.prog 4 #[.string s] w fun e w' => e = .returned (.bool true) ∧ Only [] w w' := by
  go_enter Tryd.func4, Tryd.ntmps4
  go_wp2_with (fail)
  refine (list_any s hs w hT hT.size).mono ?_
  rintro e w1 ⟨v, rfl, hown, hO1⟩
  have hT1 := hT.only hO1 (by simp) (by simp)
  obtain ⟨A, c, rfl, hnc, hR, -⟩ := own_slice hown
  have hll : (itemsU s).length ≤ s.size := by
    have := itemsF_len s s.size 0
    unfold itemsU; omega
  obtain ⟨L, hL⟩ : ∃ L, L = itemsU s := ⟨_, rfl⟩
  rw [← hL] at hR hll ⊢
  have hL0 : itemsF s (s.size - 0) 0 = L.drop 0 := by rw [hL]; rfl
  have HL := Lib.hid hL
  obtain ⟨bi, hbi⟩ : ∃ k, k = w1.heap.size := ⟨_, rfl⟩
  have hit : (w1.alloc (.stringIter s 0)).heap[bi]? = some (.stringIter s 0) := by rw [hbi]; exact World.iter_heap w1 s 0
  have hOa : Only [] w1 (w1.alloc (.stringIter s 0)) := (Only.refl _ _).alloc _
  have hbw : w1.heap.size ≤ bi := by omega
  have Hbi := Lib.hid hbi
  clear hown hL hbi
  go_wp2_with (fail)
  rw [← Hbi.out]
  go_loopw [5, 6] (fun vi ve wr => ∃ (p i : Nat), vi = .int .i64 (i : Int) ∧ ve = .int .i64 (p : Int) ∧ p ≤ s.size ∧ i ≤ L.length ∧ itemsF s (s.size - p) p = L.drop i ∧ wr.heap[bi]? = some (.stringIter s p) ∧ Only [] w1 wr) (fun _ _ wr => s.size - wr.iterPos bi)
  case atStart => exact ⟨0, 0, rfl, rfl, by omega, by omega, hL0, hit, hOa⟩
  case round =>
    clear hit hOa
    obtain ⟨p, i, rfl, rfl, hp, hi, hq, hit, hO⟩ := hrel
    have hpos0 := iterPos_of hit
    by_cases hlt : p < s.size
    · have hst := itemsF_step hlt
      have hgood := good_bytes s p hlt
      have hdl := dec_le s p hlt
      have hrl := Lib.rune_le s p
      have hdw := dec_width s p hlt
      have hx : L[i]? = some (itAt s p) := by
        have h := congrArg List.head? (hq.symm.trans hst)
        simpa [List.head?_drop] using h
      have hq2 : itemsF s (s.size - (p + (Utf8.decode s p).2)) (p + (Utf8.decode s p).2) = L.drop (i + 1) := by
        have h := congrArg List.tail (hq.symm.trans hst)
        simpa [List.tail_drop] using h.symm
      have hnx : ∀ ty, (Instr.next (.pointer (some ⟨bi, 0, none⟩)) true ty).run Tryd.prog wr = _ := fun ty => Lib.run_next_any_at wr bi s p ty hit hlt
      have hit2 := Lib.iterAt_heap wr bi s p (p + (Utf8.decode s p).2) hit
      have hO2 := hO.iterAt hbw s (p + (Utf8.decode s p).2)
      have hil : i < L.length := (List.getElem?_eq_some_iff.1 hx).1
      have hpos1 : 1 ≤ (Utf8.decode s p).2 := by rw [hdw]; split <;> omega
      unfold itAt at hx
      obtain ⟨d, hd⟩ : ∃ d, d = Utf8.decode s p := ⟨_, rfl⟩
      rw [← hd] at hgood hdl hrl hdw hx hq2 hnx hit2 hO2 hpos1
      obtain ⟨r, n⟩ := d
      simp only at hgood hdl hrl hdw hx hq2 hnx hit2 hO2 hpos1
      obtain ⟨W1, hW1⟩ : ∃ W1, W1 = wr.iterAt bi s (p + n) := ⟨_, rfl⟩
      rw [← hW1] at hnx hit2 hO2
      obtain ⟨g, o, rfl, hin, q0, q1, q2, q3⟩ := (hR.only hO2 (by simp)).it hx
      have hT2 := hT.only (hO1.trans hO2) (by simp) (by simp)
      have hpos2 := iterPos_of hit2
      have Hd := Lib.hid hd
      have Hst := Lib.hid hst
      have Hq := Lib.hid hq
      have Hq2 := Lib.hid hq2
      have Hdw := Lib.hid hdw
      clear hd hst hq hq2 hdw hx hW1 hit hO hR
      simp only at q0 q1 q2 q3
      have hdf : decide (L.length ≤ i) = false := decide_eq_false (by omega)
      cases hbad : isBad (r, n) with
      | true =>
        rw [hbad] at q3
        have h1 : r = 65533 ∧ n = 1 := of_decide_eq_true hbad
        obtain ⟨rfl, rfl⟩ := h1
        clear hgood hbad
        go_wp2_with (fail)
        go_quiet (fail)
        go_wp2_with (fail)
        go_roundw
        case rel => exact ⟨p + 1, i + 1, by go_num, by go_num, by omega, by omega, Hq2.out, hit2, hO2.drewN _⟩
        case measure => rw [hpos0]; first | rw [hpos2] | (rw [show (W1.drewN nq).iterPos bi = W1.iterPos bi from rfl, hpos2]); omega
      | false =>
        rw [hbad] at q3
        have hgd := hgood hbad
        have hnb : ¬ (r = 65533 ∧ n = 1) := of_decide_eq_false hbad
        clear hgood hbad
        by_cases hr : r = 65533
        · subst hr
          have hn1 : ((n : Int) == 1) = false := by simp; omega
          have hgd2 : Utf8.encode 65533 = s.extract p (p + n) := hgd
          clear hgd
          go_wp2_with (fail)
          go_quiet (fail)
          go_wp2_with (fail)
          go_roundw
          case rel => exact ⟨p + n, i + 1, by go_num, by go_num, by omega, by omega, Hq2.out, hit2, hO2.drewN _⟩
          case measure => rw [hpos0]; first | rw [hpos2] | (rw [show (W1.drewN nq).iterPos bi = W1.iterPos bi from rfl, hpos2]); omega
        · have hr1 : ((r : Int) == 65533) = false := by simp; omega
          go_wp2_with (fail)
          go_quiet (fail)
          go_wp2_with (fail)
          go_roundw
          case rel => exact ⟨p + n, i + 1, by go_num, by go_num, by omega, by omega, Hq2.out, hit2, hO2.drewN _⟩
          case measure => rw [hpos0]; first | rw [hpos2] | (rw [show (W1.drewN nq).iterPos bi = W1.iterPos bi from rfl, hpos2]); omega
    · obtain rfl : p = s.size := by omega
      have hend : i = L.length := by
        have h0 : itemsF s (s.size - s.size) s.size = [] := by rw [Nat.sub_self]; rfl
        rw [h0] at hq
        have := congrArg List.length hq
        rw [List.length_drop] at this
        simp at this; omega
      subst hend
      have hnx : ∀ ty, (Instr.next (.pointer (some ⟨bi, 0, none⟩)) true ty).run Tryd.prog wr = _ := fun ty => Lib.run_next_end_at wr bi s s.size ty hit hlt
      have hO2 := hO1.trans hO
      have hT2 := hT.only hO2 (by simp) (by simp)
      clear hq hit hR
      go_wp2_with (fail)
      refine (known_any wr hT2 hT2.size).mono ?_
      rintro e w3 ⟨rfl, hO3⟩
      go_wp2_with (fail)
      go_ret
      exact ⟨by first | rfl | simp, hO2.trans hO3⟩
end Go.Proofs.YteadcibbpbbehaaDoor
