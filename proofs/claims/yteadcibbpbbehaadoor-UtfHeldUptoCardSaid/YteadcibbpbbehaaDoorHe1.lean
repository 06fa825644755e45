/- UtfHeld: the walk. -/
import Derived.Test.YteadcibbpbbehaaDoorHe0
import Derived.Lib.SlBytesConst
namespace Go.Proofs.YteadcibbpbbehaaDoor
open Go.RowKit

theorem last_it {l : List It} {y : It} {w : World} {B : Nat} {A : Option Addr} {n : Nat} (h : Rd w B 4 A n ((l ++ [y]).flatMap It.enc)) (hn : n = l.length + 1) :
    ∃ g o, A = some ⟨g, o, none⟩ ∧ w.cell? ⟨g, o + l.length * 4 + 1, none⟩ = some (.int .i64 (y.n : Int)) ∧ w.cell? ⟨g, o + l.length * 4 + 3, none⟩ = some (.bool y.bad) := by
  obtain ⟨g, o, rfl, _, q0, q1, q2, q3⟩ := h.it (k := l.length) (x := y) (by simp)
  exact ⟨g, o, rfl, q1, q3⟩
set_option maxRecDepth 100000 in
set_option maxHeartbeats 4000000 in
theorem utfHeld_walk (w : World) (s : ByteArray) (hs : s.size ≤ 1048576) (hT : Tabs w) :
    Calls Tryd.prog 7 #[.string s] w fun e w' => e = .returned (.bool true) ∧ Only [] w w' := by
  have h2 := hT.size
  go_enter Tryd.func7, Tryd.ntmps7
  go_wp2_with (fail)
  refine (tail_any s (by omega) w hT).mono ?_
  rintro e w1 ⟨rfl, hO⟩
  have hT1 := hT.only hO (by simp) (by simp)
  have hsome := held_some s
  have hheld := held_of_tail (s := s)
  obtain ⟨n, hn⟩ : ∃ n, n = tailU s := ⟨_, rfl⟩
  rw [← hn] at hsome hheld ⊢
  have hn3 : n ≤ 3 ∧ n ≤ s.size := by
    by_cases h0 : n = 0
    · omega
    · obtain ⟨h1, h2⟩ := hheld h0
      have := h1.cont.1
      omega
  have Hn := Lib.hid hn
  have Hsome := Lib.hid hsome
  obtain ⟨hn3, hns⟩ := hn3
  have d1 : decide (s.size < n) = false := decide_eq_false (by omega)
  clear hsome hheld hn
  by_cases h0 : n = 0
  · subst h0
    go_wp2_with (fail)
    refine (known_any w1 hT1 hT1.size).mono ?_
    rintro e w2 ⟨rfl, hO2⟩
    go_wp2_with (fail)
    go_ret
    exact ⟨by first | rfl | simp, hO.trans hO2⟩
  · have h0' : ((n : Int) == 0) = false := by simp; omega
    have HO := Lib.hid hO
    clear hO hT1
    go_wp2_with (fail)
    go_loopw [4, 5, 6, 7, 8] (fun v4 v5 _ _ _ wr => ∃ (c : Nat) (m : Bool), v5 = .int .i64 (c : Int) ∧ 128 ≤ c ∧ c ≤ 192 ∧ v4 = .bool m ∧ (m = false → ∀ c', 128 ≤ c' → c' < c → heldB s n c' = false) ∧ Only [] w wr) (fun _ v5 _ _ _ _ => 192 - (intOf v5).toNat)
    case atStart => exact ⟨128, false, rfl, by omega, by omega, rfl, fun _ c' h1 h2 => by omega, HO.out⟩
    case round =>
      obtain ⟨c, m, rfl, hc1, hc2, rfl, hm, hO⟩ := hrel
      have hT1 := hT.only hO (by simp) (by simp)
      have Hm := Lib.hid hm
      clear hm
      by_cases hlt : c < 192
      · have hlt' : (c : Int) < 192 := by omega
        have hw : (c : Int) % 256 = (c : Int) := by omega
        have hbl : Blk (wr.alloc (.cells #[.int .u8 (c : Int)] 5)) wr.heap.size 5 (bvs [UInt8.ofNat c]) := Blk.new' _ _ _ rfl (by simp [bvs, bv]; omega)
        have hcv := run_string_rd (P := Tryd.prog) 41 9 5 Tryd.underlying41 (by kernel_rfl) Tryd.underlying9 1 (Rd.whole (t := 5) (n := 1) (size := 1) hbl rfl)
        have hOa := hO.alloc (.cells #[.int .u8 (c : Int)] 5)
        have hszx := appB_size s c
        have hT2 := hT.only hOa (by simp) (by simp)
        have hadd : ¬ (9223372036854775807 < s.size + (str [UInt8.ofNat c]).size) := by have : (str [UInt8.ofNat c]).size = 1 := rfl; omega
        have hap : s ++ str [UInt8.ofNat c] = appB s c := rfl
        obtain ⟨x, hx⟩ : ∃ x, x = appB s c := ⟨_, rfl⟩
        rw [← hx] at hap hszx
        have Hx := Lib.hid hx
        clear hx hbl
        obtain ⟨l, y, hly⟩ := items_ne (s := x) (by omega)
        obtain ⟨tx, htx⟩ : ∃ tx, tx = tailU x := ⟨_, rfl⟩
        have hB : heldB s n c = (decide (tx = n + 1) || (decide (tx = 0) && (!y.bad && decide (y.n = n + 1)))) := by
          unfold heldB; rw [← Hx.out, ← htx, hly]; simp
        have Hly := Lib.hid hly
        have Htx := Lib.hid htx
        have HB := Lib.hid hB
        clear hly htx hB
        go_wp2_with (fail)
        refine (list_any' x (by omega) _ hT2 hT2.size).mono ?_
        rintro e w2 ⟨v, rfl, hown, hO2⟩
        have hO2 := hOa.trans hO2
        have hT3 := hT.only hO2 (by simp) (by simp)
        rw [Hly.out] at hown
        obtain ⟨A, cc, rfl, hnc, hR, -⟩ := own_slice hown
        obtain ⟨N, hN⟩ : ∃ N, N = (l ++ [y]).length := ⟨_, rfl⟩
        have hN1 : N = l.length + 1 := by rw [hN, List.length_append]; rfl
        rw [← hN] at hR hnc ⊢
        clear hown hOa hcv hadd hap hT2
        have Hm2 := Hm.out
        have hxs : x.size ≤ 140737488351232 := by omega
        have hxs2 : x.size ≤ 1048577 := by omega
        clear hszx
        cases m with
        | true =>
          clear Hm2
          go_wp2_with (fail)
          go_roundw
          case rel => exact ⟨c + 1, true, by go_num, by omega, by omega, rfl, fun e => (by cases e), hO2⟩
          case measure => simp [intOf]; omega
        | false =>
          have HM := Lib.hid (Hm2 rfl)
          clear Hm2
          obtain ⟨g, o, rfl, q1, q3⟩ := last_it hR hN1
          obtain ⟨k, hk⟩ : ∃ k, k = l.length := ⟨_, rfl⟩
          rw [← hk] at q1 q3 hN1
          have Hk := Lib.hid hk
          have hN2 : (N : Int) - 1 = (k : Int) := by omega
          have hN3 : (0 : Int) < (N : Int) := by omega
          have hkN : k < N := by omega
          have hkb : k ≤ 2000000 := by
            have h := itemsF_len x x.size 0
            have h2 : (itemsU x).length = k + 1 := by rw [Hly.out, List.length_append, hk]; rfl
            unfold itemsU at h2; omega
          have HN1 := Lib.hid hN1
          have HN := Lib.hid hN
          clear hR hk hN1 hN
          obtain ⟨ya, yn, yr, yb⟩ := y
          simp only at q1 q3 HB
          have hgo : ∀ b : Bool, heldB s n c = b → (b = false → ∀ c', 128 ≤ c' → c' < c + 1 → heldB s n c' = false) := by
            intro b hb e c' h1 h2
            by_cases h3 : c' = c
            · rw [h3, hb, e]
            · exact HM.out c' h1 (by omega)
          have Hgo := Lib.hid hgo
          clear hgo
          go_wp2_with (fail)
          refine (tail_any x hxs _ hT3).mono ?_
          rintro e w3 ⟨rfl, hO3⟩
          rw [← Htx.out]
          have hO2 := hO2.trans hO3
          have hT3 := hT.only hO2 (by simp) (by simp)
          have q1 := hO3.cellv q1 (by simp)
          have q3 := hO3.cellv q3 (by simp)
          clear hO3
          by_cases t1 : tx = n + 1
          · have t1' : ((tx : Int) == (n : Int) + 1) = true := by simp; omega
            have hb : heldB s n c = true := by rw [HB.out, t1]; simp
            have Hb := Lib.hid hb
            clear t1 hb
            go_wp2_with (fail)
            go_roundw
            case rel => exact ⟨c + 1, true, by go_num, by omega, by omega, rfl, Hgo.out _ Hb.out, hO2⟩
            case measure => simp [intOf]; omega
          · have t1' : ((tx : Int) == (n : Int) + 1) = false := by simp; omega
            have HB2 : Hid (heldB s n c = (decide (tx = 0) && (!yb && decide (yn = n + 1)))) := Lib.hid (by rw [HB.out, decide_eq_false t1, Bool.false_or])
            clear t1
            go_wp2_with (fail)
            refine (tail_any x hxs _ hT3).mono ?_
            rintro e w4 ⟨rfl, hO3⟩
            rw [← Htx.out]
            have hO2 := hO2.trans hO3
            have q1 := hO3.cellv q1 (by simp)
            have q3 := hO3.cellv q3 (by simp)
            clear hO3 hT3 hT1
            by_cases t2 : tx = 0
            · have t2' : ((tx : Int) == 0) = true := by simp; omega
              have HB3 : Hid (heldB s n c = (!yb && decide (yn = n + 1))) := Lib.hid (by rw [HB2.out, decide_eq_true t2, Bool.true_and])
              clear t2
              cases yb with
              | true =>
                have Hb : Hid (heldB s n c = false) := Lib.hid (by rw [HB3.out]; rfl)
                go_wp2_with (fail)
                go_roundw
                case rel => exact ⟨c + 1, false, by go_num, by omega, by omega, rfl, Hgo.out _ Hb.out, hO2⟩
                case measure => simp [intOf]; omega
              | false =>
                by_cases t3 : yn = n + 1
                · have Hb : Hid (heldB s n c = true) := Lib.hid (by rw [HB3.out, decide_eq_true t3]; rfl)
                  have t3' : ((yn : Int) == (n : Int) + 1) = true := by simp; omega
                  clear t3
                  go_wp2_with (fail)
                  go_roundw
                  case rel => exact ⟨c + 1, true, by go_num, by omega, by omega, rfl, Hgo.out _ Hb.out, hO2⟩
                  case measure => simp [intOf]; omega
                · have Hb : Hid (heldB s n c = false) := Lib.hid (by rw [HB3.out, decide_eq_false t3]; rfl)
                  have t3' : ((yn : Int) == (n : Int) + 1) = false := by simp; omega
                  clear t3
                  go_wp2_with (fail)
                  go_roundw
                  case rel => exact ⟨c + 1, false, by go_num, by omega, by omega, rfl, Hgo.out _ Hb.out, hO2⟩
                  case measure => simp [intOf]; omega
            · have t2' : ((tx : Int) == 0) = false := by simp; omega
              have Hb : Hid (heldB s n c = false) := Lib.hid (by rw [HB2.out, decide_eq_false t2]; rfl)
              clear t2
              go_wp2_with (fail)
              go_roundw
              case rel => exact ⟨c + 1, false, by go_num, by omega, by omega, rfl, Hgo.out _ Hb.out, hO2⟩
              case measure => simp [intOf]; omega
      · obtain rfl : c = 192 := by omega
        have hmt : m = true := by
          cases m with
          | true => rfl
          | false =>
            obtain ⟨c, h1, h2, h3⟩ := Hsome.out h0
            rw [Hm.out rfl c h1 h2] at h3; cases h3
        subst hmt
        clear Hm
        go_wp2_with (fail)
        refine (known_any wr hT1 hT1.size).mono ?_
        rintro e w3 ⟨rfl, hO3⟩
        go_wp2_with (fail)
        go_ret
        exact ⟨by first | rfl | simp, hO.trans hO3⟩
end Go.Proofs.YteadcibbpbbehaaDoor
