/- ClassesKept: the walk. -/
import Derived.Test.YtodgllnmepnpfaaKnow2
import Derived.Test.YtodgllnmepnpfaaSpBk
import Derived.Deep.RegionHeld3
namespace Go.Proofs.Ytodgllnmepnpfaa
open Go.RowKit

/-- 'append([]api.Span{}, s...)': a row of the call's own -/
theorem app_new (n c : Nat) (A : Option Addr) (l : List Sp) (w : World) (B : Nat) (hr : Rd w B 2 A n (ses l)) (hn : n ≤ 17592186043904) :
    ∃ (g c' : Nat) (w' : World) (cs : List Value), (Builtin.append_ #[22, 22] 22 #[.slice (some ⟨w.heap.size, 0, none⟩) 0 0, .slice A n c]).run Try.prog (w.alloc (.cells #[] 25)) = .ok (.slice (some ⟨g, 0, none⟩) n c') w' ∧
      w.heap.size ≤ g ∧ Blk w' g 25 cs ∧ n * 2 ≤ cs.length ∧ n ≤ c' ∧ Rd w' w'.heap.size 2 (some ⟨g, 0, none⟩) n (ses l) ∧ Only [] w w' := by
  have he : (w.alloc (.cells #[] 25)).ownsRow w.heap.size 25 2 (.slice (some ⟨w.heap.size, 0, none⟩) 0 0) 0 [] := own_empty w _ 25 2 rfl (Nat.le_refl _)
  obtain ⟨v', w', hrun, hown, hO, hat, hnil⟩ := run_append_row (P := Try.prog) w.heap.size 22 22 25 (.agg #[.int .i32 0, .int .i32 0]) 2 8 rfl (by kernel_rfl) rfl (by omega) he c (hr.alloc (.cells #[] 25)) (ses_one l) (by simp only [maxLen]; omega) (by omega) (by simp)
  have hO' : Only [] w w' := ((Only.refl [] w).alloc (.cells #[] 25)).trans' hO (by simp [Value.ownBlock])
  rcases hown.2 with ⟨hv, _⟩ | ⟨g, cap, cur, hv, hb, hg, hnc, hcm, hcs, _⟩
  · exact absurd (hnil.1 hv).1 (by simp)
  · subst hv
    obtain ⟨A', c', e, _, hr', _⟩ := own_slice hown
    injection e with e1 e2 e3
    subst e1 e3
    rw [Nat.zero_add] at hrun hr' hnc
    rw [List.nil_append] at hr'
    exact ⟨g, cap, w', cur.toList, hrun, hb, Blk.mk' hg rfl, by rw [Array.length_toList, hcs]; omega, hnc, hr', hO'⟩

set_option maxRecDepth 100000 in
set_option maxHeartbeats 8000000 in
theorem classesKept_walk (w : World) (X Y A1 A2 A3 : Option Addr) (p q u v n1 n2 n3 c1 c2 c3 : Nat) (a b d : List Sp) (hn1 : a.length = n1) (hn2 : b.length = n2) (hn3 : d.length = n3)
    (s1 : n1 ≤ 17592186043904) (s2 : n2 ≤ 17592186043904) (s3 : n3 ≤ 17592186043904) (_ : Nat) (r1 : Rd w w.heap.size 2 A1 n1 (ses a)) (r2 : Rd w w.heap.size 2 A2 n2 (ses b)) (r3 : Rd w w.heap.size 2 A3 n3 (ses d))
    (A : Option Addr) (n c : Nat) (rl : List Int) (hrl : rl.length = n) (hR : Rd w w.heap.size 1 A n (rl.map (Value.int .i32))) (_ : n ≤ c) (hcb : c ≤ 140737488351232) (_ : ∀ x ∈ rl, (Lit.int .i32 x).wf = true) :
    Calls Try.prog 4 #[.agg #[.slice X p q, .slice Y u v, .slice A1 n1 c1, .slice A2 n2 c2, .slice A3 n3 c3], .slice A n c] w fun e w' => e = .returned (.bool true) ∧ Only [] w w' := by
  have N1 := Lib.hid hn1
  have N2 := Lib.hid hn2
  have N3 := Lib.hid hn3
  have hnb : n ≤ 140737488351232 := by omega
  have HN := Lib.hid hrl
  clear hn1 hn2 hn3 hrl
  go_enter Try.func4, Try.ntmps4
  go_upto_region 1 with (fail)
  obtain ⟨h0, hh0⟩ : ∃ h, h = w.heap.size := ⟨_, rfl⟩
  have hb : Blk (w.alloc (.cells #[.slice X p q, .slice Y u v, .slice A1 n1 c1, .slice A2 n2 c2, .slice A3 n3 c3] 32)) h0 32 [.slice X p q, .slice Y u v, .slice A1 n1 c1, .slice A2 n2 c2, .slice A3 n3 c3] := Blk.new' _ _ _ hh0.symm rfl
  have hO := (Only.refl [] w).alloc (.cells #[.slice X p q, .slice Y u v, .slice A1 n1 c1, .slice A2 n2 c2, .slice A3 n3 c3] 32)
  rw [← hh0]
  refine name_it (p := fun y => Code.wp _ _ _ _ y) ?_
  intro wa Ha
  rw [← Ha.out] at hb hO
  clear Ha
  have Hh0 := Lib.hid hh0
  clear hh0
  have hbl := hb.lt
  obtain ⟨g1, k1, w1, cs1, hrun1, hg1, hb1, hl1, hk1, q1, hO1⟩ := app_new n1 c1 A1 a wa _ (r1.only hO (by simp)) s1
  obtain ⟨g2, k2, w2, cs2, hrun2, hg2, hb2, hl2, hk2, q2, hO2⟩ := app_new n2 c2 A2 b w1 _ (r2.only (hO.trans hO1) (by simp)) s2
  obtain ⟨g3, k3, w3, cs3, hrun3, hg3, hb3, hl3, hk3, q3, hO3⟩ := app_new n3 c3 A3 d w2 _ (r3.only ((hO.trans hO1).trans hO2) (by simp)) s3
  have z1 := hb1.lt
  have z2 := hb2.lt
  have z3 := hb3.lt
  have y1 := hO1.size
  have y2 := hO2.size
  have y3 := hO3.size
  have x2 : (wa.alloc (.cells #[] 25)).cell? ⟨h0, 2, none⟩ = some (.slice A1 n1 c1) := (hb.alloc _).cell 2
  have hbw1 := hb.only hO1 (by simp)
  have x3 : (w1.alloc (.cells #[] 25)).cell? ⟨h0, 3, none⟩ = some (.slice A2 n2 c2) := (hbw1.alloc _).cell 3
  have hbw2 := hbw1.only hO2 (by simp)
  have x4 : (w2.alloc (.cells #[] 25)).cell? ⟨h0, 4, none⟩ = some (.slice A3 n3 c3) := (hbw2.alloc _).cell 4
  replace hb := hbw2.only hO3 (by simp)
  replace hb1 := (hb1.only hO2 (by simp)).only hO3 (by simp)
  replace hb2 := hb2.only hO3 (by simp)
  replace q1 := ((q1.only hO2 (by simp)).more hO2.size |>.only hO3 (by simp)).more hO3.size
  replace q2 := (q2.only hO3 (by simp)).more hO3.size
  have hgs : h0 < g1 ∧ g1 < g2 ∧ g2 < g3 ∧ g3 < w3.heap.size := by omega
  have hgw : w.heap.size ≤ g1 ∧ w.heap.size ≤ g2 ∧ w.heap.size ≤ g3 := by have := Hh0.out; omega
  replace hO3 := ((hO.trans hO1).trans hO2).trans hO3
  have Hrun1 := Lib.hid hrun1
  have Hrun2 := Lib.hid hrun2
  have Hrun3 := Lib.hid hrun3
  clear hrun1 hrun2 hrun3 hbw1 hbw2 hO hO1 hO2 z1 z2 z3 y1 y2 y3 hbl hg1 hg2 hg3
  go_wp2_with ((first
    | (at_builtin; refine wpList_append_run (o := ⟨some 18, _, _, _, _, _⟩) (by rfl) (.tmp 15) (.tmp 17) 22 22 (by rfl) (by rfl) (by rfl) Hrun1.out ?_)
    | (at_builtin; refine wpList_append_run (o := ⟨some 22, _, _, _, _, _⟩) (by rfl) (.tmp 19) (.tmp 21) 22 22 (by rfl) (by rfl) (by rfl) Hrun2.out ?_)
    | (at_builtin; refine wpList_append_run (o := ⟨some 26, _, _, _, _, _⟩) (by rfl) (.tmp 23) (.tmp 25) 22 22 (by rfl) (by rfl) (by rfl) Hrun3.out ?_)))
  refine (rightLaw_any w3 none none (some ⟨g1, 0, none⟩) (some ⟨g2, 0, none⟩) (some ⟨g3, 0, none⟩) 0 0 0 0 n1 n2 n3 k1 k2 k3 a b d N1.out N2.out N3.out s1 s2 s3 _ q1 q2 q3).mono ?_
  rintro e w5 ⟨t, rfl, hO5, ht⟩
  replace hb := hb.only hO5 (by simp)
  replace hb1 := hb1.only hO5 (by simp)
  replace hb2 := hb2.only hO5 (by simp)
  replace hb3 := hb3.only hO5 (by simp)
  replace hO5 := hO3.trans hO5
  clear q1 q2 q3 x2 x3 x4 hO3
  rcases ht with ⟨g, rfl, hz, hT⟩ | ⟨rfl, hne⟩
  · rw [decide_eq_true hz]
    clear hz
    go_wp2_with (fail)
    go_loopw [11] (fun vi wr => ∃ k : Nat, vi = .int .i64 (k : Int) ∧ k ≤ n1 ∧ Only [g1] w5 wr ∧ ∃ cs, Blk wr g1 25 cs ∧ n1 * 2 ≤ cs.length) (fun vi _ => n1 - (intOf vi).toNat)
    case atStart => exact ⟨0, rfl, by omega, .refl _ _, _, hb1, hl1⟩
    case round =>
      obtain ⟨k, rfl, hk, hw, cs, hbc, hlc⟩ := hrel
      by_cases hlt : k < n1
      · obtain ⟨v0, hv0⟩ : ∃ v0, cs[k * 2]? = some v0 := ⟨_, List.getElem?_eq_getElem (by omega)⟩
        obtain ⟨v1, hv1⟩ : ∃ v1, cs[k * 2 + 1]? = some v1 := ⟨_, List.getElem?_eq_getElem (by omega)⟩
        have e0 := hbc.cell (k * 2)
        have e1 := hbc.cell (k * 2 + 1)
        rw [hv0] at e0
        rw [hv1] at e1
        have f0 := hbc.frozen (k * 2)
        have f1 := hbc.frozen (k * 2 + 1)
        clear hv0 hv1
        go_wp2_with (fail)
        go_roundw
        case rel => exact ⟨k + 1, by go_num, by omega, (hw.setCell (.inl (by simp)) _).setCell (.inl (by simp)) _, _, (hbc.set _ _).set _ _, by simp; omega⟩
        case measure => simp [intOf]; omega
      · have hw1 := hw
        clear hbc
        go_wp2_with (fail)
        go_loopw [12] (fun vi wr => ∃ k : Nat, vi = .int .i64 (k : Int) ∧ k ≤ n2 ∧ Only [g1, g2] w5 wr ∧ ∃ cs, Blk wr g2 25 cs ∧ n2 * 2 ≤ cs.length) (fun vi _ => n2 - (intOf vi).toNat)
        case atStart => exact ⟨0, rfl, by omega, hw.mono (by intro x hx; simp at hx ⊢; omega), _, hb2.only hw (by simp; omega), hl2⟩
        case round =>
          clear hw
          obtain ⟨k, rfl, hk, hw, cs, hbc, hlc⟩ := hrel
          by_cases hlt : k < n2
          · obtain ⟨v0, hv0⟩ : ∃ v0, cs[k * 2]? = some v0 := ⟨_, List.getElem?_eq_getElem (by omega)⟩
            obtain ⟨v1, hv1⟩ : ∃ v1, cs[k * 2 + 1]? = some v1 := ⟨_, List.getElem?_eq_getElem (by omega)⟩
            have e0 := hbc.cell (k * 2)
            have e1 := hbc.cell (k * 2 + 1)
            rw [hv0] at e0
            rw [hv1] at e1
            have f0 := hbc.frozen (k * 2)
            have f1 := hbc.frozen (k * 2 + 1)
            clear hv0 hv1
            go_wp2_with (fail)
            go_roundw
            case rel => exact ⟨k + 1, by go_num, by omega, (hw.setCell (.inl (by simp)) _).setCell (.inl (by simp)) _, _, (hbc.set _ _).set _ _, by simp; omega⟩
            case measure => simp [intOf]; omega
          · have hw2 := hw
            clear hbc
            go_wp2_with (fail)
            go_loopw [13] (fun vi wr => ∃ k : Nat, vi = .int .i64 (k : Int) ∧ k ≤ n3 ∧ Only [g1, g2, g3] w5 wr ∧ ∃ cs, Blk wr g3 25 cs ∧ n3 * 2 ≤ cs.length) (fun vi _ => n3 - (intOf vi).toNat)
            case atStart => exact ⟨0, rfl, by omega, hw.mono (by intro x hx; simp at hx ⊢; omega), _, hb3.only hw (by simp; omega), hl3⟩
            case round =>
              clear hw
              obtain ⟨k, rfl, hk, hw, cs, hbc, hlc⟩ := hrel
              by_cases hlt : k < n3
              · obtain ⟨v0, hv0⟩ : ∃ v0, cs[k * 2]? = some v0 := ⟨_, List.getElem?_eq_getElem (by omega)⟩
                obtain ⟨v1, hv1⟩ : ∃ v1, cs[k * 2 + 1]? = some v1 := ⟨_, List.getElem?_eq_getElem (by omega)⟩
                have e0 := hbc.cell (k * 2)
                have e1 := hbc.cell (k * 2 + 1)
                rw [hv0] at e0
                rw [hv1] at e1
                have f0 := hbc.frozen (k * 2)
                have f1 := hbc.frozen (k * 2 + 1)
                clear hv0 hv1
                go_wp2_with (fail)
                go_roundw
                case rel => exact ⟨k + 1, by go_num, by omega, (hw.setCell (.inl (by simp)) _).setCell (.inl (by simp)) _, _, (hbc.set _ _).set _ _, by simp; omega⟩
                case measure => simp [intOf]; omega
              · have hw3 := hw
                clear hbc
                go_wp2_with (fail)
                have hOw : Only [] w wr := hO5.trans' hw (by intro x hx; simp at hx; omega)
                have hTw : Tab wr w3.heap.size g a b d := hT.only hw (by intro x hx; simp at hx; omega)
                have hbw : Blk wr h0 32 [.slice X p q, .slice Y u v, .slice A1 n1 c1, .slice A2 n2 c2, .slice A3 n3 c3] := hb.only hw (by simp; omega)
                have R1 := r1.only hOw (by simp)
                have R2 := r2.only hOw (by simp)
                have R3 := r3.only hOw (by simp)
                have RL := hR.only hOw (by simp)
                have HT := Lib.hid hTw
                have HR1 := Lib.hid R1
                have HR2 := Lib.hid R2
                have HR3 := Lib.hid R3
                have HRL := Lib.hid RL
                have Hbw := Lib.hid hbw
                obtain ⟨w9, hw9⟩ : ∃ w9, w9 = wr := ⟨_, rfl⟩
                rw [← hw9] at HT HR1 HR2 HR3 HRL Hbw hOw
                clear hTw R1 R2 R3 RL hbw hb hT r1 r2 r3 hR hb1 hb2 hb3 hw hw1 hw2 hw3 hO5
                go_loopw [14] (fun vi wx => ∃ k : Nat, vi = .int .i64 (k : Int) ∧ k ≤ n ∧ Only [] w9 wx) (fun vi _ => n - (intOf vi).toNat)
                case atStart => exact ⟨0, rfl, by omega, by rw [hw9]; exact .refl _ _⟩
                case round =>
                  clear hw9
                  obtain ⟨k, rfl, hk, hw⟩ := hrel
                  by_cases hlt : k < n
                  · by_cases h50 : k < 50
                    · obtain ⟨gl, ol, ul, rfl, _, hul, _⟩ := HRL.out.at1 hlt
                      obtain ⟨r, hr⟩ : ∃ r, rl[k]? = some r := ⟨_, List.getElem?_eq_getElem (by rw [HN.out]; exact hlt)⟩
                      rw [List.getElem?_map, hr, Option.map_some] at hul
                      obtain rfl : Value.int .i32 r = ul := by injection hul
                      clear hul hr
                      have kS : ∀ w', Only [] w9 w' → w'.cell? ⟨h0, 0, none⟩ = some (.slice X p q) ∧ w'.cell? ⟨h0, 1, none⟩ = some (.slice Y u v) ∧ w'.cell? ⟨h0, 2, none⟩ = some (.slice A1 n1 c1) ∧ w'.cell? ⟨h0, 3, none⟩ = some (.slice A2 n2 c2) ∧ w'.cell? ⟨h0, 4, none⟩ = some (.slice A3 n3 c3) ∧ w'.cell? ⟨gl, ol + k, none⟩ = some (.int .i32 r) ∧ Only [] w9 w' := fun w' h => by
                        have e1 := Hbw.out.only h (by simp)
                        exact ⟨e1.cell 0, e1.cell 1, e1.cell 2, e1.cell 3, e1.cell 4, h.cellv (by assumption) (by simp), h⟩
                      have KS := Lib.hid kS
                      clear kS
                      obtain ⟨K, hK⟩ : ∃ K, K = kindOf a b d r := ⟨_, rfl⟩
                      have HK := Lib.hid hK
                      clear hK
                      go_upto_region 22 with (fail)
                      go_region_held3 (fun w' => w'.cell? ⟨h0, 0, none⟩ = some (.slice X p q) ∧ w'.cell? ⟨h0, 1, none⟩ = some (.slice Y u v) ∧ w'.cell? ⟨h0, 2, none⟩ = some (.slice A1 n1 c1) ∧ w'.cell? ⟨h0, 3, none⟩ = some (.slice A2 n2 c2) ∧ w'.cell? ⟨h0, 4, none⟩ = some (.slice A3 n3 c3) ∧ w'.cell? ⟨gl, ol + k, none⟩ = some (.int .i32 r) ∧ Only [] w9 w')
                        (first | exact KS.out _ (Only.drew hw) | exact KS.out _ (by assumption))
                        (first
                          | (go_at_call 10
                             obtain ⟨-, -, -, -, -, -, hcur⟩ := (by assumption : _ ∧ _ ∧ _ ∧ _ ∧ _ ∧ _ ∧ Only [] w9 _)
                             refine (of_any _ _ g a b d (HT.out.only hcur (by simp)) r).mono ?_
                             rintro e wz ⟨rfl, hOz⟩
                             rw [← HK.out]
                             replace hOz := hcur.trans hOz
                             clear hcur)
                          | (go_at_call 11
                             obtain ⟨-, -, -, -, -, -, hcur⟩ := (by assumption : _ ∧ _ ∧ _ ∧ _ ∧ _ ∧ _ ∧ Only [] w9 _)
                             refine (refOf_any _ X Y A1 A2 A3 p q u v n1 n2 n3 c1 c2 c3 a b d r N1.out N2.out N3.out s1 s2 s3 _ (HR1.out.only hcur (by simp)) (HR2.out.only hcur (by simp)) (HR3.out.only hcur (by simp))).mono ?_
                             rintro e wz ⟨rfl, hOz⟩
                             rw [← HK.out]
                             replace hOz := hcur.trans hOz
                             clear hcur))
                      all_goals
                        go_wp2_with (fail)
                        go_roundw
                        case rel => exact ⟨k + 1, by go_num, by omega, hOz⟩
                        case measure => simp [intOf]; omega
                    · go_wp2_with (fail)
                      refine (known_any _).mono ?_
                      rintro e wz ⟨rfl, hOz⟩
                      go_wp2_with (fail)
                      go_ret
                      exact ⟨rfl, (hOw.trans hw).trans hOz⟩
                  · go_wp2_with (fail)
                    refine (known_any _).mono ?_
                    rintro e wz ⟨rfl, hOz⟩
                    go_wp2_with (fail)
                    go_ret
                    exact ⟨rfl, (hOw.trans hw).trans hOz⟩
  · rw [decide_eq_false hne]
    clear hne hb hb1 hb2 hb3
    go_wp2_with (fail)
    refine (known_any _).mono ?_
    rintro e w6 ⟨rfl, hO6⟩
    go_wp2_with (fail)
    go_ret
    exact ⟨rfl, hO5.trans hO6⟩
end Go.Proofs.Ytodgllnmepnpfaa
