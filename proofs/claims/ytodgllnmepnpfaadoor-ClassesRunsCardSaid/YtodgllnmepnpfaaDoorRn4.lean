/- The reference of chapter 4: Runs, walked. -/
import Derived.Test.YtodgllnmepnpfaaDoorRn3
set_option linter.unusedVariables false
set_option linter.unusedSimpArgs false
namespace Go.Proofs.YtodgllnmepnpfaaDoor
open Go.RowKit

theorem Rd.it' {w : World} {B : Nat} {A : Option Addr} {n : Nat} {l : List It} (h : Rd w B 4 A n (l.flatMap It.enc)) {i : Nat} {x : It} (hp : l[i]? = some x) :
    ∃ g o, A = some ⟨g, o, none⟩ ∧ i < n ∧ w.cell? ⟨g, o + i * 4, none⟩ = some (.int .i64 (x.at_ : Int)) ∧ w.cell? ⟨g, o + i * 4 + 1, none⟩ = some (.int .i64 (x.n : Int)) ∧ w.cell? ⟨g, o + i * 4 + 2, none⟩ = some (.int .i32 (x.r : Int)) ∧ w.cell? ⟨g, o + i * 4 + 3, none⟩ = some (.bool x.bad) := by
  have hl : i < l.length := (List.getElem?_eq_some_iff.1 hp).1
  have hlen : (l.flatMap It.enc).length = l.length * 4 := flatMap_len' l
  have hn : l.length = n := by have := h.1; omega
  obtain ⟨g, o, rfl, _, _, hc⟩ := h.addr (by omega)
  have key : ∀ j, j < 4 → (l.flatMap It.enc)[i * 4 + j]? = x.enc[j]? := fun j hj => flatMap_cell' l i x j hp hj
  refine ⟨g, o, rfl, by omega, ?_, ?_, ?_, ?_⟩
  · rw [show o + i * 4 = o + (i * 4 + 0) by omega]; exact hc _ _ (key 0 (by omega))
  · rw [show o + i * 4 + 1 = o + (i * 4 + 1) by omega]; exact hc _ _ (key 1 (by omega))
  · rw [show o + i * 4 + 2 = o + (i * 4 + 2) by omega]; exact hc _ _ (key 2 (by omega))
  · rw [show o + i * 4 + 3 = o + (i * 4 + 3) by omega]; exact hc _ _ (key 3 (by omega))
where
  flatMap_len' (l : List It) : (l.flatMap It.enc).length = l.length * 4 := by
    induction l with
    | nil => rfl
    | cons x l ih => rw [List.flatMap_cons, List.length_append, ih, List.length_cons]; simp [It.enc]; omega
  flatMap_cell' : ∀ (l : List It) (k : Nat) (x : It) (j : Nat), l[k]? = some x → j < 4 → (l.flatMap It.enc)[k * 4 + j]? = x.enc[j]?
    | [], k, x, j, h, _ => by simp at h
    | a :: l, 0, x, j, h, hj => by
      have : a = x := by simpa using h
      subst this
      rw [List.flatMap_cons, Nat.zero_mul, Nat.zero_add, List.getElem?_append_left (by simp [It.enc]; omega)]
    | a :: l, k + 1, x, j, h, hj => by
      rw [List.flatMap_cons, List.getElem?_append_right (by simp [It.enc]; omega)]
      have e : (k + 1) * 4 + j - a.enc.length = k * 4 + j := by simp [It.enc]; omega
      rw [e]
      exact flatMap_cell' l k x j (by simpa using h) hj
theorem items_in {s : ByteArray} : ∀ (f p : Nat), ∀ x ∈ itemsF s f p, x.at_ + x.n ≤ s.size
  | 0, p, x, hx => by simp [itemsF] at hx
  | f + 1, p, x, hx => by
    rw [itemsF] at hx
    split at hx
    · rename_i hp
      rcases List.mem_cons.1 hx with rfl | hx
      · exact dec_le s p hp
      · exact items_in f _ x hx
    · simp at hx

set_option maxRecDepth 100000 in
set_option maxHeartbeats 4000000 in
theorem refRuns_any (s : ByteArray) (hs : s.size ≤ 1000000) (w : World) (X Y A1 A2 A3 : Option Addr) (p q u v n1 n2 n3 c1 c2 c3 : Nat) (a b d : List Sp) (hn1 : a.length = n1) (hn2 : b.length = n2) (hn3 : d.length = n3)
    (s1 : n1 ≤ 17592186043904) (s2 : n2 ≤ 17592186043904) (s3 : n3 ≤ 17592186043904) (B : Nat) (r1 : Rd w B 2 A1 n1 (ses a)) (r2 : Rd w B 2 A2 n2 (ses b)) (r3 : Rd w B 2 A3 n3 (ses d)) :
    Calls Tryd.prog 12 #[.agg #[.slice X p q, .slice Y u v, .slice A1 n1 c1, .slice A2 n2 c2, .slice A3 n3 c3], .string s] w fun e w' => ∃ v, e = .returned v ∧ w'.ownsRow w.heap.size 52 4 v (runsU a b d s).length (rns (runsU a b d s)) ∧ Only [] w w' := by
  obtain ⟨h0, hh0⟩ : ∃ h, h = w.heap.size := ⟨_, rfl⟩
  obtain ⟨W1, hW1⟩ : ∃ W1, W1 = w.alloc (.cells #[.slice X p q, .slice Y u v, .slice A1 n1 c1, .slice A2 n2 c2, .slice A3 n3 c3] 44) := ⟨_, rfl⟩
  have hb : Blk W1 h0 44 [.slice X p q, .slice Y u v, .slice A1 n1 c1, .slice A2 n2 c2, .slice A3 n3 c3] := by rw [hW1]; exact Blk.new' _ _ _ hh0.symm rfl
  have hO : Only [] w W1 := by rw [hW1]; exact (Only.refl _ _).alloc _
  have N1 := Lib.hid hn1
  have N2 := Lib.hid hn2
  have N3 := Lib.hid hn3
  have Hh := Lib.hid hh0
  have HW := Lib.hid hW1
  have R1 := Lib.hid (r1.only hO (by simp))
  have R2 := Lib.hid (r2.only hO (by simp))
  have R3 := Lib.hid (r3.only hO (by simp))
  have hru : runsU a b d s = runsL a b d (refItems s) := by unfold runsU; rw [itemsU_eq']
  have Hru := Lib.hid hru
  have hin : ∀ x ∈ refItems s, x.at_ + x.n ≤ s.size := by rw [← itemsU_eq']; exact items_in _ _
  clear hW1 hh0 hn1 hn2 hn3 r1 r2 r3 hru
  go_enter Tryd.func12, Tryd.ntmps12
  go_upto_region 1 with (fail)
  rw [← Hh.out, ← HW.out]
  go_wp2_with (fail)
  refine (refItems_any s (by omega) W1).mono ?_
  rintro e W2 ⟨v2, rfl, hown2, hO2⟩
  obtain ⟨A, c, rfl, hnc, hR, hA0⟩ := own_slice hown2
  obtain ⟨L, hL⟩ : ∃ L, L = refItems s := ⟨_, rfl⟩
  have hll : L.length ≤ s.size := by
    rw [hL, ← itemsU_eq']
    unfold itemsU
    have : ∀ (f p : Nat), (itemsF s f p).length ≤ s.size - p := by
      intro f
      induction f with
      | zero => intro p; simp [itemsF]
      | succ f ih =>
        intro p
        rw [itemsF]
        split
        · have h1 := Lib.width_pos s p
          have := ih (p + (Utf8.decode s p).2)
          rw [List.length_cons]; omega
        · simp
    exact Nat.le_trans (this _ _) (by omega)
  rw [← hL] at hR hnc hin Hru ⊢
  obtain ⟨n, hn⟩ : ∃ n, n = L.length := ⟨_, rfl⟩
  rw [← hn] at hR hnc hll ⊢
  have HN := Lib.hid hn
  have HR := Lib.hid hR
  have Hin := Lib.hid hin
  have hb2 := hb.only hO2 (by simp)
  have R1 := Lib.hid (R1.out.only hO2 (by simp))
  have R2 := Lib.hid (R2.out.only hO2 (by simp))
  have R3 := Lib.hid (R3.out.only hO2 (by simp))
  have HO2 := Lib.hid (hO.trans hO2)
  have Hb2 := Lib.hid hb2
  clear hL hn hin hR hb hO hO2 hown2 hb2 hA0
  go_wp2_with (fail)
  go_loopw [5, 7] (fun vO vi wr => ∃ (i : Nat), vi = .int .i64 (i : Int) ∧ i ≤ n ∧ wr.ownsRow W2.heap.size 52 4 vO (runsL a b d (L.take i)).length (rns (runsL a b d (L.take i))) ∧ Only [] W2 wr) (fun _ vi _ => n - (intOf vi).toNat)
  case atStart => exact ⟨0, rfl, by omega, ⟨rfl, .inl ⟨rfl, rfl⟩⟩, .refl _ _⟩
  case round =>
    obtain ⟨i, rfl, hi, hown, hOr⟩ := hrel
    by_cases hlt : i < n
    · obtain ⟨x, hx⟩ : ∃ x, L[i]? = some x := ⟨_, List.getElem?_eq_getElem (by rw [← HN.out]; exact hlt)⟩
      have hxb := Hin.out x (List.mem_of_getElem? hx)
      have htk : L.take (i + 1) = L.take i ++ [x] := by rw [List.take_add_one, hx]; rfl
      have hsn := runsL_snoc a b d x (L.take i)
      rw [← htk] at hsn
      obtain ⟨ga, oa, rfl, -, q0, q1, q2, q3⟩ := (HR.out.only hOr (by simp)).it' hx
      have hbr := Hb2.out.only hOr (by simp)
      have k0 : wr.cell? ⟨h0, 0, none⟩ = some (.slice X p q) := hbr.cell 0
      have k1 : wr.cell? ⟨h0, 1, none⟩ = some (.slice Y u v) := hbr.cell 1
      have k2 : wr.cell? ⟨h0, 2, none⟩ = some (.slice A1 n1 c1) := hbr.cell 2
      have k3 : wr.cell? ⟨h0, 3, none⟩ = some (.slice A2 n2 c2) := hbr.cell 3
      have k4 : wr.cell? ⟨h0, 4, none⟩ = some (.slice A3 n3 c3) := hbr.cell 4
      obtain ⟨K, hK⟩ : ∃ K, K = kindIt a b d x := ⟨_, rfl⟩
      have hone : RunD.one a b d x = ⟨K, x.at_, x.at_ + x.n, 1⟩ := by rw [hK]; rfl
      have hrk := fun W (hw : Only [] wr W) => refKind_any W X Y A1 A2 A3 p q u v n1 n2 n3 c1 c2 c3 a b d (x.at_ : Int) (x.n : Int) (x.r : Int) x.bad N1.out N2.out N3.out s1 s2 s3 B (R1.out.only (hOr.trans hw) (by simp)) (R2.out.only (hOr.trans hw) (by simp)) (R3.out.only (hOr.trans hw) (by simp))
      have hke : (if x.bad = true then 4 else kindOf a b d (x.r : Int)) = K := by rw [hK]; rfl
      rw [hke] at hrk
      rw [← hK, hone] at hsn
      have hll : (runsL a b d (L.take i)).length ≤ i := Nat.le_trans (runsL_len a b d _) (by rw [List.length_take]; omega)
      have hkK := kind_le a b d x
      rw [← hK] at hkK
      obtain ⟨xa, xn, xr, xb⟩ := x
      simp only at q0 q1 q2 q3 hrk hsn hxb
      obtain ⟨z, hz⟩ : ∃ z, z = xa + xn := ⟨_, rfl⟩
      have hw1 : IntKind.i64.wrap ((xa : Int) + (xn : Int)) = (z : Int) := by rw [IntWalk.i64_in _ (by omega)]; omega
      have hzb : z ≤ 1000000 := by omega
      rw [← hz] at hsn
      have cS : ∀ W, Only [] wr W → W.cell? ⟨ga, oa + i * 4, none⟩ = some (.int .i64 (xa : Int)) ∧ W.cell? ⟨ga, oa + i * 4 + 1, none⟩ = some (.int .i64 (xn : Int)) := fun W hw => ⟨hw.cellv q0 (by simp), hw.cellv q1 (by simp)⟩
      have hmore : ∀ r : RunD, moreR ⟨xa, xn, xr, xb⟩ r = ⟨r.k, r.f, z, r.n + 1⟩ := fun r => by unfold moreR; rw [hz]
      have Hmore := Lib.hid hmore
      have CS := Lib.hid cS
      have Hrk := Lib.hid hrk
      have Hsn := Lib.hid hsn
      have Hown := Lib.hid hown
      have HOr := Lib.hid hOr
      clear hx htk hsn hbr hK hone hrk hke hown hOr cS hz hmore
      go_wp2_with (fail)
      go_still_tail 5, (by kernel_rfl)
      go_wp2_with (fail)
      refine (Hrk.out _ ((Only.refl _ _).drew)).mono ?_
      rintro e W3 ⟨rfl, hO3⟩
      replace hO3 : Only [] wr W3 := hO3.ofDrew
      clear k0 k1 k2 k3 k4 q0 q1 q2 q3
      obtain ⟨q0, q1⟩ := CS.out W3 hO3
      go_wp2_with (fail)
      go_quiet (fail)
      go_upto_region 8 with (fail)
      refine name_it (p := fun y => Code.wp _ _ _ _ y) ?_
      intro W4 H4
      have hO4 : Only [] wr W4 := by rw [H4.out]; exact hO3.drewN _
      clear H4 hw1 q0 q1 hO3
      have hown4 := own_only Hown.out hO4 (by simp)
      have hOr4 := HOr.out.trans hO4
      obtain ⟨q0, -⟩ := CS.out W4 hO4
      rcases Hsn.out with ⟨hn0, hs1⟩ | ⟨O, r, hs0, hs1⟩
      · have hT0 : runsL a b d (L.take i) = [] := by rw [hn0]; rfl
        rw [hT0, List.length_nil] at hown4
        have HT0 := Lib.hid hT0
        have Hs1 := Lib.hid hs1
        obtain ⟨v', w', hrun, hown', hO', -, -⟩ := run_append_row (P := Tryd.prog) (w := W4.alloc (.cells #[.int .i64 (K : Int), .int .i64 (xa : Int), .int .i64 (z : Int), .int .i64 1] 52)) W2.heap.size 48 48 52 (.agg #[.int .i64 0, .int .i64 0, .int .i64 0, .int .i64 0]) 4 32 Tryd.underlying48 (by kernel_rfl) rfl (by omega) (own_only hown4 ((Only.refl [] W4).alloc _) (by simp)) 1 (Rd.whole (Blk.new' _ _ _ rfl rfl) rfl) (by simp [Value.oneCell']) (by simp only [maxLen]; omega) (by omega) (by have := hOr4.size; simp; omega)
        have hOw : Only [] W2 w' := (hOr4.alloc _).trans' hO' (fun y hy => .inr (own_lt hown4 (by simpa using hy)).1)
        have Hrun := Lib.hid hrun
        have Hown' := Lib.hid hown'
        have HOw := Lib.hid hOw
        obtain ⟨Av, cv, rfl, -⟩ := own_slice hown4
        obtain ⟨Av', cv', rfl, -⟩ := own_slice hown'
        clear hn0 hs1 hT0 hown4 hOr4 hrun hown' hO' hOw hO4
        go_wp2_with ((at_builtin; refine wpList_append_run (o := ⟨some 76, _, _, _, _, _⟩) (by rfl) (.tmp 66) (.tmp 75) 48 48 (by rfl) (by rfl) (by rfl) Hrun.out ?_))
        go_roundw
        case rel => exact ⟨i + 1, by go_num, by omega, by rw [Hs1.out]; exact Hown'.out, HOw.out⟩
        case measure => simp [intOf]; omega
      · rw [hs0] at hll
        rw [List.length_append, List.length_singleton] at hll
        rw [hs0, List.length_append, List.length_singleton] at hown4
        have hbd : r.k ≤ 4 ∧ r.n ≤ 1000000 := by
          have hmem : r ∈ runsL a b d (L.take i) := by rw [hs0]; simp
          cases hl : L.take i with
          | nil => rw [hl] at hmem; cases hmem
          | cons y l' =>
            rw [hl] at hmem
            have hi2 : ∀ e ∈ y :: l', e.at_ + e.n ≤ s.size := fun e he => Hin.out e (List.mem_of_mem_take (by rw [hl]; exact he))
            have hlen : (y :: l').length ≤ i := by rw [← hl, List.length_take]; omega
            have hky := kind_le a b d y
            have := runsG_bd a b d s.size l' (.one a b d y) (fun e he => hi2 e (List.mem_cons_of_mem _ he)) hky.2 (by have := hi2 y (List.mem_cons_self ..); show y.at_ ≤ s.size; omega) (hi2 y (List.mem_cons_self ..)) r hmem
            have h1 : (RunD.one a b d y).n = 1 := rfl
            simp only [List.length_cons] at hlen
            omega
        obtain ⟨m, hm⟩ : ∃ m, m = O.length := ⟨_, rfl⟩
        rw [← hm] at hown4 hll
        obtain ⟨g, cap, sp, rfl, hbg, -, -, hncap, hcapm⟩ := own_shape hown4 (by omega)
        have l0 := rns_last O r 0 (by omega)
        have l2 := rns_last O r 2 (by omega)
        have l3 := rns_last O r 3 (by omega)
        rw [← hm] at l0 l2 l3
        rw [Nat.add_zero] at l0
        have c0 := (own_cell hown4 (by omega) l0).1
        have c2 := (own_cell hown4 (by omega) l2).1
        have f2 := (own_cell hown4 (by omega) l2).2
        have c3 := (own_cell hown4 (by omega) l3).1
        have f3 := (own_cell hown4 (by omega) l3).2
        replace c0 : W4.cell? ⟨g, m * 4, none⟩ = some (.int .i64 (r.k : Int)) := c0
        replace c2 : W4.cell? ⟨g, m * 4 + 2, none⟩ = some (.int .i64 (r.t : Int)) := c2
        replace c3 : W4.cell? ⟨g, m * 4 + 3, none⟩ = some (.int .i64 (r.n : Int)) := c3
        have hm1 : ((m + 1 : Nat) : Int) - 1 = (m : Int) := by omega
        have hm2 : (m : Int) + 1 - 1 = (m : Int) := by omega
        have hw1 : IntKind.i64.wrap (((m + 1 : Nat) : Int) - 1) = (m : Int) := by rw [IntWalk.i64_in _ (by omega)]; omega
        obtain ⟨r0, r1, r2, r3⟩ := r
        simp only at hs1 hbd c0 c2 c3
        by_cases hKk : K = r0
        · subst hKk
          rw [if_pos rfl] at hs1
          have hxl : (rns (O ++ [⟨K, r1, r2, r3⟩])).length = m * 4 + 4 := by rw [rns_length, List.length_append, List.length_singleton, hm]; omega
          have hs2 := own_set (own_set hown4 (by omega) (j := m * 4 + 2) (by rw [hxl]; omega) (.int .i64 (z : Int))) (by omega) (j := m * 4 + 3) (by rw [List.length_set, hxl]; omega) (.int .i64 ((r3 + 1 : Nat) : Int))
          rw [hm, rns_set, ← hm] at hs2
          have hO6 := (hOr4.setCell (p := ⟨g, m * 4 + 2, none⟩) (.inr hbg) (.int .i64 (z : Int))).setCell (p := ⟨g, m * 4 + 3, none⟩) (.inr hbg) (.int .i64 ((r3 + 1 : Nat) : Int))
          have hs3 : runsL a b d (L.take (i + 1)) = O ++ [⟨K, r1, z, r3 + 1⟩] := by rw [hs1, Hmore.out]
          have Hs3 := Lib.hid hs3
          have Hs2 := Lib.hid hs2
          have HO6 := Lib.hid hO6
          have Hm := Lib.hid hm
          have hce : (((r3 + 1 : Nat)) : Int) = (r3 : Int) + 1 := by omega
          rw [hce] at Hs2 HO6
          have hkk : ((K : Int) == (K : Int)) = true := by simp
          clear hs0 hs1 hs2 hs3 hO6 hown4 hOr4 hO4 l0 l2 l3 hxl hm hce hm1 hw1
          go_wp2_with (fail)
          refine ⟨⟨i + 1, by go_num, by omega, ?_, HO6.out⟩, by simp [intOf]; omega⟩
          rw [Hs3.out, List.length_append, List.length_singleton, ← Hm.out]
          exact Hs2.out
        · rw [if_neg hKk] at hs1
          have hkk : ((r0 : Int) == (K : Int)) = false := by simp; omega
          obtain ⟨v', w', hrun, hown', hO', -, -⟩ := run_append_row (P := Tryd.prog) (w := W4.alloc (.cells #[.int .i64 (K : Int), .int .i64 (xa : Int), .int .i64 (z : Int), .int .i64 1] 52)) W2.heap.size 48 48 52 (.agg #[.int .i64 0, .int .i64 0, .int .i64 0, .int .i64 0]) 4 32 Tryd.underlying48 (by kernel_rfl) rfl (by omega) (own_only hown4 ((Only.refl [] W4).alloc _) (by simp)) 1 (Rd.whole (Blk.new' _ _ _ rfl rfl) rfl) (by simp [Value.oneCell']) (by simp only [maxLen]; omega) (by omega) (by have := hOr4.size; simp; omega)
          have hOw : Only [] W2 w' := (hOr4.alloc _).trans' hO' (fun y hy => .inr (own_lt hown4 (by simpa using hy)).1)
          have Hrun := Lib.hid hrun
          have Hown' := Lib.hid hown'
          have HOw := Lib.hid hOw
          have Hs1 := Lib.hid hs1
          have Hm := Lib.hid hm
          obtain ⟨Av', cv', rfl, -⟩ := own_slice hown'
          clear hs0 hs1 hown4 hOr4 hrun hown' hO' hOw hO4 l0 l2 l3 hm
          go_wp2_with ((at_builtin; refine wpList_append_run (o := ⟨some 76, _, _, _, _, _⟩) (by rfl) (.tmp 66) (.tmp 75) 48 48 (by rfl) (by rfl) (by rfl) Hrun.out ?_))
          refine ⟨⟨i + 1, by go_num, by omega, ?_, HOw.out⟩, by simp [intOf]; omega⟩
          rw [Hs1.out]
          have e1 : (O ++ [(⟨r0, r1, r2, r3⟩ : RunD), ⟨K, xa, z, 1⟩]).length = m + 1 + 1 := by rw [List.length_append, ← Hm.out]; rfl
          have e2 : rns (O ++ [(⟨r0, r1, r2, r3⟩ : RunD), ⟨K, xa, z, 1⟩]) = rns (O ++ [⟨r0, r1, r2, r3⟩]) ++ [.int .i64 (K : Int), .int .i64 (xa : Int), .int .i64 (z : Int), .int .i64 1] := by
            unfold rns
            simp [RunD.enc]
          rw [e1, e2]
          exact Hown'.out
    · obtain rfl : i = n := by omega
      have htk : L.take i = L := List.take_of_length_le (by rw [← HN.out]; exact Nat.le_refl _)
      rw [htk, ← Hru.out] at hown
      have Hown := Lib.hid hown
      obtain ⟨Av, cv, rfl, -⟩ := own_slice hown
      have hlt' : ¬ (i : Int) < (i : Int) := by omega
      have HOr := Lib.hid hOr
      clear hown htk hOr
      go_wp2_with (fail)
      go_ret
      exact ⟨_, rfl, own_base Hown.out (HO2.out.size), HO2.out.trans HOr.out⟩
end Go.Proofs.YtodgllnmepnpfaaDoor
