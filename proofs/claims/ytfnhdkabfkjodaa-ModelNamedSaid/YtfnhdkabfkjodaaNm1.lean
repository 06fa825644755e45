/- ModelNamed: the walk. -/
import Derived.Test.YtfnhdkabfkjodaaNm0
import Derived.Test.YtfnhdkabfkjodaaKn5
import Derived.Test.YtfnhdkabfkjodaaMd6
import Derived.Test.YtfnhdkabfkjodaaWithin
import Derived.Test.YtfnhdkabfkjodaaApStep
import Derived.Test.YtfnhdkabfkjodaaRegN
import Derived.Deep.RegionHeld3
import Derived.Deep.RegionLaw
set_option linter.unusedVariables false
set_option linter.unusedSimpArgs false
namespace Go.Proofs.Ytfnhdkabfkjodaa
open Go.RowKit

/-- a list of ids, as cells -/
def nts (T : List Nat) : List Value := T.map fun (x : Nat) => Value.int .i64 (x : Int)
theorem nts_get {T : List Nat} {i x : Nat} (h : T[i]? = some x) : (nts T)[i]? = some (.int .i64 (x : Int)) := by simp [nts, h]
theorem nts_set (T : List Nat) (i v : Nat) : (nts T).set i (.int .i64 (v : Int)) = nts (T.set i v) := by simp [nts, List.map_set]
def startT (N i : Nat) : List Nat := List.range i ++ List.replicate (N - i) 0
theorem startT_zero (N : Nat) : nts (startT N 0) = List.replicate N (.int .i64 0) := by simp [nts, startT]
theorem startT_len {N i : Nat} (h : i ≤ N) : (startT N i).length = N := by simp [startT]; omega
theorem startT_step {N i : Nat} (h : i < N) : (startT N i).set i i = startT N (i + 1) := by
  unfold startT
  obtain ⟨k, hk⟩ : ∃ k, N - i = k + 1 := ⟨N - i - 1, by omega⟩
  rw [hk, show N - (i + 1) = k by omega, List.replicate_succ, List.set_append_right _ _ (by simp), List.length_range, Nat.sub_self, List.set_cons_zero, List.range_succ, List.append_assoc]
  rfl
theorem startT_full (N : Nat) : startT N N = List.range N := by simp [startT]
/-- a number of a list, met at a place -/
theorem rd_num {w : World} {B n : Nat} {A : Option Addr} {l : List Int} (h : Rd w B 1 A n (l.map (Value.int .i64))) (hl : l.length = n) {i : Nat} (hi : i < n) : ∃ x g o, x ∈ l ∧ A = some ⟨g, o, none⟩ ∧ w.cell? ⟨g, o + i, none⟩ = some (.int .i64 x) := by
  obtain ⟨g, o, u, hA, _, hu, hc⟩ := h.at1 hi
  have hx : l[i]? = some (l[i]'(by omega)) := List.getElem?_eq_getElem _
  rw [List.getElem?_map, hx, Option.map_some] at hu
  injection hu with hu
  subst hu
  exact ⟨_, g, o, List.mem_of_getElem? hx, hA, hc⟩
theorem lookM_id {p : Int × Int} {k : Nat} {id : Int} : ∀ (l : List Mg) (i : Nat), lookM i l p = some (k, id) → ∃ m ∈ l, m.id = id
  | [], _, h => by cases h
  | x :: l, i, h => by
    rw [lookM] at h
    split at h
    · injection h with h; injection h with _ h; exact ⟨x, List.mem_cons_self .., h⟩
    · obtain ⟨m, hm, e⟩ := lookM_id l (i + 1) h
      exact ⟨m, List.mem_cons_of_mem _ hm, e⟩
theorem wf_i64s {l : List Int} (h : ∀ x ∈ l, (Lit.int .i64 x).wf = true) : ∀ x ∈ l, i64ok x := fun x hx => by
  have := h x hx
  simpa [i64ok, Lit.wf, IntKind.min, IntKind.max, IntKind.signed, IntKind.bits] using this

set_option maxRecDepth 100000 in
set_option maxHeartbeats 8000000 in
theorem modelNamed_walk (w : World) (v0 v1 v2 v3 v4 : Value) (ws : List ByteArray) (ms : List Mg) (a b d : List Sp) (hR : Rd5 w v0 v1 v2 v3 v4 ws ms a b d)
    (s0 : ws.length ≤ 8796093021952) (s1 : ms.length ≤ 5864062014634) (s2 : a.length ≤ 17592186043904) (s3 : b.length ≤ 17592186043904) (s4 : d.length ≤ 17592186043904) (hws : ∀ s ∈ ws, s.size ≤ maxLen) (hms : ∀ m ∈ ms, m.ok)
    (As : Option Addr) (ns cs : Nat) (sw : List Int) (hsl : sw.length = ns) (hsr : Rd w w.heap.size 1 As ns (sw.map (Value.int .i64))) (hsc : ns ≤ cs) (hsb : cs ≤ 140737488351232) (hsw : ∀ x ∈ sw, (Lit.int .i64 x).wf = true)
    (lf : Int) (hlf : i64ok lf) (rt : Int) (hrt : i64ok rt) :
    Calls Try.prog 4 #[.agg #[v0, v1, v2, v3, v4], .slice As ns cs, .int .i64 lf, .int .i64 rt] w fun e w' => e = .returned (.bool true) ∧ Only [] w w' := by
  obtain ⟨h, hh⟩ : ∃ h, h = w.heap.size := ⟨_, rfl⟩
  obtain ⟨W1, hW1⟩ : ∃ W1, W1 = w.alloc (.cells #[v0, v1, v2, v3, v4] 26) := ⟨_, rfl⟩
  have hb : Blk W1 h 26 [v0, v1, v2, v3, v4] := by rw [hW1]; exact Blk.new' _ _ _ hh.symm rfl
  have hO : Only [] w W1 := by rw [hW1]; exact (Only.refl _ _).alloc _
  have hR1 := hR.only hO
  have HR1 := Lib.hid hR1
  have hof := ofM_any W1 _ _ _ _ _ ws ms a b d hR1 (by omega) (by omega) s2 s3 s4 hws hms
  obtain ⟨⟨A0, c0, e0, -⟩, ⟨A1, c1, e1, -⟩, ⟨A2, c2, e2, -⟩, ⟨A3, c3, e3, -⟩, ⟨A4, c4, e4, -⟩⟩ := hR1
  obtain ⟨n0, hn0⟩ : ∃ n, n = ws.length := ⟨_, rfl⟩
  obtain ⟨n1, hn1⟩ : ∃ n, n = ms.length := ⟨_, rfl⟩
  obtain ⟨n2, hn2⟩ : ∃ n, n = a.length := ⟨_, rfl⟩
  obtain ⟨n3, hn3⟩ : ∃ n, n = b.length := ⟨_, rfl⟩
  obtain ⟨n4, hn4⟩ : ∃ n, n = d.length := ⟨_, rfl⟩
  rw [← hn0] at e0
  rw [← hn1] at e1
  rw [← hn2] at e2
  rw [← hn3] at e3
  rw [← hn4] at e4
  subst e0 e1 e2 e3 e4
  have kS : ∀ W, Only [] W1 W → W.cell? ⟨h, 0, none⟩ = some (.slice A0 n0 c0) ∧ W.cell? ⟨h, 1, none⟩ = some (.slice A1 n1 c1) ∧ W.cell? ⟨h, 2, none⟩ = some (.slice A2 n2 c2) ∧ W.cell? ⟨h, 3, none⟩ = some (.slice A3 n3 c3) ∧ W.cell? ⟨h, 4, none⟩ = some (.slice A4 n4 c4) := fun W hw => by
    have k := hb.only hw (by simp)
    exact ⟨k.cell 0, k.cell 1, k.cell 2, k.cell 3, k.cell 4⟩
  obtain ⟨k0, k1, k2, k3, k4⟩ := kS W1 (.refl _ _)
  have KS := Lib.hid kS
  have Hof := Lib.hid hof
  have N0 := Lib.hid hn0
  have N1 := Lib.hid hn1
  have N2 := Lib.hid hn2
  have N3 := Lib.hid hn3
  have N4 := Lib.hid hn4
  have Hs := Lib.hid (And.intro s2 (And.intro s3 s4))
  have Hms := Lib.hid hms
  have Hh := Lib.hid hh
  have HW := Lib.hid hW1
  have HO := Lib.hid hO
  have HSL := Lib.hid hsl
  have HSR := Lib.hid hsr
  have HSW := Lib.hid (wf_i64s hsw)
  obtain ⟨hlf1, hlf2⟩ := hlf
  obtain ⟨hrt1, hrt2⟩ := hrt
  clear hh hW1 hb hR hof hws hms hn0 hn1 hn2 hn3 hn4 s0 s1 s2 s3 s4 hO hsl hsr hsw kS
  go_enter Try.func4, Try.ntmps4
  go_upto_region 1 with (fail)
  rw [← Hh.out, ← HW.out]
  go_wp2_with (fail)
  refine Hof.out.mono ?_
  intro e W2 hpost
  rcases hpost.no with ⟨rfl, hO2⟩ | ⟨gm, base, rfl, hO2, hbW, hF, hM, hm300⟩
  · clear hpost k0 k1 k2 k3 k4 Hof
    go_wp2_with (fail)
    refine (known5_any W2).mono ?_
    rintro e W3 ⟨rfl, hO3⟩
    go_wp2_with (fail)
    go_ret
    exact ⟨rfl, HO.out.trans (hO2.trans hO3)⟩
  have hln := (fault_parts hF).1
  have hn01 : n0 = n1 := by rw [N0.out, N1.out]; exact hln
  have hn1b : n1 ≤ 300 := by rw [N1.out]; exact hm300
  have hwsz : ∀ s ∈ ws, s.size ≤ 256 := fun s hs => (words_small ws [] 0 (fault_parts hF).2.2.2.1 s hs).2
  have hO02 := HO.out.trans hO2
  have hh2 : h < W2.heap.size := by have := Hh.out; have := HW.out; have := hO2.size; rw [HW.out] at this; simp at this; omega
  have HF := Lib.hid hF
  have HM := Lib.hid hM
  have Hln := Lib.hid hln
  have HO02 := Lib.hid hO02
  have HO2 := Lib.hid hO2
  have Hwsz := Lib.hid hwsz
  clear hpost k0 k1 k2 k3 k4 hM hF hln hm300 hwsz Hof hO02 hO2
  subst hn01
  obtain ⟨k0, k1, k2, k3, k4⟩ := KS.out W2 HO2.out
  by_cases hz : n0 = 0
  · have Hz := Lib.hid hz
    subst hz
    go_wp2_with (fail)
    refine (known5_any W2).mono ?_
    rintro e W3 ⟨rfl, hO3⟩
    go_wp2_with (fail)
    go_ret
    exact ⟨rfl, HO02.out.trans hO3⟩
  have hzb : ((n0 : Int) == 0) = false := by simp; omega
  have hn01 : 1 ≤ n0 := by omega
  clear hz
  obtain ⟨N, hN⟩ : ∃ N, N = 256 + n0 := ⟨_, rfl⟩
  have hNi : (256 : Int) + (n0 : Int) = (N : Int) := by omega
  have hmk := fun W => run_make_rep1 (P := Try.prog) 35 3 (.int .i64 0) 8 Try.underlying35 (by kernel_rfl) rfl .i64 .i64 N N (Nat.le_refl _) (by omega) (by omega) W
  obtain ⟨bt, hbt⟩ : ∃ x, x = W2.heap.size := ⟨_, rfl⟩
  obtain ⟨W3, hW3⟩ : ∃ W3, W3 = W2.alloc (.cells (Array.replicate N (.int .i64 0)) 3) := ⟨_, rfl⟩
  have hT3 : Blk W3 bt 3 (nts (startT N 0)) := by rw [hW3]; exact Blk.new' _ _ _ hbt.symm (by rw [startT_zero]; simp)
  have hO23 : Only [] W2 W3 := by rw [hW3]; exact (Only.refl _ _).alloc _
  have hN2 : 257 ≤ N ∧ N ≤ 556 := by omega
  have HN := Lib.hid hN
  have Hbt := Lib.hid hbt
  have HW3 := Lib.hid hW3
  have hbt2 : W2.heap.size ≤ bt := by omega
  obtain ⟨hN2, hN3⟩ := hN2
  clear hN hbt hW3
  go_upto_region 8 with (fail)
  rw [← Hbt.out, ← HW3.out]
  clear hmk k0 k1 k2 k3 k4
  go_wp2_with (fail)
  go_loopw [14] (fun vi wr => ∃ i : Nat, vi = .int .i64 (i : Int) ∧ i ≤ N ∧ Blk wr bt 3 (nts (startT N i)) ∧ Only [] W2 wr) (fun vi _ => N - (intOf vi).toNat)
  case atStart => exact ⟨0, rfl, by omega, hT3, hO23⟩
  case round =>
    clear hT3 hO23
    obtain ⟨i, rfl, hi, hT, hOr⟩ := hrel
    by_cases hlt : i < N
    · have hlt' : (i : Int) < (N : Int) := by omega
      have hx : (startT N i)[i]? = some ((startT N i)[i]'(by rw [startT_len hi]; exact hlt)) := List.getElem?_eq_getElem _
      have q0 : wr.cell? ⟨bt, i, none⟩ = some (.int .i64 (((startT N i)[i]'(by rw [startT_len hi]; exact hlt) : Nat) : Int)) := by rw [hT.cell i]; exact nts_get hx
      have z0 := hT.frozen i
      have hT2 := hT.set i (.int .i64 (i : Int))
      rw [nts_set, startT_step hlt] at hT2
      have hOs := hOr.setCell (p := ⟨bt, i, none⟩) (.inr hbt2) (.int .i64 (i : Int))
      have HT2 := Lib.hid hT2
      have HOs := Lib.hid hOs
      clear hx hT hT2 hOs
      go_wp2_with (fail)
      go_roundw
      case rel => exact ⟨i + 1, by go_num, by omega, HT2.out, HOs.out⟩
      case measure => simp [intOf]; omega
    · obtain ⟨i0, hi0⟩ : ∃ i0, i0 = i := ⟨_, rfl⟩
      subst hi0
      obtain rfl : i0 = N := by omega
      rw [startT_full] at hT
      have hlt' : ¬ (i0 : Int) < (i0 : Int) := by omega
      have hRn : Ren5 n0 (List.range i0) := by rw [HN.out]; exact Ren5.start n0
      have HRn := Lib.hid hRn
      have HT := Lib.hid hT
      have HOr := Lib.hid hOr
      clear hT hOr hRn hlt
      go_upto_block 2 with (fail)
      go_cut [] (fun wx => ∃ T, Ren5 n0 T ∧ Blk wx bt 3 (nts T) ∧ Only [] W2 wx)
      case first =>
       go_wp2_with (fail)
       go_loopw [15] (fun vi wr => ∃ (i : Nat) (T : List Nat), vi = .int .i64 (i : Int) ∧ i ≤ 41 ∧ Ren5 n0 T ∧ Blk wr bt 3 (nts T) ∧ Only [] W2 wr) (fun vi _ => 41 - (intOf vi).toNat)
       case atStart => exact ⟨0, _, rfl, by omega, HRn.out, HT.out, HOr.out⟩
       case round =>
         clear HT HOr HRn
         obtain ⟨i, T, rfl, hi, hRn, hT, hOr⟩ := hrel
         by_cases hgo : i + 1 < ns ∧ i < 40
         · obtain ⟨g1, g2⟩ := hgo
           have g1' : (i : Int) + 1 < (ns : Int) := by omega
           have g2' : (i : Int) < 40 := by omega
           have hrd := HSR.out.only (HO02.out.trans hOr) (by simp)
           obtain ⟨x1, ga, oa, hx1, hA, r1⟩ := rd_num hrd HSL.out (i := i) (by omega)
           obtain ⟨x2, ga', oa', hx2, hA', r2⟩ := rd_num hrd HSL.out (i := i + 1) (by omega)
           subst hA
           injection hA' with hA'
           injection hA' with hA1 hA2
           subst hA1 hA2
           have b1 := HSW.out x1 hx1
           have b2 := HSW.out x2 hx2
           have hwi1 := within_any x1 0 ((n0 : Int) - 1) wr b1 (by omega) (by omega) (by omega)
           have hwi2 := within_any x2 0 ((n0 : Int) - 1) wr b2 (by omega) (by omega) (by omega)
           have hwb1 := within_bd x1 0 ((n0 : Int) - 1) (by omega)
           have hwb2 := within_bd x2 0 ((n0 : Int) - 1) (by omega)
           obtain ⟨y1, hy1⟩ : ∃ y : Nat, (y : Int) = within x1 0 ((n0 : Int) - 1) := ⟨(within x1 0 ((n0 : Int) - 1)).toNat, by omega⟩
           obtain ⟨y2, hy2⟩ : ∃ y : Nat, (y : Int) = within x2 0 ((n0 : Int) - 1) := ⟨(within x2 0 ((n0 : Int) - 1)).toNat, by omega⟩
           rw [← hy1] at hwi1 hwb1
           rw [← hy2] at hwi2 hwb2
           obtain ⟨p1, hp1⟩ : ∃ p, T[256 + y1]? = some p := ⟨_, List.getElem?_eq_getElem (by rw [hRn.len]; omega)⟩
           obtain ⟨p2, hp2⟩ : ∃ p, T[256 + y2]? = some p := ⟨_, List.getElem?_eq_getElem (by rw [hRn.len]; omega)⟩
           have hRs := hRn.swap hp1 hp2 (by omega) (by omega)
           have q1 : wr.cell? ⟨bt, 256 + y1, none⟩ = some (.int .i64 (p1 : Int)) := by rw [hT.cell]; exact nts_get hp1
           have q2 : wr.cell? ⟨bt, 256 + y2, none⟩ = some (.int .i64 (p2 : Int)) := by rw [hT.cell]; exact nts_get hp2
           have hT2 := (hT.set (256 + y1) (.int .i64 (p2 : Int))).set (256 + y2) (.int .i64 (p1 : Int))
           rw [nts_set, nts_set] at hT2
           have z1 := hT.frozen (256 + y1)
           have z2 := hT.frozen (256 + y2)
           have hOs := (hOr.setCell (p := ⟨bt, 256 + y1, none⟩) (.inr hbt2) (.int .i64 (p2 : Int))).setCell (p := ⟨bt, 256 + y2, none⟩) (.inr hbt2) (.int .i64 (p1 : Int))
           have q3 : ∃ v, (wr.setCell ⟨bt, 256 + y1, none⟩ (.int .i64 (p2 : Int))).cell? ⟨bt, 256 + y2, none⟩ = some v := by
             have hb2 := hT.set (256 + y1) (.int .i64 (p2 : Int))
             rw [nts_set] at hb2
             exact ⟨_, by rw [hb2.cell]; exact List.getElem?_eq_getElem (by simp [nts, hRn.len]; omega)⟩
           obtain ⟨v3, q3⟩ := q3
           obtain ⟨a1, ha1⟩ : ∃ a, a = 256 + y1 := ⟨_, rfl⟩
           obtain ⟨a2, ha2⟩ : ∃ a, a = 256 + y2 := ⟨_, rfl⟩
           have ha1' : (256 : Int) + (y1 : Int) = (a1 : Int) := by omega
           have ha2' : (256 : Int) + (y2 : Int) = (a2 : Int) := by omega
           rw [← ha1] at hRs q1 hT2 z1 hOs q3
           rw [← ha2] at hRs q2 hT2 z2 hOs q3
           have ha1n : a1 < i0 := by have := HN.out; omega
           have ha2n : a2 < i0 := by have := HN.out; omega
           have Hwi1 := Lib.hid hwi1
           have Hwi2 := Lib.hid hwi2
           have HRs := Lib.hid hRs
           have HT2 := Lib.hid hT2
           have HOs := Lib.hid hOs
           clear hwi1 hwi2 hy1 hy2 hp1 hp2 hRs hT hT2 hOs ha1 ha2 hRn hx1 hx2 hrd b1 b2 hOr
           go_wp2_with (fail)
           refine Hwi1.out.mono ?_
           rintro e wr' ⟨rfl, rfl⟩
           go_wp2_with (fail)
           refine Hwi2.out.mono ?_
           rintro e wr' ⟨rfl, rfl⟩
           go_wp2_with (fail)
           go_roundw
           case rel => exact ⟨i + 2, _, by go_num, by omega, HRs.out, HT2.out, HOs.out⟩
           case measure => simp [intOf]; omega
         · have hgg : ¬ (i : Int) + 1 < (ns : Int) ∨ ((i : Int) + 1 < (ns : Int) ∧ ¬ (i : Int) < 40) := by omega
           have HRn := Lib.hid hRn
           have HT := Lib.hid hT
           have HOr := Lib.hid hOr
           clear hT hOr hRn hgo
           rcases hgg with hgg | ⟨hgg, hgh⟩
           all_goals
             go_wp2_with (fail)
             go_meet
             case rel => exact ⟨T, HRn.out, HT.out, HOr.out⟩
      case rest =>
      clear HRn HT HOr
      obtain ⟨T, hRn, hT, hOr⟩ := hcut
      rename_i wc _ _ _
      have HRn := Lib.hid hRn
      have HT := Lib.hid hT
      have HOr := Lib.hid hOr
      have hTl : T.length = i0 := by rw [hRn.len, HN.out]
      have HTl := Lib.hid hTl
      have hOh := HO2.out.trans hOr
      clear hT hOr hRn hTl
      have hsk : ∀ W, Only [] wc W → W.cell? ⟨h, 0, none⟩ = some (.slice A0 n0 c0) ∧ W.cell? ⟨h, 1, none⟩ = some (.slice A1 n0 c1) ∧ W.cell? ⟨h, 2, none⟩ = some (.slice A2 n2 c2) ∧ W.cell? ⟨h, 3, none⟩ = some (.slice A3 n3 c3) ∧ W.cell? ⟨h, 4, none⟩ = some (.slice A4 n4 c4) := fun W hw => KS.out W (hOh.trans hw)
      have HSK := Lib.hid hsk
      obtain ⟨k0, k1, k2, k3, k4⟩ := hsk wc (.refl _ _)
      clear hsk hOh
      have hmk2 := fun W => run_make_rep1 (P := Try.prog) 22 9 (.string .empty) 16 Try.underlying22 (by kernel_rfl) rfl .i64 .i64 n0 n0 (Nat.le_refl _) (by omega) (by omega) W
      go_upto_region 20 with (fail)
      go_cut [19] (fun s wx => ∃ be bw, s = .pointer (some ⟨be, 0, none⟩) ∧ Blk wx be 26 [.slice (some ⟨bw, 0, none⟩) n0 n0, .slice none 0 0, .slice A2 n2 c2, .slice A3 n3 c3, .slice A4 n4 c4] ∧ Blk wx bw 9 (wds (List.replicate n0 .empty)) ∧ wc.heap.size ≤ be ∧ wc.heap.size ≤ bw ∧ Only [] wc wx)
      case first =>
        have hrp : (Array.replicate n0 (Value.string ByteArray.empty)).toList = wds (List.replicate n0 .empty) := by simp [wds]
        have Hrp := Lib.hid hrp
        clear hrp
        go_region_held3 (fun W => (W.cell? ⟨h, 0, none⟩ = some (.slice A0 n0 c0) ∧ W.cell? ⟨h, 1, none⟩ = some (.slice A1 n0 c1) ∧ W.cell? ⟨h, 2, none⟩ = some (.slice A2 n2 c2) ∧ W.cell? ⟨h, 3, none⟩ = some (.slice A3 n3 c3) ∧ W.cell? ⟨h, 4, none⟩ = some (.slice A4 n4 c4)) ∧ Only [] wc W)
          (first | exact (fun (h : Only [] wc _) => And.intro (HSK.out _ h) h) (by first | assumption | ((repeat (first | with_reducible apply Only.drew | with_reducible apply Only.alloc)); first | exact Only.refl _ _ | assumption)))
          (fail)
        · go_wp2_with (fail)
          go_meet
          case rel => exact ⟨wc.heap.size + 1, wc.heap.size, rfl, Blk.new' _ _ _ (by simp) rfl, (Blk.new' _ _ _ rfl Hrp.out).alloc _, by omega, by omega, (((Only.refl _ _).alloc _).alloc _).drew⟩
        · go_wp2_with (fail)
          go_meet
          case rel => exact ⟨wc.heap.size, wc.heap.size + 1, rfl, (Blk.new' _ _ _ rfl rfl).alloc _, Blk.new' _ _ _ (by simp) Hrp.out, by omega, by omega, (((Only.refl _ _).alloc _).alloc _).drew⟩
      case rest =>
      obtain ⟨be, bw, rfl, hbe, hbw, hge, hgw, hOd⟩ := hcut
      rename World => wd
      have hbtw := HT.out.lt
      have hc2 := HOr.out.size
      have hO2d := HOr.out.trans hOd
      have hT3 := HT.out.only hOd (by simp)
      have HTd := Lib.hid hT3
      have HO2d := Lib.hid hO2d
      have hew : be ≠ bw := hbe.ne hbw (by decide)
      have Hew := Lib.hid hew
      have HBe := Lib.hid hbe
      have HSK0 := Lib.hid (fun W (hw : Only [] W2 W) => KS.out W (HO2.out.trans hw))
      have Hhh := Lib.hid hh2
      have Hab := Lib.hid (And.intro hge (And.intro hgw (And.intro hbtw hc2)))
      clear hOd k0 k1 k2 k3 k4 hmk2 HOr hT3 HT HSK hbe hew hO2d hh2 hge hgw hbtw hc2
      go_wp2_with (fail)
      go_loopw [20] (fun vi wr => ∃ (i : Nat) (xs : List ByteArray), vi = .int .i64 (i : Int) ∧ i ≤ n0 ∧ xs.length = n0 ∧ Hid (∀ (j : Nat) (s : ByteArray) (v : Nat), j < i → ws[j]? = some s → T[256 + j]? = some v → xs[v - 256]? = some s) ∧ Blk wr bw 9 (wds xs) ∧ Only [bw] wd wr) (fun vi _ => n0 - (intOf vi).toNat)
      case atStart => exact ⟨0, List.replicate n0 .empty, rfl, by omega, by simp, Lib.hid (fun _ _ _ h => absurd h (by omega)), hbw, .refl _ _⟩
      case round =>
        clear hbw
        obtain ⟨i, xs, rfl, hi, hxl, hmv, hbx, hOx⟩ := hrel
        obtain ⟨hge, hgw, hbtw, hc2⟩ := Hab.out
        have hO2x : Only [] W2 wr := HO2d.out.trans' hOx (by simp; omega)
        by_cases hlt : i < n0
        · obtain ⟨s, hs⟩ : ∃ s, ws[i]? = some s := ⟨_, List.getElem?_eq_getElem (by rw [← N0.out]; exact hlt)⟩
          obtain ⟨v, hv⟩ : ∃ v, T[256 + i]? = some v := ⟨_, List.getElem?_eq_getElem (by rw [HTl.out, HN.out]; omega)⟩
          obtain ⟨hv1, hv2⟩ := HRn.out.hi (256 + i) v (by omega) hv
          obtain ⟨p, hp⟩ : ∃ p, p = v - 256 := ⟨_, rfl⟩
          have hmv2 : Hid (∀ (j : Nat) (s' : ByteArray) (v' : Nat), j < i + 1 → ws[j]? = some s' → T[256 + j]? = some v' → (xs.set p s)[v' - 256]? = some s') := Lib.hid (by
            intro j s' v' hj hs' hv'
            by_cases e : j = i
            · subst e
              rw [hs] at hs'; rw [hv] at hv'
              obtain rfl := Option.some.inj hs'
              obtain rfl := Option.some.inj hv'
              rw [← hp, List.getElem?_set_self (by omega)]
            · have hv3 := HRn.out.hi (256 + j) v' (by omega) hv'
              have hne : ¬ p = v' - 256 := fun e2 => e (by
                obtain rfl : v' = v := by omega
                have := HRn.out.inj _ _ _ hv' hv
                omega)
              rw [List.getElem?_set_ne hne]
              exact hmv.out j s' v' (by omega) hs' hv')
          have hrd := (HR1.out.only (HO2.out.trans hO2x)).r0
          obtain ⟨A0', c0', e0, -, hrd⟩ := hrd
          injection e0 with e01 e02 e03
          clear e02
          subst e01 e03
          obtain ⟨ga, oa, rfl, -, c1⟩ := hrd.wd hs
          have hTr := HTd.out.only hOx (by simp; omega)
          obtain ⟨k, hk⟩ : ∃ k, k = 256 + i := ⟨_, rfl⟩
          rw [← hk] at hv
          have c2' : wr.cell? ⟨bt, k, none⟩ = some (.int .i64 (v : Int)) := by rw [hTr.cell]; exact nts_get hv
          have c3' : wr.cell? ⟨be, 0, none⟩ = some (.slice (some ⟨bw, 0, none⟩) n0 n0) := (HBe.out.only hOx (by simp; exact Hew.out)).cell 0
          obtain ⟨k0, -, -, -, -⟩ := HSK0.out wr hO2x
          have hw1 : IntKind.i64.wrap (256 + (i : Int)) = (k : Int) := by rw [IntWalk.i64_in _ (by omega)]; omega
          have hw2 : IntKind.i64.wrap ((v : Int) - 256) = (p : Int) := by rw [IntWalk.i64_in _ (by omega)]; omega
          have hkn : k < i0 := by have := HN.out; omega
          have hpn : p < n0 := by omega
          have hbx2 := hbx.set p (.string s)
          have hws : (wds xs).set p (.string s) = wds (xs.set p s) := by simp [wds, List.map_set]
          rw [hws] at hbx2
          have hOx2 := hOx.setCell (p := ⟨bw, p, none⟩) (.inl (by simp)) (.string s)
          obtain ⟨z, hz⟩ : ∃ z, wr.cell? ⟨bw, p, none⟩ = some z := ⟨_, by rw [hbx.cell]; exact List.getElem?_eq_getElem (by rw [wds_length, hxl]; exact hpn)⟩
          have hzf := hbx.frozen p
          have hxl2 : (xs.set p s).length = n0 := by rw [List.length_set]; exact hxl
          have Hbx2 := Lib.hid hbx2
          have HOx2 := Lib.hid hOx2
          have Hxl2 := Lib.hid hxl2
          clear hv1 hv2 hs hv hp hmv hrd hTr hbx hws hbx2 hOx hOx2 hxl hxl2 hk hO2x
          go_wp2_with (fail)
          go_still_tail 14, (by kernel_rfl)
          clear hw1 hw2
          go_wp2_with (fail)
          go_roundw
          case rel => exact ⟨i + 1, _, by go_num, by omega, Hxl2.out, hmv2, Hbx2.out, HOx2.out.drew⟩
          case measure => simp [intOf]; omega
        · obtain rfl : i = n0 := by omega
          have hmd : Moved i T ws xs := ⟨hxl, fun j s v hs hv => hmv.out j s v (by have := (List.getElem?_eq_some_iff.1 hs).1; rw [← N0.out] at this; exact this) hs hv⟩
          have hlt' : ¬ (i : Int) < (i : Int) := by omega
          have hBe := HBe.out.only hOx (by simp; exact Hew.out)
          have hTe := HTd.out.only hOx (by simp; omega)
          have Hmd := Lib.hid hmd
          have HO3 := Lib.hid hO2x
          have HBe2 := Lib.hid hBe
          have HTe := Lib.hid hTe
          have Hbx := Lib.hid hbx
          clear hmd hBe hTe hbx hOx hmv hxl hlt hO2x HBe HTd HO2d
          rename World => we
          obtain ⟨B, hB⟩ : ∃ B, B = we.heap.size := ⟨_, rfl⟩
          have HB := Lib.hid hB
          have Hpi := Lib.hid (parts_in HF.out)
          clear hB
          go_wp2_with (fail)
          go_loopw [21] (fun vi wr => ∃ (k : Nat) (v : Value), vi = .int .i64 (k : Int) ∧ k ≤ i ∧ wr.ownsRow B 38 3 v k (mgs ((ms.take k).map (rnM T))) ∧ Blk wr be 26 [.slice (some ⟨bw, 0, none⟩) i i, v, .slice A2 n2 c2, .slice A3 n3 c3, .slice A4 n4 c4] ∧ Only [be] we wr) (fun vi _ => i - (intOf vi).toNat)
          case atStart => exact ⟨0, .slice none 0 0, rfl, by omega, ⟨rfl, .inl ⟨rfl, rfl⟩⟩, HBe2.out, .refl _ _⟩
          case round =>
            obtain ⟨k, v, rfl, hk, hown, hbe, hOq⟩ := hrel
            have hO2q : Only [] W2 wr := HO3.out.trans' hOq (by simp; omega)
            obtain ⟨-, j1, -, -, -⟩ := HSK0.out wr hO2q
            by_cases hlt : k < i
            · obtain ⟨m, hm⟩ : ∃ m, ms[k]? = some m := ⟨_, List.getElem?_eq_getElem (by rw [← N1.out]; exact hlt)⟩
              obtain ⟨g1, g2, g3⟩ := Hpi.out m (List.mem_of_getElem? hm)
              rw [← N0.out] at g1 g2 g3
              obtain ⟨t1, ht1, et1, -⟩ := HRn.out.at_ g1.1 g1.2
              obtain ⟨t2, ht2, et2, -⟩ := HRn.out.at_ g2.1 g2.2
              obtain ⟨t3, ht3, et3, -⟩ := HRn.out.at_ (x := m.id) (by omega) g3.2
              have henc : (rnM T m).enc = [.int .i64 (t1 : Int), .int .i64 (t2 : Int), .int .i64 (t3 : Int)] := by
                show [Value.int .i64 (rn T m.l), .int .i64 (rn T m.r), .int .i64 (rn T m.id)] = _
                rw [et1, et2, et3]
              have hsn : mgs ((ms.take (k + 1)).map (rnM T)) = mgs ((ms.take k).map (rnM T)) ++ [.int .i64 (t1 : Int), .int .i64 (t2 : Int), .int .i64 (t3 : Int)] := by
                rw [take_snoc' hm, List.map_append, ← henc]
                simp [mgs]
              have hrd := (HR1.out.only (HO2.out.trans hO2q)).r1
              obtain ⟨A1', c1', e0, -, hrd⟩ := hrd
              injection e0 with e01 e02 e03
              clear e02
              subst e01 e03
              obtain ⟨ga, oa, rfl, -, q0, q1, q2⟩ := hrd.mg hm
              obtain ⟨ml, mr, mid⟩ := m
              simp only at g1 g2 g3 ht1 ht2 ht3 q0 q1 q2
              obtain ⟨ln, rfl⟩ : ∃ n : Nat, ml = (n : Int) := ⟨ml.toNat, by omega⟩
              obtain ⟨rn', rfl⟩ : ∃ n : Nat, mr = (n : Int) := ⟨mr.toNat, by omega⟩
              obtain ⟨dn, rfl⟩ : ∃ n : Nat, mid = (n : Int) := ⟨mid.toNat, by omega⟩
              rw [Int.toNat_natCast] at ht1 ht2 ht3
              have b1 : ln < i0 := by have := HN.out; omega
              have b2 : rn' < i0 := by have := HN.out; omega
              have b3 : dn < i0 := by have := HN.out; omega
              obtain ⟨bx, hbx⟩ : ∃ x, x = wr.heap.size := ⟨_, rfl⟩
              obtain ⟨W6, hW6⟩ : ∃ W6, W6 = wr.alloc (.cells #[.int .i64 (ln : Int), .int .i64 (rn' : Int), .int .i64 (dn : Int)] 38) := ⟨_, rfl⟩
              have hx6 : Blk W6 bx 38 [.int .i64 (ln : Int), .int .i64 (rn' : Int), .int .i64 (dn : Int)] := by rw [hW6]; exact Blk.new' _ _ _ hbx.symm rfl
              have hO6 : Only [] wr W6 := by rw [hW6]; exact (Only.refl _ _).alloc _
              have hbt' : Blk wr bt 3 (nts T) := HTe.out.only hOq (by simp; omega)
              have hT6 := hbt'.only hO6 (by simp)
              have he6 := hbe.only hO6 (by simp)
              have ho6 := own_only hown hO6 (by simp)
              have hB6 : B ≤ W6.heap.size := by rw [HB.out]; exact Nat.le_trans hOq.size hO6.size
              have hOw6 := hOq.trans' hO6 (by simp)
              have x0 : W6.cell? ⟨bx, 0, none⟩ = some (.int .i64 (ln : Int)) := hx6.cell 0
              have x1 : W6.cell? ⟨bx, 1, none⟩ = some (.int .i64 (rn' : Int)) := hx6.cell 1
              have x2 : W6.cell? ⟨bx, 2, none⟩ = some (.int .i64 (dn : Int)) := hx6.cell 2
              have y0 : W6.cell? ⟨bt, ln, none⟩ = some (.int .i64 (t1 : Int)) := by rw [hT6.cell]; exact nts_get ht1
              have y1 : W6.cell? ⟨bt, rn', none⟩ = some (.int .i64 (t2 : Int)) := by rw [hT6.cell]; exact nts_get ht2
              have y2 : W6.cell? ⟨bt, dn, none⟩ = some (.int .i64 (t3 : Int)) := by rw [hT6.cell]; exact nts_get ht3
              have z0 : W6.cell? ⟨be, 1, none⟩ = some v := he6.cell 1
              have z1 : ∀ o, (W6.alloc o).cell? ⟨be, 1, none⟩ = some v := fun o => (he6.alloc o).cell 1
              have Hbx' := Lib.hid hbx
              have HW6 := Lib.hid hW6
              have Hsn := Lib.hid hsn
              have He6 := Lib.hid he6
              have Ho6 := Lib.hid ho6
              have Ho9 := Lib.hid hown
              have HT6 := Lib.hid hT6
              have HOw6 := Lib.hid hOw6
              clear hm g1 g2 g3 ht1 ht2 ht3 et1 et2 et3 henc hsn hrd hbx hW6 hx6 hO6 hbt' hT6 he6 ho6 hOw6 hown hbe hOq hO2q
              go_upto_region 29 with (fail)
              rw [← Hbx'.out, ← HW6.out]
              clear j1 q0 q1 q2
              refine name_it (p := fun y => Code.wp _ _ _ y _) ?_
              intro a0 H0
              have hs0 : a0 = actN 242 (fun k => a0.tmps.getD k undef) := actN_of (by rw [H0.out]; rfl) (by rw [H0.out])
              obtain ⟨U, hU⟩ : ∃ U : Nat → Value, U = fun k => a0.tmps.getD k undef := ⟨_, rfl⟩
              have u13 : U 13 = .slice (some ⟨bt, 0, none⟩) i0 i0 := by rw [hU, H0.out]; rfl
              have u19 : U 19 = .pointer (some ⟨be, 0, none⟩) := by rw [hU, H0.out]; rfl
              have u22 : U 22 = .pointer (some ⟨bx, 0, none⟩) := by rw [hU, H0.out]; rfl
              rw [← hU] at hs0
              rw [hs0]
              have HU := Lib.hid hU
              have Hs0 := Lib.hid hs0
              clear hU hs0 z1
              obtain ⟨VL, hVL⟩ : ∃ VL : List Value, VL = [.pointer (some ⟨be, 1, none⟩), v, .slice (some ⟨bt, 0, none⟩) i0 i0, .pointer (some ⟨bx, 0, none⟩), .int .i64 (ln : Int), .pointer (some ⟨bt, ln, none⟩), .int .i64 (t1 : Int), .slice (some ⟨bt, 0, none⟩) i0 i0, .pointer (some ⟨bx, 1, none⟩), .int .i64 (rn' : Int), .pointer (some ⟨bt, rn', none⟩), .int .i64 (t2 : Int), .slice (some ⟨bt, 0, none⟩) i0 i0, .pointer (some ⟨bx, 2, none⟩), .int .i64 (dn : Int), .pointer (some ⟨bt, dn, none⟩), .int .i64 (t3 : Int), .agg #[.int .i64 (t1 : Int), .int .i64 (t2 : Int), .int .i64 (t3 : Int)], undef, undef, .pointer (some ⟨be, 1, none⟩)] := ⟨_, rfl⟩
              obtain ⟨p18, hp18⟩ : ∃ p : (Nat → Value) → World → Prop, p = fun T w => ∃ g, T 163 = .slice (some ⟨g, 0, none⟩) 1 1 ∧ W6.heap.size ≤ g ∧ Blk w g 38 [.int .i64 (t1 : Int), .int .i64 (t2 : Int), .int .i64 (t3 : Int)] := ⟨_, rfl⟩
              obtain ⟨p19, hp19⟩ : ∃ p : (Nat → Value) → World → Prop, p = fun Z w => ∃ A' cc, Z 164 = .slice A' (k + 1) cc ∧ w.ownsRow B 38 3 (.slice A' (k + 1) cc) (k + 1) (mgs ((ms.take k).map (rnM T)) ++ [.int .i64 (t1 : Int), .int .i64 (t2 : Int), .int .i64 (t3 : Int)]) ∧ Only v.ownBlock.toList W6 w := ⟨_, rfl⟩
              obtain ⟨p21, hp21⟩ : ∃ p : (Nat → Value) → World → Prop, p = fun Z w => ∃ A' cc, w.ownsRow B 38 3 (.slice A' (k + 1) cc) (k + 1) (mgs ((ms.take k).map (rnM T)) ++ [.int .i64 (t1 : Int), .int .i64 (t2 : Int), .int .i64 (t3 : Int)]) ∧ Blk w be 26 [.slice (some ⟨bw, 0, none⟩) i i, .slice A' (k + 1) cc, .slice A2 n2 c2, .slice A3 n3 c3, .slice A4 n4 c4] ∧ Only (be :: v.ownBlock.toList) W6 w := ⟨_, rfl⟩
              obtain ⟨X, hX⟩ : ∃ X : Nat → Option ((Nat → Value) → World → Prop), X = fun j => if j = 18 then some p18 else if j = 19 then some p19 else if j = 21 then some p21 else none := ⟨_, rfl⟩
              have X18 : X 18 = some p18 := by rw [hX]; rfl
              have X19 : X 19 = some p19 := by rw [hX]; rfl
              have X21 : X 21 = some p21 := by rw [hX]; rfl
              have Xn : ∀ j, j ≠ 18 → j ≠ 19 → j ≠ 21 → X j = none := fun j h1 h2 h3 => by rw [hX]; simp [h1, h2, h3]
              have hvl : VL.length = 21 := by rw [hVL]; rfl
              have hXup : ∀ (Z Z' : Nat → Value) (w w' : World) (j : Nat) (p : (Nat → Value) → World → Prop), X j = some p → j < 21 → Z' (145 + j) = Z (145 + j) → Only [] w w' → p Z w → p Z' w' := by
                intro Z Z' w w' j p hj hlt hZ hO hp
                rw [hX] at hj
                simp only at hj
                split at hj
                · rename_i e; subst e; cases hj; rw [hp18] at hp ⊢; obtain ⟨g, e1, e2, e3⟩ := hp; exact ⟨g, hZ.trans e1, e2, e3.only hO (by simp)⟩
                · split at hj
                  · rename_i e; subst e; cases hj; rw [hp19] at hp ⊢; obtain ⟨A', cc, e1, e2, e3⟩ := hp; exact ⟨A', cc, hZ.trans e1, own_only e2 hO (by simp), e3.trans' hO (by simp)⟩
                  · split at hj
                    · omega
                    · cases hj
              have hXlt : ∀ (L : Nat → Prop) j p, ¬ L 21 → L j → X j = some p → j < 21 := by
                intro L j p h21 hL hj
                rw [hX] at hj
                simp only at hj
                split at hj
                · omega
                · split at hj
                  · omega
                  · split at hj
                    · rename_i e; subst e; exact absurd hL h21
                    · cases hj
              have hinj : ∀ j j', j < 21 → j' < 21 → 145 + j = 145 + j' → j = j' := by intro j j' _ _ h; omega
              have lt22 : ∀ i, i < 22 → i = 0 ∨ i = 1 ∨ i = 2 ∨ i = 3 ∨ i = 4 ∨ i = 5 ∨ i = 6 ∨ i = 7 ∨ i = 8 ∨ i = 9 ∨ i = 10 ∨ i = 11 ∨ i = 12 ∨ i = 13 ∨ i = 14 ∨ i = 15 ∨ i = 16 ∨ i = 17 ∨ i = 18 ∨ i = 19 ∨ i = 20 ∨ i = 21 := by intro i hi; omega
              refine wp_region_invS (by kernel_rfl) (by kernel_rfl) (RegI 242 21 (slO 21 (fun j => 145 + j)) (RD (fun j => 145 + j) VL X) U (fun L w => ¬ L 19 → Only [] W6 w)) ⟨U, rfl, fun _ _ => rfl, fun _ => (Only.refl _ _).drew, .inl ⟨fun h => h, fun _ h => h.elim⟩⟩ ?_ ?_
              · intro L x w i o hsh hI ho hL hd K hK
                have hi : i < 22 := (List.getElem?_eq_some_iff.1 ho).1
                obtain ⟨Z, rfl, hZU, hR, ⟨h21, hD⟩ | ⟨hall, -⟩⟩ := hI
                rotate_left
                · exact absurd (hall i (by omega)) hL
                have w13 : Z 13 = U 13 := hZU 13 (fun j hj => by unfold slO; split <;> simp <;> omega)
                have w19 : Z 19 = U 19 := hZU 19 (fun j hj => by unfold slO; split <;> simp <;> omega)
                have w22 : Z 22 = U 22 := hZU 22 (fun j hj => by unfold slO; split <;> simp <;> omega)
                rw [u13] at w13
                rw [u19] at w19
                rw [u22] at w22
                have ch18 : L 19 → L 18 := fun h => hsh 19 (h) _ ⟨18, .data⟩ rfl (by simp) (by rfl)
                have ch1 : L 19 → L 1 := fun h => hsh 19 (h) _ ⟨1, .data⟩ rfl (by simp) (by rfl)
                have ch17 : L 19 → L 17 := fun h => hsh 18 (ch18 h) _ ⟨17, .data⟩ rfl (by simp) (by rfl)
                have ch6 : L 19 → L 6 := fun h => hsh 17 (ch17 h) _ ⟨6, .data⟩ rfl (by simp) (by rfl)
                have ch11 : L 19 → L 11 := fun h => hsh 17 (ch17 h) _ ⟨11, .data⟩ rfl (by simp) (by rfl)
                have ch16 : L 19 → L 16 := fun h => hsh 17 (ch17 h) _ ⟨16, .data⟩ rfl (by simp) (by rfl)
                have ch5 : L 19 → L 5 := fun h => hsh 6 (ch6 h) _ ⟨5, .data⟩ rfl (by simp) (by rfl)
                have ch10 : L 19 → L 10 := fun h => hsh 11 (ch11 h) _ ⟨10, .data⟩ rfl (by simp) (by rfl)
                have ch15 : L 19 → L 15 := fun h => hsh 16 (ch16 h) _ ⟨15, .data⟩ rfl (by simp) (by rfl)
                have ch4 : L 19 → L 4 := fun h => hsh 5 (ch5 h) _ ⟨4, .data⟩ rfl (by simp) (by rfl)
                have ch9 : L 19 → L 9 := fun h => hsh 10 (ch10 h) _ ⟨9, .data⟩ rfl (by simp) (by rfl)
                have ch14 : L 19 → L 14 := fun h => hsh 15 (ch15 h) _ ⟨14, .data⟩ rfl (by simp) (by rfl)
                rcases lt22 i hi with rfl | rfl | rfl | rfl | rfl | rfl | rfl | rfl | rfl | rfl | rfl | rfl | rfl | rfl | rfl | rfl | rfl | rfl | rfl | rfl | rfl | rfl
                all_goals
                  simp only [List.getElem?_cons_succ, List.getElem?_cons_zero, Option.some.injEq] at ho
                  subst ho
                  clear hi
                · have f := actN_at (n := 242) w19 (by omega)
                  go_simp
                  rw [actN_set]
                  refine hK _ _ (RegI.step 0 (.pointer (some ⟨be, 1, none⟩)) hinj hvl (by omega) hL h21 hD hZU (fun h => hR (fun h2 => h (.inl h2))) (fun j p h1 h2 h3 h4 => hXup Z _ w w j p h2 (hXlt L j p h21 h1 h2) (h3 (hXlt L j p h21 h1 h2)) (Only.refl _ _) h4) (RD.of_val (Xn 0 (by omega) (by omega) (by omega)) (by rw [updN_self, hVL]; rfl)))
                · have e0 : Z 145 = .pointer (some ⟨be, 1, none⟩) := (hD 0 (hd ⟨0, .data⟩ (by simp) (by rfl))).val (Xn 0 (by omega) (by omega) (by omega)) (by rw [hvl]; omega) rfl (by rw [hVL]; rfl)
                  have hO := hR (fun h => hL (ch1 h))
                  have c := hO.cellv z0 (by simp)
                  have f0 := actN_at (n := 242) e0 (by omega)
                  go_simp
                  rw [actN_set]
                  refine hK _ _ (RegI.step 1 (v) hinj hvl (by omega) hL h21 hD hZU (fun h => hR (fun h2 => h (.inl h2))) (fun j p h1 h2 h3 h4 => hXup Z _ w w j p h2 (hXlt L j p h21 h1 h2) (h3 (hXlt L j p h21 h1 h2)) (Only.refl _ _) h4) (RD.of_val (Xn 1 (by omega) (by omega) (by omega)) (by rw [updN_self, hVL]; rfl)))
                · have f := actN_at (n := 242) w13 (by omega)
                  go_simp
                  rw [actN_set]
                  refine hK _ _ (RegI.step 2 (.slice (some ⟨bt, 0, none⟩) i0 i0) hinj hvl (by omega) hL h21 hD hZU (fun h => hR (fun h2 => h (.inl h2))) (fun j p h1 h2 h3 h4 => hXup Z _ w w j p h2 (hXlt L j p h21 h1 h2) (h3 (hXlt L j p h21 h1 h2)) (Only.refl _ _) h4) (RD.of_val (Xn 2 (by omega) (by omega) (by omega)) (by rw [updN_self, hVL]; rfl)))
                · have f := actN_at (n := 242) w22 (by omega)
                  go_simp
                  rw [actN_set]
                  refine hK _ _ (RegI.step 3 (.pointer (some ⟨bx, 0, none⟩)) hinj hvl (by omega) hL h21 hD hZU (fun h => hR (fun h2 => h (.inl h2))) (fun j p h1 h2 h3 h4 => hXup Z _ w w j p h2 (hXlt L j p h21 h1 h2) (h3 (hXlt L j p h21 h1 h2)) (Only.refl _ _) h4) (RD.of_val (Xn 3 (by omega) (by omega) (by omega)) (by rw [updN_self, hVL]; rfl)))
                · have e3 : Z 148 = .pointer (some ⟨bx, 0, none⟩) := (hD 3 (hd ⟨3, .data⟩ (by simp) (by rfl))).val (Xn 3 (by omega) (by omega) (by omega)) (by rw [hvl]; omega) rfl (by rw [hVL]; rfl)
                  have hO := hR (fun h => hL (ch4 h))
                  have c := hO.cellv x0 (by simp)
                  have f3 := actN_at (n := 242) e3 (by omega)
                  go_simp
                  rw [actN_set]
                  refine hK _ _ (RegI.step 4 (.int .i64 (ln : Int)) hinj hvl (by omega) hL h21 hD hZU (fun h => hR (fun h2 => h (.inl h2))) (fun j p h1 h2 h3 h4 => hXup Z _ w w j p h2 (hXlt L j p h21 h1 h2) (h3 (hXlt L j p h21 h1 h2)) (Only.refl _ _) h4) (RD.of_val (Xn 4 (by omega) (by omega) (by omega)) (by rw [updN_self, hVL]; rfl)))
                · have e2 : Z 147 = .slice (some ⟨bt, 0, none⟩) i0 i0 := (hD 2 (hd ⟨2, .data⟩ (by simp) (by rfl))).val (Xn 2 (by omega) (by omega) (by omega)) (by rw [hvl]; omega) rfl (by rw [hVL]; rfl)
                  have e4 : Z 149 = .int .i64 (ln : Int) := (hD 4 (hd ⟨4, .data⟩ (by simp) (by rfl))).val (Xn 4 (by omega) (by omega) (by omega)) (by rw [hvl]; omega) rfl (by rw [hVL]; rfl)
                  have f2 := actN_at (n := 242) e2 (by omega)
                  have f4 := actN_at (n := 242) e4 (by omega)
                  go_simp
                  rw [actN_set]
                  refine hK _ _ (RegI.step 5 (.pointer (some ⟨bt, ln, none⟩)) hinj hvl (by omega) hL h21 hD hZU (fun h => hR (fun h2 => h (.inl h2))) (fun j p h1 h2 h3 h4 => hXup Z _ w w j p h2 (hXlt L j p h21 h1 h2) (h3 (hXlt L j p h21 h1 h2)) (Only.refl _ _) h4) (RD.of_val (Xn 5 (by omega) (by omega) (by omega)) (by rw [updN_self, hVL]; rfl)))
                · have e5 : Z 150 = .pointer (some ⟨bt, ln, none⟩) := (hD 5 (hd ⟨5, .data⟩ (by simp) (by rfl))).val (Xn 5 (by omega) (by omega) (by omega)) (by rw [hvl]; omega) rfl (by rw [hVL]; rfl)
                  have hO := hR (fun h => hL (ch6 h))
                  have c := hO.cellv y0 (by simp)
                  have f5 := actN_at (n := 242) e5 (by omega)
                  go_simp
                  rw [actN_set]
                  refine hK _ _ (RegI.step 6 (.int .i64 (t1 : Int)) hinj hvl (by omega) hL h21 hD hZU (fun h => hR (fun h2 => h (.inl h2))) (fun j p h1 h2 h3 h4 => hXup Z _ w w j p h2 (hXlt L j p h21 h1 h2) (h3 (hXlt L j p h21 h1 h2)) (Only.refl _ _) h4) (RD.of_val (Xn 6 (by omega) (by omega) (by omega)) (by rw [updN_self, hVL]; rfl)))
                · have f := actN_at (n := 242) w13 (by omega)
                  go_simp
                  rw [actN_set]
                  refine hK _ _ (RegI.step 7 (.slice (some ⟨bt, 0, none⟩) i0 i0) hinj hvl (by omega) hL h21 hD hZU (fun h => hR (fun h2 => h (.inl h2))) (fun j p h1 h2 h3 h4 => hXup Z _ w w j p h2 (hXlt L j p h21 h1 h2) (h3 (hXlt L j p h21 h1 h2)) (Only.refl _ _) h4) (RD.of_val (Xn 7 (by omega) (by omega) (by omega)) (by rw [updN_self, hVL]; rfl)))
                · have f := actN_at (n := 242) w22 (by omega)
                  go_simp
                  rw [actN_set]
                  refine hK _ _ (RegI.step 8 (.pointer (some ⟨bx, 1, none⟩)) hinj hvl (by omega) hL h21 hD hZU (fun h => hR (fun h2 => h (.inl h2))) (fun j p h1 h2 h3 h4 => hXup Z _ w w j p h2 (hXlt L j p h21 h1 h2) (h3 (hXlt L j p h21 h1 h2)) (Only.refl _ _) h4) (RD.of_val (Xn 8 (by omega) (by omega) (by omega)) (by rw [updN_self, hVL]; rfl)))
                · have e8 : Z 153 = .pointer (some ⟨bx, 1, none⟩) := (hD 8 (hd ⟨8, .data⟩ (by simp) (by rfl))).val (Xn 8 (by omega) (by omega) (by omega)) (by rw [hvl]; omega) rfl (by rw [hVL]; rfl)
                  have hO := hR (fun h => hL (ch9 h))
                  have c := hO.cellv x1 (by simp)
                  have f8 := actN_at (n := 242) e8 (by omega)
                  go_simp
                  rw [actN_set]
                  refine hK _ _ (RegI.step 9 (.int .i64 (rn' : Int)) hinj hvl (by omega) hL h21 hD hZU (fun h => hR (fun h2 => h (.inl h2))) (fun j p h1 h2 h3 h4 => hXup Z _ w w j p h2 (hXlt L j p h21 h1 h2) (h3 (hXlt L j p h21 h1 h2)) (Only.refl _ _) h4) (RD.of_val (Xn 9 (by omega) (by omega) (by omega)) (by rw [updN_self, hVL]; rfl)))
                · have e7 : Z 152 = .slice (some ⟨bt, 0, none⟩) i0 i0 := (hD 7 (hd ⟨7, .data⟩ (by simp) (by rfl))).val (Xn 7 (by omega) (by omega) (by omega)) (by rw [hvl]; omega) rfl (by rw [hVL]; rfl)
                  have e9 : Z 154 = .int .i64 (rn' : Int) := (hD 9 (hd ⟨9, .data⟩ (by simp) (by rfl))).val (Xn 9 (by omega) (by omega) (by omega)) (by rw [hvl]; omega) rfl (by rw [hVL]; rfl)
                  have f7 := actN_at (n := 242) e7 (by omega)
                  have f9 := actN_at (n := 242) e9 (by omega)
                  go_simp
                  rw [actN_set]
                  refine hK _ _ (RegI.step 10 (.pointer (some ⟨bt, rn', none⟩)) hinj hvl (by omega) hL h21 hD hZU (fun h => hR (fun h2 => h (.inl h2))) (fun j p h1 h2 h3 h4 => hXup Z _ w w j p h2 (hXlt L j p h21 h1 h2) (h3 (hXlt L j p h21 h1 h2)) (Only.refl _ _) h4) (RD.of_val (Xn 10 (by omega) (by omega) (by omega)) (by rw [updN_self, hVL]; rfl)))
                · have e10 : Z 155 = .pointer (some ⟨bt, rn', none⟩) := (hD 10 (hd ⟨10, .data⟩ (by simp) (by rfl))).val (Xn 10 (by omega) (by omega) (by omega)) (by rw [hvl]; omega) rfl (by rw [hVL]; rfl)
                  have hO := hR (fun h => hL (ch11 h))
                  have c := hO.cellv y1 (by simp)
                  have f10 := actN_at (n := 242) e10 (by omega)
                  go_simp
                  rw [actN_set]
                  refine hK _ _ (RegI.step 11 (.int .i64 (t2 : Int)) hinj hvl (by omega) hL h21 hD hZU (fun h => hR (fun h2 => h (.inl h2))) (fun j p h1 h2 h3 h4 => hXup Z _ w w j p h2 (hXlt L j p h21 h1 h2) (h3 (hXlt L j p h21 h1 h2)) (Only.refl _ _) h4) (RD.of_val (Xn 11 (by omega) (by omega) (by omega)) (by rw [updN_self, hVL]; rfl)))
                · have f := actN_at (n := 242) w13 (by omega)
                  go_simp
                  rw [actN_set]
                  refine hK _ _ (RegI.step 12 (.slice (some ⟨bt, 0, none⟩) i0 i0) hinj hvl (by omega) hL h21 hD hZU (fun h => hR (fun h2 => h (.inl h2))) (fun j p h1 h2 h3 h4 => hXup Z _ w w j p h2 (hXlt L j p h21 h1 h2) (h3 (hXlt L j p h21 h1 h2)) (Only.refl _ _) h4) (RD.of_val (Xn 12 (by omega) (by omega) (by omega)) (by rw [updN_self, hVL]; rfl)))
                · have f := actN_at (n := 242) w22 (by omega)
                  go_simp
                  rw [actN_set]
                  refine hK _ _ (RegI.step 13 (.pointer (some ⟨bx, 2, none⟩)) hinj hvl (by omega) hL h21 hD hZU (fun h => hR (fun h2 => h (.inl h2))) (fun j p h1 h2 h3 h4 => hXup Z _ w w j p h2 (hXlt L j p h21 h1 h2) (h3 (hXlt L j p h21 h1 h2)) (Only.refl _ _) h4) (RD.of_val (Xn 13 (by omega) (by omega) (by omega)) (by rw [updN_self, hVL]; rfl)))
                · have e13 : Z 158 = .pointer (some ⟨bx, 2, none⟩) := (hD 13 (hd ⟨13, .data⟩ (by simp) (by rfl))).val (Xn 13 (by omega) (by omega) (by omega)) (by rw [hvl]; omega) rfl (by rw [hVL]; rfl)
                  have hO := hR (fun h => hL (ch14 h))
                  have c := hO.cellv x2 (by simp)
                  have f13 := actN_at (n := 242) e13 (by omega)
                  go_simp
                  rw [actN_set]
                  refine hK _ _ (RegI.step 14 (.int .i64 (dn : Int)) hinj hvl (by omega) hL h21 hD hZU (fun h => hR (fun h2 => h (.inl h2))) (fun j p h1 h2 h3 h4 => hXup Z _ w w j p h2 (hXlt L j p h21 h1 h2) (h3 (hXlt L j p h21 h1 h2)) (Only.refl _ _) h4) (RD.of_val (Xn 14 (by omega) (by omega) (by omega)) (by rw [updN_self, hVL]; rfl)))
                · have e12 : Z 157 = .slice (some ⟨bt, 0, none⟩) i0 i0 := (hD 12 (hd ⟨12, .data⟩ (by simp) (by rfl))).val (Xn 12 (by omega) (by omega) (by omega)) (by rw [hvl]; omega) rfl (by rw [hVL]; rfl)
                  have e14 : Z 159 = .int .i64 (dn : Int) := (hD 14 (hd ⟨14, .data⟩ (by simp) (by rfl))).val (Xn 14 (by omega) (by omega) (by omega)) (by rw [hvl]; omega) rfl (by rw [hVL]; rfl)
                  have f12 := actN_at (n := 242) e12 (by omega)
                  have f14 := actN_at (n := 242) e14 (by omega)
                  go_simp
                  rw [actN_set]
                  refine hK _ _ (RegI.step 15 (.pointer (some ⟨bt, dn, none⟩)) hinj hvl (by omega) hL h21 hD hZU (fun h => hR (fun h2 => h (.inl h2))) (fun j p h1 h2 h3 h4 => hXup Z _ w w j p h2 (hXlt L j p h21 h1 h2) (h3 (hXlt L j p h21 h1 h2)) (Only.refl _ _) h4) (RD.of_val (Xn 15 (by omega) (by omega) (by omega)) (by rw [updN_self, hVL]; rfl)))
                · have e15 : Z 160 = .pointer (some ⟨bt, dn, none⟩) := (hD 15 (hd ⟨15, .data⟩ (by simp) (by rfl))).val (Xn 15 (by omega) (by omega) (by omega)) (by rw [hvl]; omega) rfl (by rw [hVL]; rfl)
                  have hO := hR (fun h => hL (ch16 h))
                  have c := hO.cellv y2 (by simp)
                  have f15 := actN_at (n := 242) e15 (by omega)
                  go_simp
                  rw [actN_set]
                  refine hK _ _ (RegI.step 16 (.int .i64 (t3 : Int)) hinj hvl (by omega) hL h21 hD hZU (fun h => hR (fun h2 => h (.inl h2))) (fun j p h1 h2 h3 h4 => hXup Z _ w w j p h2 (hXlt L j p h21 h1 h2) (h3 (hXlt L j p h21 h1 h2)) (Only.refl _ _) h4) (RD.of_val (Xn 16 (by omega) (by omega) (by omega)) (by rw [updN_self, hVL]; rfl)))
                · have e6 : Z 151 = .int .i64 (t1 : Int) := (hD 6 (hd ⟨6, .data⟩ (by simp) (by rfl))).val (Xn 6 (by omega) (by omega) (by omega)) (by rw [hvl]; omega) rfl (by rw [hVL]; rfl)
                  have e11 : Z 156 = .int .i64 (t2 : Int) := (hD 11 (hd ⟨11, .data⟩ (by simp) (by rfl))).val (Xn 11 (by omega) (by omega) (by omega)) (by rw [hvl]; omega) rfl (by rw [hVL]; rfl)
                  have e16 : Z 161 = .int .i64 (t3 : Int) := (hD 16 (hd ⟨16, .data⟩ (by simp) (by rfl))).val (Xn 16 (by omega) (by omega) (by omega)) (by rw [hvl]; omega) rfl (by rw [hVL]; rfl)
                  have f6 := actN_at (n := 242) e6 (by omega)
                  have f11 := actN_at (n := 242) e11 (by omega)
                  have f16 := actN_at (n := 242) e16 (by omega)
                  go_simp
                  rw [actN_set]
                  refine hK _ _ (RegI.step 17 (.agg #[.int .i64 (t1 : Int), .int .i64 (t2 : Int), .int .i64 (t3 : Int)]) hinj hvl (by omega) hL h21 hD hZU (fun h => hR (fun h2 => h (.inl h2))) (fun j p h1 h2 h3 h4 => hXup Z _ w w j p h2 (hXlt L j p h21 h1 h2) (h3 (hXlt L j p h21 h1 h2)) (Only.refl _ _) h4) (RD.of_val (Xn 17 (by omega) (by omega) (by omega)) (by rw [updN_self, hVL]; rfl)))
                · have e17 : Z 162 = .agg #[.int .i64 (t1 : Int), .int .i64 (t2 : Int), .int .i64 (t3 : Int)] := (hD 17 (hd ⟨17, .data⟩ (by simp) (by rfl))).val (Xn 17 (by omega) (by omega) (by omega)) (by rw [hvl]; omega) rfl (by rw [hVL]; rfl)
                  have f17 := actN_at (n := 242) e17 (by omega)
                  go_simp
                  rw [actN_set]
                  refine hK _ _ (RegI.step 18 (.slice (some ⟨w.heap.size, 0, none⟩) 1 1) hinj hvl (by omega) hL h21 hD hZU (fun h => (hR (fun h2 => h (.inl h2))).alloc _) (fun j p h1 h2 h3 h4 => hXup Z _ w _ j p h2 (hXlt L j p h21 h1 h2) (h3 (hXlt L j p h21 h1 h2)) ((Only.refl _ _).alloc _) h4) (RD.of_x X18 (by rw [hp18]; exact ⟨w.heap.size, updN_self _ _ _, (hR (fun h => hL (ch18 h))).size, Blk.new' _ _ _ rfl rfl⟩)))
                · have e1 : Z 146 = v := (hD 1 (hd ⟨1, .data⟩ (by simp) (by rfl))).val (Xn 1 (by omega) (by omega) (by omega)) (by rw [hvl]; omega) rfl (by rw [hVL]; rfl)
                  have e18 := (hD 18 (hd ⟨18, .data⟩ (by simp) (by rfl))).x X18
                  rw [hp18] at e18
                  obtain ⟨g, e18, hg, hbg⟩ := e18
                  have hO := hR hL
                  rw [if_pos (by simp [Region.wanted])]
                  obtain ⟨v', w', hrun, hown', hO', -, -⟩ := run_append_row (P := Try.prog) (w := w) B 23 23 38 (.agg #[.int .i64 0, .int .i64 0, .int .i64 0]) 3 24 Try.underlying23 (by kernel_rfl) rfl (by omega) (own_only Ho6.out hO (by simp)) 1 (Rd.whole hbg rfl) (by simp [Value.oneCell']) (by simp only [maxLen]; omega) (by omega) (Nat.le_trans hB6 hO.size)
                  refine wp_append_run (.tmp 146) (.tmp 163) 23 23 (by rfl) ((actN_eval _ _ _).trans ((if_pos (by omega)).trans e1)) ((actN_eval _ _ _).trans ((if_pos (by omega)).trans e18)) hrun ?_
                  obtain ⟨A', cc, rfl, -⟩ := own_slice hown'
                  rw [actN_put]
                  have hO3 : Only v.ownBlock.toList W6 w' := (hO.mono (by simp)).trans hO'
                  refine hK _ _ (RegI.step 19 (.slice A' (k + 1) cc) hinj hvl (by omega) hL h21 hD hZU (fun h => absurd (.inr rfl) h) (fun j p h1 h2 h3 h4 => ?_) (RD.of_x X19 (by rw [hp19]; exact ⟨A', cc, updN_self _ _ _, hown', hO3⟩)))
                  have hj21 := hXlt L j p h21 h1 h2
                  have h3 := h3 hj21
                  rw [hX] at h2
                  simp only at h2
                  split at h2
                  · rename_i e; subst e; cases h2; rw [hp18] at h4 ⊢; obtain ⟨g, q1, q2, q3⟩ := h4; exact ⟨g, h3.trans q1, q2, q3.only hO' (fun hm => by have := (own_lt Ho6.out (by simpa using hm)).2; omega)⟩
                  · split at h2
                    · rename_i e; subst e; exact absurd h1 hL
                    · split at h2
                      · omega
                      · cases h2
                · have f := actN_at (n := 242) w19 (by omega)
                  go_simp
                  rw [actN_set]
                  refine hK _ _ (RegI.step 20 (.pointer (some ⟨be, 1, none⟩)) hinj hvl (by omega) hL h21 hD hZU (fun h => hR (fun h2 => h (.inl h2))) (fun j p h1 h2 h3 h4 => hXup Z _ w w j p h2 (hXlt L j p h21 h1 h2) (h3 (hXlt L j p h21 h1 h2)) (Only.refl _ _) h4) (RD.of_val (Xn 20 (by omega) (by omega) (by omega)) (by rw [updN_self, hVL]; rfl)))
                · have e20 : Z 165 = .pointer (some ⟨be, 1, none⟩) := (hD 20 (hd ⟨20, .data⟩ (by simp) (by rfl))).val (Xn 20 (by omega) (by omega) (by omega)) (by rw [hvl]; omega) rfl (by rw [hVL]; rfl)
                  have e19 := (hD 19 (hd ⟨19, .data⟩ (by simp) (by rfl))).x X19
                  rw [hp19] at e19
                  obtain ⟨A', cc, e19, hown4, hO4⟩ := e19
                  have f20 := actN_at (n := 242) e20 (by omega)
                  have f19 := actN_at (n := 242) e19 (by omega)
                  have he4 : Blk w be 26 [.slice (some ⟨bw, 0, none⟩) i i, v, .slice A2 n2 c2, .slice A3 n3 c3, .slice A4 n4 c4] := He6.out.only hO4 (fun hm => own_type Ho6.out (by simpa using hm) He6.out (by decide) rfl)
                  have d4 : w.cell? ⟨be, 1, none⟩ = some v := he4.cell 1
                  have d5 : w.frozen? ⟨be, 1, none⟩ = false := he4.frozen 1
                  have hl19 := hd ⟨19, .data⟩ (by simp) (by rfl)
                  have hS := (Only.refl [be] w).setCell (p := ⟨be, 1, none⟩) (.inl (by simp)) (.slice A' (k + 1) cc)
                  have hne : ∀ q, (Value.slice A' (k + 1) cc).ownBlock = some q → q ∉ [be] := fun q hq hm => own_type hown4 hq he4 (by decide) (by simpa using (List.mem_singleton.1 hm).symm)
                  have Ho5 := Lib.hid (own_only hown4 hS hne)
                  have He5 := Lib.hid (he4.set 1 (.slice A' (k + 1) cc))
                  have HO5 := Lib.hid ((hO4.mono (l' := be :: v.ownBlock.toList) (fun x hx => .inl (by simp at hx ⊢; exact .inr hx))).trans' hS (by simp))
                  clear hS hne hown4 hO4 he4
                  go_simp
                  refine hK _ _ ⟨Z, rfl, hZU, fun h => absurd (.inl hl19) h, .inr ⟨fun j hj => ?_, RD.of_x X21 (by rw [hp21]; exact ⟨A', cc, Ho5.out, He5.out, HO5.out⟩)⟩⟩
                  rcases lt22 j (by omega) with rfl | rfl | rfl | rfl | rfl | rfl | rfl | rfl | rfl | rfl | rfl | rfl | rfl | rfl | rfl | rfl | rfl | rfl | rfl | rfl | rfl | rfl
                  · exact .inl (hd ⟨0, .phase⟩ (by simp) (by rfl))
                  · exact .inl (hd ⟨1, .phase⟩ (by simp) (by rfl))
                  · exact .inl (hd ⟨2, .phase⟩ (by simp) (by rfl))
                  · exact .inl (hd ⟨3, .phase⟩ (by simp) (by rfl))
                  · exact .inl (hd ⟨4, .phase⟩ (by simp) (by rfl))
                  · exact .inl (hd ⟨5, .phase⟩ (by simp) (by rfl))
                  · exact .inl (hd ⟨6, .phase⟩ (by simp) (by rfl))
                  · exact .inl (hd ⟨7, .phase⟩ (by simp) (by rfl))
                  · exact .inl (hd ⟨8, .phase⟩ (by simp) (by rfl))
                  · exact .inl (hd ⟨9, .phase⟩ (by simp) (by rfl))
                  · exact .inl (hd ⟨10, .phase⟩ (by simp) (by rfl))
                  · exact .inl (hd ⟨11, .phase⟩ (by simp) (by rfl))
                  · exact .inl (hd ⟨12, .phase⟩ (by simp) (by rfl))
                  · exact .inl (hd ⟨13, .phase⟩ (by simp) (by rfl))
                  · exact .inl (hd ⟨14, .phase⟩ (by simp) (by rfl))
                  · exact .inl (hd ⟨15, .phase⟩ (by simp) (by rfl))
                  · exact .inl (hd ⟨16, .phase⟩ (by simp) (by rfl))
                  · exact .inl (hd ⟨17, .phase⟩ (by simp) (by rfl))
                  · exact .inl (hd ⟨18, .phase⟩ (by simp) (by rfl))
                  · exact .inl (hd ⟨19, .phase⟩ (by simp) (by rfl))
                  · exact .inl (hd ⟨20, .data⟩ (by simp) (by rfl))
                  · exact .inr rfl
              intro L x w hI hall
              obtain ⟨Z, rfl, hZU, -, ⟨h21, -⟩ | ⟨-, hD⟩⟩ := hI
              · exact absurd (hall 21 (by decide)) h21
              have hF := hD.x X21
              rw [hp21] at hF
              obtain ⟨A4', cc4, ho4, he4, hO64⟩ := hF
              rw [actN_patch (List.range' 145 21) (fun k hk => hZU k (slO_not hk)), ← Hs0.out, H0.out]
              have Ho5 := Lib.hid ho4
              have He5 := Lib.hid he4
              have HO5 := Lib.hid (HOw6.out.trans' hO64 (fun x hx => by
                rcases List.mem_cons.1 hx with rfl | hx
                · exact .inl (by simp)
                · exact .inr (by have h1 := (own_lt Ho6.out (by simpa using hx)).1; have h2 := HB.out; omega)))
              clear ho4 he4 hO64 hD hall hZU u13 u19 u22 hvl hXup hXlt hinj lt22 Xn X18 X19 X21 hX hp18 hp19 hp21 hVL x0 x1 x2 y0 y1 y2 z0
              simp only [List.range', List.foldl_cons, List.foldl_nil, Act.put]
              go_wp2_with (fail)
              go_roundw
              case rel => exact ⟨k + 1, _, by go_num, by omega, by rw [Hsn.out]; exact Ho5.out, He5.out, HO5.out⟩
              case measure => simp [intOf]; omega
            · obtain rfl : k = i := by omega
              have hlt' : ¬ (k : Int) < (k : Int) := by omega
              have hnm : ms.take k = ms := List.take_of_length_le (by rw [N1.out]; exact Nat.le_refl _)
              rw [hnm] at hown
              obtain ⟨Am, cm, rfl, hcm, hrm, -⟩ := own_slice hown
              have Hown := Lib.hid hown
              have Hbe := Lib.hid hbe
              have HOq := Lib.hid hOq
              have HO2q := Lib.hid hO2q
              have e0 : wr.cell? ⟨be, 0, none⟩ = some (.slice (some ⟨bw, 0, none⟩) k k) := hbe.cell 0
              have e1 : wr.cell? ⟨be, 1, none⟩ = some (.slice Am k cm) := hbe.cell 1
              have e2 : wr.cell? ⟨be, 2, none⟩ = some (.slice A2 n2 c2) := hbe.cell 2
              have e3 : wr.cell? ⟨be, 3, none⟩ = some (.slice A3 n3 c3) := hbe.cell 3
              have e4 : wr.cell? ⟨be, 4, none⟩ = some (.slice A4 n4 c4) := hbe.cell 4
              have hml : (ms.map (rnM T)).length = k := by rw [List.length_map]; exact N1.out.symm
              have hxl : xs.length = k := Hmd.out.1
              have hxs : ∀ s ∈ xs, s.size ≤ 256 := fun s hs => by
                obtain ⟨p, hp⟩ := List.mem_iff_getElem?.1 hs
                obtain ⟨j, hj, -⟩ := Hmd.out.back HRn.out N0.out.symm hp
                exact Hwsz.out s (List.mem_of_getElem? hj)
              have hmok : ∀ m ∈ ms.map (rnM T), m.ok := fun m hm => by
                obtain ⟨m0, h0, rfl⟩ := List.mem_map.1 hm
                obtain ⟨g1, g2, g3⟩ := Hpi.out m0 h0
                rw [← N0.out] at g1 g2 g3
                have b1 := HRn.out.bd g1.1 g1.2
                have b2 := HRn.out.bd g2.1 g2.2
                have b3 := HRn.out.bd (x := m0.id) (by omega) g3.2
                unfold Mg.ok i64ok rnM
                simp only
                omega
              have hrd0 := (HR1.out.only (HO2.out.trans hO2q))
              obtain ⟨-, -, ⟨A2', c2', f2, g2, r2⟩, ⟨A3', c3', f3, g3, r3⟩, ⟨A4', c4', f4, g4, r4⟩⟩ := hrd0
              have hR5 : Rd5 wr (.slice (some ⟨bw, 0, none⟩) k k) (.slice Am k cm) (.slice A2 n2 c2) (.slice A3 n3 c3) (.slice A4 n4 c4) xs (ms.map (rnM T)) a b d := by
                have hbx := Hbx.out.only hOq (by simp; exact fun e => Hew.out e.symm)
                refine ⟨⟨_, _, by rw [hxl], Nat.le_of_eq hxl, ?_⟩, ⟨Am, cm, by rw [hml], by rw [hml]; exact hcm, by rw [hml]; exact hrm⟩, ⟨A2', c2', f2, g2, r2⟩, ⟨A3', c3', f3, g3, r3⟩, ⟨A4', c4', f4, g4, r4⟩⟩
                exact (Rd.whole hbx (by rw [wds_length, Nat.mul_one])).more hbx.lt
              have hnew := newM_any wr _ _ _ _ _ xs (ms.map (rnM T)) a b d hR5 (by omega) (by omega) Hs.out.1 Hs.out.2.1 Hs.out.2.2 (fun s hs => Nat.le_trans (hxs s hs) (by decide)) hmok
              have hfm := fault_moved HRn.out N0.out.symm Hmd.out HF.out
              unfold NewPost at hnew
              rw [hfm] at hnew
              simp only [true_and, false_and, or_false, ne_eq, not_true_eq_false] at hnew
              have Hnew := Lib.hid hnew
              clear hnew hfm hnm hown hbe hOq hO2q hcm hrm hml hxl hxs hmok f2 g2 r2 f3 g3 r3 f4 g4 r4 hR5
              go_wp2_with (fail)
              refine Hnew.out.mono ?_
              rintro e W7 ⟨v, rfl, hO7, gk, bk, hbk, rfl, hK⟩
              have HK := Lib.hid hK
              have hT7 := (HTe.out.only HOq.out (by simp; omega)).only hO7 (by simp)
              have HT7 := Lib.hid hT7
              have HO27 := Lib.hid (HO2q.out.trans hO7)
              clear hK hT7 hO7 e0 e1 e2 e3 e4 Hnew HTe HOq HO2q Hown Hbe HBe2 Hbx
              go_upto_region 33 with (fail)
              obtain ⟨W8, hW8⟩ : ∃ W8, W8 = W7.alloc (.cells #[.int .i64 0, .int .i64 0, .int .i64 0] 41) := ⟨_, rfl⟩
              have hO78 : Only [] W7 W8 := by rw [hW8]; exact (Only.refl _ _).alloc _
              have HW8 := Lib.hid hW8
              have hO28 := HO27.out.trans hO78
              have HO8 := Lib.hid (HO02.out.trans hO28)
              have hT8 := HT7.out.only hO78 (by simp)
              have HT8 := Lib.hid hT8
              have HO28 := Lib.hid hO28
              have HO78 := Lib.hid hO78
              clear hW8 hO28 hT8 hO78
              rw [← HW8.out]
              by_cases h1 : lf < 0
              · go_wp2_with (fail)
                refine (known5_any _).mono ?_
                rintro e W10 ⟨rfl, hO10⟩
                go_wp2_with (fail)
                go_ret
                exact ⟨rfl, HO8.out.trans hO10⟩
              by_cases h2 : (i0 : Int) ≤ lf
              · go_wp2_with (fail)
                refine (known5_any _).mono ?_
                rintro e W10 ⟨rfl, hO10⟩
                go_wp2_with (fail)
                go_ret
                exact ⟨rfl, HO8.out.trans hO10⟩
              by_cases h3 : rt < 0
              · go_wp2_with (fail)
                refine (known5_any _).mono ?_
                rintro e W10 ⟨rfl, hO10⟩
                go_wp2_with (fail)
                go_ret
                exact ⟨rfl, HO8.out.trans hO10⟩
              by_cases h4 : (i0 : Int) ≤ rt
              · go_wp2_with (fail)
                refine (known5_any _).mono ?_
                rintro e W10 ⟨rfl, hO10⟩
                go_wp2_with (fail)
                go_ret
                exact ⟨rfl, HO8.out.trans hO10⟩
              obtain ⟨ln, rfl⟩ : ∃ n : Nat, lf = (n : Int) := ⟨lf.toNat, by omega⟩
              obtain ⟨rn', rfl⟩ : ∃ n : Nat, rt = (n : Int) := ⟨rt.toNat, by omega⟩
              have b1 : ln < i0 := by omega
              have b2 : rn' < i0 := by omega
              obtain ⟨t1, ht1, et1, -⟩ := HRn.out.at_ (x := (ln : Int)) (by omega) (by have := HN.out; omega)
              obtain ⟨t2, ht2, et2, -⟩ := HRn.out.at_ (x := (rn' : Int)) (by omega) (by have := HN.out; omega)
              rw [Int.toNat_natCast] at ht1 ht2
              have hlk := look_moved HRn.out (l := (ln : Int)) (r := (rn' : Int)) ⟨by omega, by have := HN.out; omega⟩ ⟨by omega, by have := HN.out; omega⟩ ms 0 (by have := Hpi.out; rw [← N0.out] at this; exact this)
              rw [et1, et2] at hlk
              have tb1 : t1 < i0 := by have := HRn.out.bd (x := (ln : Int)) (by omega) (by have := HN.out; omega); have := HN.out; omega
              have tb2 : t2 < i0 := by have := HRn.out.bd (x := (rn' : Int)) (by omega) (by have := HN.out; omega); have := HN.out; omega
              have hmg := merge_any W8 base gm ws ms a b d _ _ _ (HM.out.only0 HO28.out) (ln : Int) (rn' : Int) (by unfold i64ok; omega) (by unfold i64ok; omega)
              have gM := fun W (hw : Only [] W8 W) => merge_any W bk gk xs (ms.map (rnM T)) a b d _ _ _ (HK.out.only0 (HO78.out.trans hw)) (t1 : Int) (t2 : Int) (by unfold i64ok; omega) (by unfold i64ok; omega)
              rw [hlk] at gM
              obtain ⟨O, hOo⟩ : ∃ O, O = lookM 0 ms ((ln : Int), (rn' : Int)) := ⟨_, rfl⟩
              rw [← hOo] at hmg gM
              have HOo := Lib.hid hOo
              have Hmg := Lib.hid hmg
              have GM := Lib.hid gM
              have y0 := HT8.out.cell ln
              have y1 := HT8.out.cell rn'
              rw [nts_get ht1] at y0
              rw [nts_get ht2] at y1
              have kS : ∀ W, Only [] W8 W → W.cell? ⟨bt, ln, none⟩ = some (.int .i64 (t1 : Int)) ∧ W.cell? ⟨bt, rn', none⟩ = some (.int .i64 (t2 : Int)) := fun W hw => ⟨hw.cellv y0 (by simp), hw.cellv y1 (by simp)⟩
              have KS8 := Lib.hid kS
              clear hlk hmg gM hOo ht1 ht2 et1 et2 kS y0 y1
              go_wp2_with (fail)
              refine Hmg.out.mono ?_
              rintro e W9 ⟨rfl, hO9⟩
              cases O with
              | none =>
                simp only [Option.getD_none, Option.isSome_none, Option.map_none] at GM ⊢
                obtain ⟨y0, y1⟩ := KS8.out W9 hO9
                go_wp2_with (fail)
                go_region_held3 (fun W => (W.cell? ⟨bt, ln, none⟩ = some (.int .i64 (t1 : Int)) ∧ W.cell? ⟨bt, rn', none⟩ = some (.int .i64 (t2 : Int))) ∧ Only [] W9 W)
                  (first | exact ⟨KS8.out _ (hO9.trans ((Only.refl _ _).drew)), (Only.refl _ _).drew⟩ | exact ⟨KS8.out _ (hO9.trans (by assumption)), (by assumption)⟩)
                  (first
                    | (go_at_call 15
                       obtain ⟨-, hF⟩ := (by assumption : _ ∧ Only [] W9 _)
                       refine (GM.out _ (hO9.trans hF)).mono ?_
                       rintro e w1 ⟨rfl, hF1⟩
                       replace hF1 := hF.trans hF1
                       clear hF))
                all_goals
                  have HO1 := Lib.hid (HO8.out.trans (hO9.trans hF1))
                  clear y0 y1 hO9 hF1
                  go_wp2_with (fail)
                  refine (known5_any _).mono ?_
                  rintro e W10 ⟨rfl, hO10⟩
                  go_wp2_with (fail)
                  go_ret
                  exact ⟨rfl, HO1.out.trans hO10⟩
              | some q =>
                obtain ⟨q1, q2⟩ := q
                obtain ⟨m0, hm0, rfl⟩ := lookM_id ms 0 HOo.out.symm
                obtain ⟨-, -, g3⟩ := Hpi.out m0 hm0
                rw [← N0.out] at g3
                obtain ⟨t3, ht3, et3, -⟩ := HRn.out.at_ (x := m0.id) (by omega) g3.2
                simp only [Option.getD_some, Option.isSome_some, Option.map_some] at GM ⊢
                rw [et3] at GM
                obtain ⟨dd, hdd⟩ : ∃ x, x = m0.id := ⟨_, rfl⟩
                rw [← hdd] at ht3 g3 ⊢
                clear hdd et3
                obtain ⟨dn, rfl⟩ : ∃ n : Nat, dd = (n : Int) := ⟨dd.toNat, by omega⟩
                rw [Int.toNat_natCast] at ht3
                have b3 : dn < i0 := by have := HN.out; omega
                have y3 := HT8.out.cell dn
                rw [nts_get ht3] at y3
                have Y3 := Lib.hid y3
                clear ht3 g3 y3
                obtain ⟨y0, y1⟩ := KS8.out W9 hO9
                go_wp2_with (fail)
                go_region_held3 (fun W => (W.cell? ⟨bt, ln, none⟩ = some (.int .i64 (t1 : Int)) ∧ W.cell? ⟨bt, rn', none⟩ = some (.int .i64 (t2 : Int))) ∧ Only [] W9 W)
                  (first | exact ⟨KS8.out _ (hO9.trans ((Only.refl _ _).drew)), (Only.refl _ _).drew⟩ | exact ⟨KS8.out _ (hO9.trans (by assumption)), (by assumption)⟩)
                  (first
                    | (go_at_call 15
                       obtain ⟨-, hF⟩ := (by assumption : _ ∧ Only [] W9 _)
                       refine (GM.out _ (hO9.trans hF)).mono ?_
                       rintro e w1 ⟨rfl, hF1⟩
                       replace hF1 := hF.trans hF1
                       clear hF))
                all_goals
                  have HO1 := Lib.hid (HO8.out.trans (hO9.trans hF1))
                  have y3 : w1.cell? ⟨bt, dn, none⟩ = some (.int .i64 (t3 : Int)) := (hO9.trans hF1).cellv Y3.out (by simp)
                  clear y0 y1 hO9 hF1
                  go_wp2_with (fail)
                  refine (known5_any _).mono ?_
                  rintro e W10 ⟨rfl, hO10⟩
                  go_wp2_with (fail)
                  go_ret
                  exact ⟨rfl, HO1.out.trans hO10⟩
end Go.Proofs.Ytfnhdkabfkjodaa
