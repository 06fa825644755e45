/- Several texts in one: DetokAll.; DetokAll, without replacing.; DetokAll: both modes. -/
import Derived.Test.YtemnanhoiacphaaDoorPk24
import Derived.Test.YtemnanhoiacphaaDoorDtTK
import Derived.Test.YtemnanhoiacphaaDoorWithinK
set_option linter.unusedVariables false
set_option linter.unusedSimpArgs false
set_option maxRecDepth 100000
namespace Go.Proofs.YtemnanhoiacphaaDoor
open Go.RowKit

/-- a number of a list, met at a place -/
theorem Rd.int {w : World} {B n : Nat} {A : Option Addr} {l : List Int} (h : Rd w B 1 A n (l.map (Value.int .i64))) (hl : l.length = n) {i : Nat} (hi : i < n) : ∃ x g o, x ∈ l ∧ A = some ⟨g, o, none⟩ ∧ w.cell? ⟨g, o + i, none⟩ = some (.int .i64 x) := by
  obtain ⟨g, o, u, hA, _, hu, hc⟩ := h.at1 hi
  have hx : l[i]? = some (l[i]'(by omega)) := List.getElem?_eq_getElem _
  rw [List.getElem?_map, hx, Option.map_some] at hu
  injection hu with hu
  subst hu
  exact ⟨_, g, o, List.mem_of_getElem? hx, hA, hc⟩
theorem good_bd {ws : List ByteArray} (hw : ∀ s ∈ ws, s.size ≤ 256) {rep : Bool} {l : List Int} {k : Nat} {out : List UInt8} {x : DkS} (h : Good rep (str (bytS ws (l.take k)).1) out x) (hk : k ≤ 300) : out.length ≤ 230400 ∧ x.ring.length ≤ 230400 ∧ x.held.size ≤ 3 := by
  have h1 := h.len
  have h2 := bytS_size hw (l.take k)
  rw [str_size] at h1
  rw [List.length_take] at h2
  omega
theorem pre_str (u v : List UInt8) : (str (u ++ v)).extract 0 (str u).size = str u := by
  apply ByteArray.ext; apply Array.toList_inj.1
  rw [ext_ls _ _ _ (by omega) (by rw [str_size, str_size, List.length_append]; omega), str_data, str_data, List.drop_zero, Nat.sub_zero, str_size, List.take_left]

set_option maxHeartbeats 16000000 in
theorem detokAll_true (w : World) (v0 v1 v2 v3 v4 : Value) (ws : List ByteArray) (ms : List Mg) (a b d : List Sp) (hR : Rd5 w v0 v1 v2 v3 v4 ws ms a b d)
    (s0 : ws.length ≤ 8796093021952) (s1 : ms.length ≤ 5864062014634) (s2 : a.length ≤ 17592186043904) (s3 : b.length ≤ 17592186043904) (s4 : d.length ≤ 17592186043904) (hws : ∀ s ∈ ws, s.size ≤ maxLen) (hms : ∀ m ∈ ms, m.ok)
    (A : Option Addr) (n c : Nat) (l : List Int) (hl : l.length = n) (hr : Rd w w.heap.size 1 A n (l.map (Value.int .i64))) (hnc : n ≤ c) (hc : c ≤ 140737488351232) (hwf : ∀ x ∈ l, (Lit.int .i64 x).wf = true)
    (Ag : Option Addr) (ng cg : Nat) (lg : List Int) (hlg : lg.length = ng) (hrg : Rd w w.heap.size 1 Ag ng (lg.map (Value.int .i64))) (hncg : ng ≤ cg) (hcg : cg ≤ 140737488351232) (hwfg : ∀ x ∈ lg, (Lit.int .i64 x).wf = true)
    (Ar : Option Addr) (nr cr : Nat) (lr : List Int) (hlr : lr.length = nr) (hrr : Rd w w.heap.size 1 Ar nr (lr.map (Value.int .i64))) (hncr : nr ≤ cr) (hcr : cr ≤ 140737488351232) (hwfr : ∀ x ∈ lr, (Lit.int .i64 x).wf = true) (hT : Tabs w) :
    Calls Tryd.prog 8 #[.agg #[v0, v1, v2, v3, v4], .bool true, .slice A n c, .slice Ag ng cg, .slice Ar nr cr] w fun e w' => e = .returned (.bool true) ∧ Only [] w w' := by
  obtain ⟨h, hh⟩ : ∃ h, h = w.heap.size := ⟨_, rfl⟩
  obtain ⟨W1, hW1⟩ : ∃ W1, W1 = w.alloc (.cells #[v0, v1, v2, v3, v4] 26) := ⟨_, rfl⟩
  have hb : Blk W1 h 26 [v0, v1, v2, v3, v4] := by rw [hW1]; exact Blk.new' _ _ _ hh.symm rfl
  have hO1 : Only [] w W1 := by rw [hW1]; exact (Only.refl _ _).alloc _
  have hof := ofM_any W1 v0 v1 v2 v3 v4 ws ms a b d (hR.only hO1) (by omega) (by omega) s2 s3 s4 hws hms
  have k0 : W1.cell? ⟨h, 0, none⟩ = some v0 := hb.cell 0
  have k1 : W1.cell? ⟨h, 1, none⟩ = some v1 := hb.cell 1
  have k2 : W1.cell? ⟨h, 2, none⟩ = some v2 := hb.cell 2
  have k3 : W1.cell? ⟨h, 3, none⟩ = some v3 := hb.cell 3
  have k4 : W1.cell? ⟨h, 4, none⟩ = some v4 := hb.cell 4
  obtain ⟨⟨A0, d0, e0, -⟩, ⟨A1, d1, e1, -⟩, ⟨A2, d2, e2, -⟩, ⟨A3, d3, e3, -⟩, ⟨A4, d4, e4, -⟩⟩ := hR
  have Hof := Lib.hid hof
  have Hh := Lib.hid hh
  have HW := Lib.hid hW1
  have HO1 := Lib.hid hO1
  have HT := Lib.hid hT
  have HL := Lib.hid hl
  have HR := Lib.hid hr
  have H64 := Lib.hid (i64s_ok hwf)
  have HLg := Lib.hid hlg
  have HRg := Lib.hid hrg
  have H64g := Lib.hid (i64s_ok hwfg)
  have HLr := Lib.hid hlr
  have HRr := Lib.hid hrr
  have H64r := Lib.hid (i64s_ok hwfr)
  clear hof hh hW1 hb hO1 hT hl hr hwf hlg hrg hwfg hlr hrr hwfr hws hms s0 s1 s2 s3 s4
  subst e0 e1 e2 e3 e4
  go_enter Tryd.func8, Tryd.ntmps8
  go_upto_region 1 with (fail)
  rw [← Hh.out, ← HW.out]
  go_wp2_with (fail)
  refine Hof.out.mono ?_
  rintro e W2 hpost
  rcases hpost.no with ⟨rfl, hO2⟩ | ⟨gm, base, rfl, hO2, hbW, hF, hM, -⟩
  · clear hpost k0 k1 k2 k3 k4 Hof
    have hT2 := HT.out.only (HO1.out.trans hO2) (by simp) (by simp)
    go_wp2_with (fail)
    refine (known17_any W2 hT2).mono ?_
    rintro e W3 ⟨rfl, hO3⟩
    go_wp2_with (fail)
    go_ret
    exact ⟨rfl, HO1.out.trans (hO2.trans hO3)⟩
  obtain ⟨hw256, hlgf⟩ := fault_small hF
  have hO02 := HO1.out.trans hO2
  have hT2 := HT.out.only hO02 (by simp) (by simp)
  obtain ⟨n', l', hl', hr', hn'1, hn'2, hlt', hcase⟩ := (HR.out.only hO02 (by simp)).cutI HL.out 300
  have h64' : ∀ i ∈ l', i64ok i := fun i hi => H64.out i (by rw [hlt'] at hi; exact List.mem_of_mem_take hi)
  have HL' := Lib.hid hl'
  have HR' := Lib.hid hr'
  have H64' := Lib.hid h64'
  have HT2 := Lib.hid hT2
  have HO02 := Lib.hid hO02
  have HM := Lib.hid hM
  have Hw := Lib.hid hw256
  clear hpost k0 k1 k2 k3 k4 Hof hO02 hT2 hM hw256 hl' hr' h64' hlt'
  go_upto_if 46 with (fail)
  go_cut [2] (fun s wx => W2 = wx ∧ s = .slice A n' c)
  case first =>
    rcases hcase with ⟨h3, h4⟩ | ⟨h3, h4⟩
    · have h5 : ¬ (300 : Int) < (n : Int) := by omega
      have H4 := Lib.hid h4
      clear h4
      go_wp2
      go_meet
      case rel => exact ⟨rfl, by rw [H4.out]⟩
    · have hsh := run_slice_h (P := Tryd.prog) (A := A) (n := n) (c := c) (m := n') (hi := (300 : Int)) Tryd.underlying27 (size := 1) (by kernel_rfl) (by omega) (by omega)
      have h5 : (300 : Int) < (n : Int) := by omega
      have H4 := Lib.hid h4
      clear h4
      go_wp2
      go_meet
      case rel => exact ⟨rfl, rfl⟩
  case rest =>
  obtain ⟨rfl, rfl⟩ := hcut
  clear hcase
  obtain ⟨lf, hlf⟩ : ∃ z, z = lgF ws := ⟨_, rfl⟩
  have Hlf := Lib.hid hlf
  have hlg1 : 1 ≤ lf ∧ lf ≤ 256 := by have := (le_lgF ws).1; omega
  have hlo := longest_any W2 base gm ws ms a b d ms.length (lookM 0 ms) (lgF ws) HM.out
  have hnew := dkNew_any W2 gm base ws ms a b d ms.length (lookM 0 ms) (lgF ws) HM.out (by omega) (3 * ((lf : Int) + 3)) (by unfold i64ok; omega) true
  rw [← hlf] at hlo hnew
  have Hlo := Lib.hid hlo
  have Hnew := Lib.hid hnew
  obtain ⟨hlg1, hlg2⟩ := hlg1
  clear hlo hnew hlf hlgf
  go_wp2_with (fail)
  refine Hlo.out.mono ?_
  rintro e W2' ⟨rfl, rfl⟩
  go_wp2_with (fail)
  refine Hnew.out.mono ?_
  rintro e W3 ⟨hO3, ⟨hno, -⟩ | ⟨-, g, gr, g2, rfl, hD⟩⟩
  · exact absurd (by unfold NewOk; omega) hno
  obtain ⟨R, hRR⟩ : ∃ R, R = (3 * ((lf : Int) + 3)).toNat := ⟨_, rfl⟩
  rw [← hRR] at hD
  have hR1 : 12 ≤ R ∧ R ≤ 777 := by omega
  have HRR := Lib.hid hRR
  have HD := Lib.hid hD
  have HO3 := Lib.hid hO3
  obtain ⟨BS, hBS⟩ : ∃ z, z = bytS ws l' := ⟨_, rfl⟩
  have hby := bytes17_any W3 gm base ws ms a b d ms.length (lookM 0 ms) (lgF ws) (HM.out.only0 hO3) Hw.out A n' c w.heap.size l' HL'.out (by omega) (HR'.out.only hO3 (by simp)) (by have := hO3.size; have := HO02.out.size; omega) H64'.out
  rw [← hBS] at hby
  have hble : BS.2 ≤ n' := by rw [hBS, ← HL'.out]; exact bytS_le ws l'
  have Hby := Lib.hid hby
  have HBS := Lib.hid hBS
  obtain ⟨hR1, hR2⟩ := hR1
  clear hby hBS hRR hD hO3 Hlo Hnew
  go_wp2_with (fail)
  refine Hby.out.mono ?_
  rintro e W4 ⟨rfl, hO4⟩
  have hlt := HD.out.lt
  have hge := HD.out.ge
  have hD4 := HD.out.only0 hO4
  have hO04 := HO02.out.trans (HO3.out.trans hO4)
  have hw02 := HO02.out.size
  have hn0 : BS.2 ≤ 300 := by omega
  obtain ⟨n0, hn0e⟩ : ∃ z, z = BS.2 := ⟨_, rfl⟩
  rw [← hn0e] at hble hn0 ⊢
  have Hn0 := Lib.hid hn0e
  clear Hby HD hO4 HO3 hn0e
  go_wp2_with (fail)
  go_loopw [20, 19, 18] (fun vi va vo wr => ∃ (i k : Nat) (oa : List UInt8) (p : DkS), vi = .int .i64 (i : Int) ∧ i ≤ 4000 ∧ va = .int .i64 (k : Int) ∧ k ≤ n0 ∧ vo = .string (str oa) ∧ DecAt wr W2 g gr g2 gm true R p ∧ p.flushed = false ∧ Good true (str (bytS ws (l'.take k)).1) oa p ∧ (k < n0 → p.met = false) ∧ (ng ≤ 3000 → nr ≤ 3000 → 3001 ≤ i → p.ring = [] ∧ i ≤ k + 3001) ∧ Only [] w wr) (fun vi _ _ _ => 4000 - (intOf vi).toNat)
  case atStart => exact ⟨0, 0, [], dk0, rfl, by omega, rfl, by omega, rfl, hD4, rfl, Good.new _, fun _ => rfl, fun _ _ h => absurd h (by omega), hO04⟩
  case round =>
    clear hD4 hO04
    obtain ⟨i, k, oa, p, rfl, hi, rfl, hk, rfl, hD, hpf, hG, hmet, hrg, hO⟩ := hrel
    by_cases hgo : i < 4000 ∧ k < n0
    · obtain ⟨hi4, hk0⟩ := hgo
      have hi4' : (i : Int) < 4000 := by omega
      have hk0' : (k : Int) < (n0 : Int) := by omega
      have HG := Lib.hid hG
      have Hrg := Lib.hid hrg
      have HD := Lib.hid hD
      have HO := Lib.hid hO
      have hpm := hmet hk0
      clear hG hrg hD hO hmet
      obtain ⟨q, hq⟩ : ∃ q, q = n' - k := ⟨_, rfl⟩
      have hqz : ((n' : Int) - (k : Int)) = (q : Int) := by omega
      have hq1 : 1 ≤ q ∧ q ≤ 300 := by omega
      have Hq := Lib.hid hq
      have Hqz := Lib.hid hqz
      obtain ⟨hq1, hq2⟩ := hq1
      clear hq hqz
      go_upto_if 87 with (fail)
      go_cut [21] (fun s wx => wr = wx ∧ ∃ x : Nat, s = .int .i64 (x : Int) ∧ x ≤ q ∧ (ng ≤ i → x = q))
      case first =>
        by_cases hin : i < ng
        · obtain ⟨x, ga, oa', hx, hA, hcell⟩ := (HRg.out.only HO.out (by simp)).int HLg.out hin
          subst hA
          have hin' : (i : Int) < (ng : Int) := by omega
          have hx64 := H64g.out x hx
          unfold i64ok at hx64
          obtain ⟨hx1, hx2⟩ := hx64
          have hwi := within_any x 0 q wr ⟨hx1, hx2⟩ (by omega) (by omega) (by omega)
          have hwb := within_bd x 0 q (by omega)
          obtain ⟨y, hy⟩ : ∃ y : Nat, (y : Int) = within x 0 q := ⟨(within x 0 q).toNat, by omega⟩
          rw [← hy] at hwi hwb
          have Hwi := Lib.hid hwi
          clear hwi hy hx
          rw [← Hqz.out] at Hwi
          go_wp2_with (fail)
          refine Hwi.out.mono ?_
          rintro e wr' ⟨rfl, rfl⟩
          go_wp2_with (fail)
          go_meet
          case rel => exact ⟨rfl, y, rfl, by omega, fun h => absurd h (by omega)⟩
        · have hin' : ¬ (i : Int) < (ng : Int) := by omega
          go_wp2_with (fail)
          go_meet
          case rel => exact ⟨rfl, q, by rw [Hqz.out], by omega, fun _ => rfl⟩
      case rest =>
      obtain ⟨rfl, x, rfl, hxq, hxe⟩ := hcut
      have hkx : k + x ≤ n' := by have := Hq.out; omega
      obtain ⟨A', hsl, hrd⟩ := (HR'.out.only HD.out.new (by simp)).slice_lh (P := Tryd.prog) Tryd.underlying27 (by kernel_rfl : (Tryd.prog.info? 3).map (·.size) = some 1) (k := k) (m := x) (c := c) (lo := (k : Int)) (hi := (k : Int) + (x : Int)) rfl (by omega) hkx (by omega)
      obtain ⟨lk, hlk⟩ : ∃ z, z = (l'.drop k).take x := ⟨_, rfl⟩
      have hlkl : lk.length = x := by rw [hlk, List.length_take, List.length_drop, HL'.out]; omega
      rw [Nat.mul_one, Nat.mul_one, ← List.map_drop, ← List.map_take, ← hlk] at hrd
      have h64k : ∀ i ∈ lk, i64ok i := fun i hi => H64'.out i (by rw [hlk] at hi; exact List.mem_of_mem_drop (List.mem_of_mem_take hi))
      have hfd := dkFeed_any wr W2 g gr g2 gm true R p HD.out HT2.out base ws ms a b d ms.length (lookM 0 ms) (lgF ws) HM.out Hw.out A' x (c - k) w.heap.size lk hlkl (by omega) hrd (.inl (HO02.out.size)) h64k
      rw [hpf] at hfd
      simp only [Bool.false_eq_true, if_false] at hfd
      have hfs := feed_flushed ws true R lk p
      obtain ⟨FS, hFS⟩ : ∃ z, z = feedS ws true R lk p := ⟨_, rfl⟩
      rw [← hFS] at hfd hfs
      obtain ⟨t, p1⟩ := FS
      rw [hlk] at hFS
      have hgp := group (ws := ws) (R := R) (l := l') (k := k) (x := x) (n0 := n0) (by rw [Hn0.out, HBS.out]) hk (by rw [HL'.out]; exact hkx) hpm HG.out hFS.symm
      simp only at hfd hfs
      obtain ⟨hg1, hg2, hg3, hg4, hg5⟩ := hgp
      have hfl : p1.flushed = false := by rw [hfs, hpf]
      have Hfd := Lib.hid hfd
      have Hg3 := Lib.hid hg3
      have Hg4 := Lib.hid hg4
      have Hg5 := Lib.hid hg5
      clear hfd hfs hFS hlk hlkl hrd h64k hg3 hg4 hg5 HG
      go_wp2_with (fail)
      refine Hfd.out.mono ?_
      rintro e W5 ⟨rfl, hD5, hO5⟩
      have hO05 : Only [] w W5 := HO.out.trans' hO5 (by intro z hz; simp at hz; exact .inr (by omega))
      have hg1' : k + t ≤ 300 := by omega
      have htx : ¬ (x : Int) < (t : Int) := by omega
      have HD5 := Lib.hid hD5
      have HO5 := Lib.hid hO05
      obtain ⟨kt, hkt⟩ : ∃ z, z = k + t := ⟨_, rfl⟩
      have Hkt := Lib.hid hkt
      have hkt' : (k : Int) + (t : Int) = (kt : Int) := by omega
      rw [← hkt] at Hg3 Hg4 hg1 hg1'
      clear hD5 hO05 hO5 Hfd HD HO hkt
      go_upto_if 122 with (fail)
      go_cut [21] (fun s wx => W5 = wx ∧ ∃ y : Nat, s = .int .i64 (y : Int) ∧ y ≤ 1048576 ∧ (nr ≤ i → y = 1048576))
      case first =>
        by_cases hin : i < nr
        · obtain ⟨x, ga, oa', hx, hA, hcell⟩ := (HRr.out.only HO5.out (by simp)).int HLr.out hin
          subst hA
          have hin' : (i : Int) < (nr : Int) := by omega
          have hx64 := H64r.out x hx
          unfold i64ok at hx64
          obtain ⟨hx1, hx2⟩ := hx64
          have hwi := within_any x 0 40 W5 ⟨hx1, hx2⟩ (by omega) (by omega) (by omega)
          have hwb := within_bd x 0 40 (by omega)
          obtain ⟨y, hy⟩ : ∃ y : Nat, (y : Int) = within x 0 40 := ⟨(within x 0 40).toNat, by omega⟩
          rw [← hy] at hwi hwb
          have Hwi := Lib.hid hwi
          clear hwi hy hx
          go_wp2_with (fail)
          refine Hwi.out.mono ?_
          rintro e wr' ⟨rfl, rfl⟩
          go_wp2_with (fail)
          go_meet
          case rel => exact ⟨rfl, y, rfl, by omega, fun h => absurd h (by omega)⟩
        · have hin' : ¬ (i : Int) < (nr : Int) := by omega
          go_wp2_with (fail)
          go_meet
          case rel => exact ⟨rfl, 1048576, rfl, by omega, fun _ => rfl⟩
      case rest =>
      obtain ⟨rfl, y, rfl, hy1, hye⟩ := hcut
      have hbd := good_bd Hw.out Hg3.out hg1'
      have hrd := dkRead_any W5 W2 g gr g2 gm true R p1 HD5.out HT2.out (y : Int)
      obtain ⟨m, hm⟩ : ∃ m, m = min ((y : Int)).toNat p1.ring.length := ⟨_, rfl⟩
      have hgr := Hg3.out.read (R := R) (y : Int) hfl
      have hfl2 := read_fl R true (y : Int) p1 hfl
      obtain ⟨p2, hp2⟩ : ∃ z, z = dkReadS R true (y : Int) p1 := ⟨_, rfl⟩
      rw [← hm, ← hp2] at hrd hgr
      rw [← hp2] at hfl2
      have hml : m ≤ p1.ring.length := by omega
      have hrg' : ng ≤ 3000 → nr ≤ 3000 → 3001 ≤ i + 1 → p2.ring = [] ∧ i + 1 ≤ kt + 3001 := by
        intro h1 h2 h3
        have hy := hye (by omega)
        rw [hgr.2.2]
        refine ⟨List.drop_of_length_le (by omega), ?_⟩
        by_cases h4 : i = 3000
        · omega
        · obtain ⟨h5, h6⟩ := Hrg.out h1 h2 (by omega)
          have := Hg5.out h5 hk0 (by rw [HL'.out]; have := hxe (by omega); have := Hq.out; omega) (by have := Hlf.out; have := HRR.out; omega)
          have := Hkt.out
          omega
      have hmet' : kt < n0 → p2.met = false := by intro h; rw [hgr.2.1]; exact Hg4.out h
      have Hrg' := Lib.hid hrg'
      have Hmet' := Lib.hid hmet'
      have Hgr := Lib.hid hgr.1
      have Hrd := Lib.hid hrd
      obtain ⟨hb1, hb2, hb3⟩ := hbd
      clear hrd hm hgr hp2 hrg' hmet' Hg3 Hg4 Hg5 Hrg Hkt Hq Hqz hye hxe HD5
      go_wp2_with (fail)
      refine Hrd.out.mono ?_
      rintro e W6 ⟨o, rfl, hwo, hbo, hD6, hO6⟩
      have hO06 : Only [] w W6 := HO5.out.trans' hO6 (by intro z hz; simp at hz; exact .inr (by omega))
      have hcv := byteStr m hbo (n := m) (by rw [List.length_take]; omega)
      have hsum : ¬ 9223372036854775807 < (str oa).size + (str (p1.ring.take m)).size := by
        rw [str_size, str_size, List.length_take]; omega
      have hnx : str oa ++ str (p1.ring.take m) = str (oa ++ p1.ring.take m) := str_app _ _
      obtain ⟨ob, hob⟩ : ∃ z, z = oa ++ p1.ring.take m := ⟨_, rfl⟩
      rw [← hob] at hnx Hgr
      obtain ⟨PT, hPT⟩ : ∃ z, z = bytS ws (l'.take kt) := ⟨_, rfl⟩
      have hsh := run_slice_h (P := Tryd.prog) (A := A) (n := n') (c := c) (m := kt) (hi := (kt : Int)) Tryd.underlying27 (size := 1) (by kernel_rfl) rfl (by omega)
      have hrt := (HR'.out.only hD6.new (by simp)).take (k := kt) (by omega)
      rw [Nat.mul_one, ← List.map_take] at hrt
      have hby := bytes17_any W6 gm base ws ms a b d ms.length (lookM 0 ms) (lgF ws) (HM.out.only0 hD6.new) Hw.out A kt c w.heap.size (l'.take kt) (by rw [List.length_take, HL'.out]; omega) (by omega) hrt hO06.size (fun i hi => H64'.out i (List.mem_of_mem_take hi))
      rw [← hPT] at hby Hgr
      have HPT := Lib.hid hPT
      have hPl : PT.1.length ≤ 76800 := by have := bytS_size Hw.out (l'.take kt); rw [List.length_take, ← hPT] at this; omega
      have Hby := Lib.hid hby
      have HD6 := Lib.hid hD6
      have HO6 := Lib.hid hO06
      have Hnx := Lib.hid hnx
      clear hrt hby hPT hob hD6 hO06 hO6 hbo Hrd hwo hnx HO5
      go_wp2_with (fail)
      rw [Hnx.out]
      go_wp2_with (fail)
      refine Hby.out.mono ?_
      rintro e W7 ⟨rfl, hO7⟩
      have hO37 := HD6.out.new.trans hO7
      have HD7 := Lib.hid (HD6.out.only0 hO7)
      have HO7 := Lib.hid (HO6.out.trans hO7)
      have HT7 := Lib.hid (HT.out.only HO7.out (by simp) (by simp))
      obtain ⟨S, hS⟩ : ∃ S, S = str PT.1 := ⟨_, rfl⟩
      have hSz : S.size ≤ 76800 := by rw [hS, str_size]; exact hPl
      have Hgr2 := Hgr
      rw [HPT.out] at Hgr2
      rw [← hS] at Hgr ⊢
      obtain ⟨hb4, hb5⟩ : ob.length ≤ 230400 ∧ p2.ring.length ≤ 230400 := by have := Hgr.out.len; omega
      have hhs : p2.held.size = tailU S := Hgr.out.len.2.2
      have htl := tail_any S (by omega) W7 HT7.out
      have htS := tailU_le S
      rw [← hhs] at htl htS
      obtain ⟨hd, hhd⟩ : ∃ z, z = p2.held.size := ⟨_, rfl⟩
      rw [← hhd] at htl htS
      obtain ⟨q1, hq1⟩ : ∃ q, q = S.size - hd := ⟨_, rfl⟩
      have hcut1 : cutS S = q1 := by rw [hq1, hhd, hhs]; rfl
      obtain ⟨htS, htS2⟩ := htS
      have hwr1 : IntKind.i64.wrap ((S.size : Int) - (hd : Int)) = (q1 : Int) := by rw [IntWalk.i64_in _ (by omega)]; omega
      have hsl1 := slice_to Tryd.prog 9 Tryd.underlying9 S q1 (by omega)
      have hSq := Hgr.out.emit
      rw [hcut1] at hSq
      obtain ⟨T1, hT1⟩ : ∃ z, z = S.extract 0 q1 := ⟨_, rfl⟩
      have hT1z : T1.size ≤ 76800 := by rw [hT1, ByteArray.size_extract]; omega
      rw [← hT1] at hsl1 hSq
      have Htl := Lib.hid htl
      have HSq := Lib.hid hSq
      have Hhd := Lib.hid hhd
      have Hhs := Lib.hid hhs
      clear htl hSq hhd hhs hcut1 hq1 hT1 hO37 hO7 HD6 HO6 Hby hS hsum hcv hsh hsl hkt'
      go_wp2_with (fail)
      refine Htl.out.mono ?_
      rintro e W8 ⟨rfl, hO8⟩
      have HD8 := Lib.hid (HD7.out.only0 hO8)
      have HO8 := Lib.hid (HO7.out.trans hO8)
      have HT8 := Lib.hid (HT7.out.only hO8 (by simp) (by simp))
      clear HD7 hO8 Htl
      go_upto_if 153 with (fail)
      go_cut [28] (fun s wx => s = .string (str (ob ++ p2.ring)) ∧ Only [] W8 wx)
      case first =>
        have hrp := replace_any T1 (by omega) W8 HT8.out
        rw [show (⟨(replS T1).toArray⟩ : ByteArray) = str (ob ++ p2.ring) from by rw [HSq.out]; rfl] at hrp
        have Hrp := Lib.hid hrp
        clear hrp
        go_wp2_with (fail)
        refine Hrp.out.mono ?_
        rintro e W9 ⟨rfl, hO9⟩
        go_wp2_with (fail)
        go_meet
        case rel => exact ⟨rfl, hO9⟩
      case rest =>
      obtain ⟨rfl, hO9⟩ := hcut
      have hD9 := HD8.out.only0 hO9
      have hO09 := HO8.out.trans hO9
      have hT9 := HT8.out.only hO9 (by simp) (by simp)
      have hs1 := slice_to Tryd.prog 9 Tryd.underlying9 (str (ob ++ p2.ring)) (str ob).size (by rw [str_size, str_size, List.length_append]; omega)
      rw [pre_str] at hs1
      have hz1 : (((str ob).size : Int) + (p2.ring.length : Int) == ((str (ob ++ p2.ring)).size : Int)) = true := by rw [str_size, str_size, List.length_append, beq_iff_eq]; omega
      have hse1 : ((str ob).toList == (str ob).toList) = true := beq_self_eq_true _
      have hz2 : (((str ob).size : Int) + (p2.ring.length : Int) != ((str (ob ++ p2.ring)).size : Int)) = false := by rw [bne, hz1]; rfl
      have hse2 : ((str ob).toList != (str ob).toList) = false := by rw [bne, hse1]; rfl
      rw [← str_size] at hb4
      have Hwt := Lib.hid (dkWait_any _ W2 g gr g2 gm true R p2 hD9)
      have Hhl := Lib.hid (dkHeld_any _ W2 g gr g2 gm true R p2 hD9)
      have Htl := Lib.hid (tail_any S (by omega) _ hT9)
      rw [← Hhs.out, ← Hhd.out] at Htl
      rw [← Hhd.out] at Hhl
      obtain ⟨so, hso⟩ : ∃ z, z = str ob := ⟨_, rfl⟩
      obtain ⟨X1, hX1⟩ : ∃ z, z = str (ob ++ p2.ring) := ⟨_, rfl⟩
      obtain ⟨r1, hr1⟩ : ∃ z, z = p2.ring.length := ⟨_, rfl⟩
      rw [← hso] at hs1 hz1 hse1 hz2 hse2 hb4 ⊢
      rw [← hX1] at hs1 hz1 hz2 ⊢
      rw [← hr1] at Hwt hz1 hz2 hb5
      have Hso := Lib.hid hso
      have HD9 := Lib.hid hD9
      have HO9 := Lib.hid hO09
      have h3n : ¬ (3 : Int) < (hd : Int) := by omega
      have hee : ((hd : Int) == (hd : Int)) = true := beq_self_eq_true _
      have hee2 : ((hd : Int) != (hd : Int)) = false := by rw [bne, hee]; rfl
      clear hso hX1 hr1 hD9 hO09 hT9 hO9 HD8 HO8 HT8 HSq
      go_wp2_with (fail)
      refine Hwt.out.mono ?_
      rintro e W9' ⟨rfl, rfl⟩
      go_wp2_with (fail)
      refine Hhl.out.mono ?_
      rintro e W9'' ⟨rfl, rfl⟩
      go_wp2_with (fail)
      refine Htl.out.mono ?_
      rintro e W10 ⟨rfl, hO10⟩
      have HO10 := Lib.hid (HO9.out.trans hO10)
      have HD10 := Lib.hid (HD9.out.only0 hO10)
      clear hO10 HD9 HO9 Htl
      go_wp2_with (fail)
      refine (dkHeld_any _ W2 g gr g2 gm true R p2 HD10.out).mono ?_
      rintro e W11 ⟨rfl, rfl⟩
      rw [← Hhd.out]
      go_wp2_with (fail)
      go_roundw
      case rel => exact ⟨i + 1, kt, ob, p2, by go_num, by omega, rfl, hg1, by rw [Hso.out], HD10.out, hfl2, Hgr2.out, Hmet'.out, Hrg'.out, HO10.out⟩
      case measure => simp [intOf]; omega
    · by_cases hk0 : k < n0
      · obtain rfl : i = 4000 := by omega
        have hi4 : ¬ ((4000 : Nat) : Int) < 4000 := by omega
        have hk0' : (k : Int) < (n0 : Int) := by omega
        have hor : 3000 < ng ∨ 3000 < nr := by
          apply Classical.byContradiction
          intro hno
          have := hrg (by omega) (by omega) (by omega)
          omega
        have hT9 := HT.out.only hO (by simp) (by simp)
        have HO := Lib.hid hO
        clear hrg hG hmet hD hO hgo hi
        by_cases hng : (3000 : Int) < (ng : Int)
        · go_wp2_with (fail)
          refine (known17_any wr hT9).mono ?_
          rintro e W10 ⟨rfl, hO10⟩
          go_wp2_with (fail)
          go_ret
          exact ⟨rfl, HO.out.trans hO10⟩
        · have hnr : (3000 : Int) < (nr : Int) := by omega
          clear hor
          go_wp2_with (fail)
          refine (known17_any wr hT9).mono ?_
          rintro e W10 ⟨rfl, hO10⟩
          go_wp2_with (fail)
          go_ret
          exact ⟨rfl, HO.out.trans hO10⟩
      · obtain rfl : k = n0 := by omega
        have hfu := bytS_full ws l' (n0 := k) (by rw [Hn0.out, HBS.out])
        rw [hfu, ← HBS.out] at hG
        obtain ⟨S, hS⟩ : ∃ S, S = str BS.1 := ⟨_, rfl⟩
        have hSz : S.size ≤ 76800 := by have := bytS_size Hw.out l'; rw [← HBS.out, HL'.out] at this; rw [hS, str_size]; omega
        rw [← hS] at hG
        have hfin := Fin.start (R := R) hG hpf
        have hfl := dkFlush_any wr W2 g gr g2 gm true R p hD HT2.out
        rw [hpf] at hfl
        simp only [Bool.false_eq_true, if_false] at hfl
        obtain ⟨p3, hp3⟩ : ∃ z, z = dkFlushS R true p := ⟨_, rfl⟩
        rw [← hp3] at hfl hfin
        have Hfl := Lib.hid hfl
        have Hfin := Lib.hid hfin
        have HO := Lib.hid hO
        have HS := Lib.hid hS
        have hkk : ¬ (k : Int) < (k : Int) := by omega
        have hke : ((k : Int) == (k : Int)) = true := beq_self_eq_true _
        have hend : ¬ ((i : Int) < 4000 ∧ (k : Int) < (k : Int)) := by omega
        rw [← hS]
        clear hfu hS hG hD hO hrg hmet hfl hfin hp3 hgo
        by_cases hi4 : (i : Int) < 4000
        all_goals
         go_wp2_with (fail)
         refine Hfl.out.mono ?_
         rintro e W5 ⟨rfl, hD5, hO5⟩
         have hO05 : Only [] w W5 := HO.out.trans' hO5 (by intro z hz; simp at hz; exact .inr (by omega))
         clear Hfl hO5
         go_wp2_with (fail)
         go_loopw [29, 18] (fun vi vo wr => ∃ (j : Nat) (ob : List UInt8) (x : DkS), vi = .int .i64 (j : Int) ∧ j ≤ 3 ∧ vo = .string (str ob) ∧ DecAt wr W2 g gr g2 gm true R x ∧ Fin true S j ob x ∧ Only [] w wr) (fun vi _ _ => 3 - (intOf vi).toNat)
         case atStart => exact ⟨0, oa, p3, rfl, by omega, rfl, hD5, Hfin.out, hO05⟩
         case round =>
          clear hD5 hO05
          obtain ⟨j, ob, x, rfl, hj, rfl, hD, hF3, hO⟩ := hrel
          have hbl := hF3.len
          have hbl1 : ob.length ≤ 230400 := by omega
          have hbl2 : x.ring.length ≤ 230400 := by omega
          clear hbl
          by_cases hj3 : j < 3
          · have hrd := dkRead_any _ W2 g gr g2 gm true R x hD HT2.out 1048576
            obtain ⟨hm, hnx⟩ := hF3.read (R := R) (k := 1048576) (by omega) (by omega)
            rw [hm, List.take_length] at hrd
            obtain ⟨m, hmm⟩ : ∃ z, z = x.ring.length := ⟨_, rfl⟩
            rw [← hmm] at hrd hbl2
            obtain ⟨x2, hx2⟩ : ∃ z, z = dkReadS R true 1048576 x := ⟨_, rfl⟩
            rw [← hx2] at hrd hnx
            have Hrd := Lib.hid hrd
            have Hnx := Lib.hid hnx
            have Hmm := Lib.hid hmm
            have HO3 := Lib.hid hO
            have hj3' : (j : Int) < 3 := by omega
            clear hrd hnx hm hmm hx2 hD hF3 hO
            go_wp2_with (fail)
            refine Hrd.out.mono ?_
            rintro e W6 ⟨o, rfl, hwo, hbo, hD6, hO6⟩
            have hO06 : Only [] w W6 := HO3.out.trans' hO6 (by intro z hz; simp at hz; exact .inr (by omega))
            have hcv := byteStr m hbo (n := m) Hmm.out.symm
            have hsum : ¬ 9223372036854775807 < (str ob).size + (str x.ring).size := by
              rw [str_size, str_size, ← Hmm.out]; omega
            have HD6 := Lib.hid hD6
            have HO6 := Lib.hid hO06
            clear hbo hD6 hO06 hO6 Hrd hwo HO3
            go_wp2_with (fail)
            go_roundw
            case rel => exact ⟨j + 1, ob ++ x.ring, x2, by go_num, by omega, by rw [← str_app], HD6.out, Hnx.out, HO6.out⟩
            case measure => simp [intOf]; omega
          · obtain rfl : j = 3 := by omega
            obtain ⟨hou, hhe⟩ := hF3.done
            have Hou := Lib.hid hou
            have Hhe := Lib.hid hhe
            have hT6 := HT.out.only hO (by simp) (by simp)
            have hhl := dkHeld_any _ W2 g gr g2 gm true R x hD
            rw [hhe, show (ByteArray.empty.size : Nat) = 0 from rfl] at hhl
            have Hhl := Lib.hid hhl
            have HT6 := Lib.hid hT6
            have HO3 := Lib.hid hO
            have HD3 := Lib.hid hD
            have hj3' : ¬ ((3 : Nat) : Int) < 3 := by omega
            clear hhl hou hhe hD hF3 hO hT6 HO
            have hse : ((str ob).toList == (str ob).toList) = true := beq_self_eq_true _
            have hrp := replace_any S (by omega) _ HT6.out
            rw [show (⟨(replS S).toArray⟩ : ByteArray) = str ob from by rw [Hou.out]; rfl] at hrp
            have Hrp := Lib.hid hrp
            clear hrp
            go_wp2_with (fail)
            refine Hrp.out.mono ?_
            rintro e W9 ⟨rfl, hO9⟩
            go_wp2_with (fail)
            have hh2 := dkHeld_any _ W2 g gr g2 gm true R x (HD3.out.only0 hO9)
            rw [Hhe.out, show (ByteArray.empty.size : Nat) = 0 from rfl] at hh2
            refine hh2.mono ?_
            rintro e W9' ⟨rfl, rfl⟩
            clear hh2
            have hO09 := HO3.out.trans hO9
            have hT9 := HT.out.only hO09 (by simp) (by simp)
            go_wp2_with (fail)
            refine (known17_any _ hT9).mono ?_
            rintro e W10 ⟨rfl, hO10⟩
            go_wp2_with (fail)
            go_ret
            exact ⟨rfl, hO09.trans hO10⟩
end Go.Proofs.YtemnanhoiacphaaDoor

set_option linter.unusedVariables false
set_option linter.unusedSimpArgs false
set_option maxRecDepth 100000
namespace Go.Proofs.YtemnanhoiacphaaDoor
open Go.RowKit

set_option maxHeartbeats 16000000 in
theorem detokAll_false (w : World) (v0 v1 v2 v3 v4 : Value) (ws : List ByteArray) (ms : List Mg) (a b d : List Sp) (hR : Rd5 w v0 v1 v2 v3 v4 ws ms a b d)
    (s0 : ws.length ≤ 8796093021952) (s1 : ms.length ≤ 5864062014634) (s2 : a.length ≤ 17592186043904) (s3 : b.length ≤ 17592186043904) (s4 : d.length ≤ 17592186043904) (hws : ∀ s ∈ ws, s.size ≤ maxLen) (hms : ∀ m ∈ ms, m.ok)
    (A : Option Addr) (n c : Nat) (l : List Int) (hl : l.length = n) (hr : Rd w w.heap.size 1 A n (l.map (Value.int .i64))) (hnc : n ≤ c) (hc : c ≤ 140737488351232) (hwf : ∀ x ∈ l, (Lit.int .i64 x).wf = true)
    (Ag : Option Addr) (ng cg : Nat) (lg : List Int) (hlg : lg.length = ng) (hrg : Rd w w.heap.size 1 Ag ng (lg.map (Value.int .i64))) (hncg : ng ≤ cg) (hcg : cg ≤ 140737488351232) (hwfg : ∀ x ∈ lg, (Lit.int .i64 x).wf = true)
    (Ar : Option Addr) (nr cr : Nat) (lr : List Int) (hlr : lr.length = nr) (hrr : Rd w w.heap.size 1 Ar nr (lr.map (Value.int .i64))) (hncr : nr ≤ cr) (hcr : cr ≤ 140737488351232) (hwfr : ∀ x ∈ lr, (Lit.int .i64 x).wf = true) (hT : Tabs w) :
    Calls Tryd.prog 8 #[.agg #[v0, v1, v2, v3, v4], .bool false, .slice A n c, .slice Ag ng cg, .slice Ar nr cr] w fun e w' => e = .returned (.bool true) ∧ Only [] w w' := by
  obtain ⟨h, hh⟩ : ∃ h, h = w.heap.size := ⟨_, rfl⟩
  obtain ⟨W1, hW1⟩ : ∃ W1, W1 = w.alloc (.cells #[v0, v1, v2, v3, v4] 26) := ⟨_, rfl⟩
  have hb : Blk W1 h 26 [v0, v1, v2, v3, v4] := by rw [hW1]; exact Blk.new' _ _ _ hh.symm rfl
  have hO1 : Only [] w W1 := by rw [hW1]; exact (Only.refl _ _).alloc _
  have hof := ofM_any W1 v0 v1 v2 v3 v4 ws ms a b d (hR.only hO1) (by omega) (by omega) s2 s3 s4 hws hms
  have k0 : W1.cell? ⟨h, 0, none⟩ = some v0 := hb.cell 0
  have k1 : W1.cell? ⟨h, 1, none⟩ = some v1 := hb.cell 1
  have k2 : W1.cell? ⟨h, 2, none⟩ = some v2 := hb.cell 2
  have k3 : W1.cell? ⟨h, 3, none⟩ = some v3 := hb.cell 3
  have k4 : W1.cell? ⟨h, 4, none⟩ = some v4 := hb.cell 4
  obtain ⟨⟨A0, d0, e0, -⟩, ⟨A1, d1, e1, -⟩, ⟨A2, d2, e2, -⟩, ⟨A3, d3, e3, -⟩, ⟨A4, d4, e4, -⟩⟩ := hR
  have Hof := Lib.hid hof
  have Hh := Lib.hid hh
  have HW := Lib.hid hW1
  have HO1 := Lib.hid hO1
  have HT := Lib.hid hT
  have HL := Lib.hid hl
  have HR := Lib.hid hr
  have H64 := Lib.hid (i64s_ok hwf)
  have HLg := Lib.hid hlg
  have HRg := Lib.hid hrg
  have H64g := Lib.hid (i64s_ok hwfg)
  have HLr := Lib.hid hlr
  have HRr := Lib.hid hrr
  have H64r := Lib.hid (i64s_ok hwfr)
  clear hof hh hW1 hb hO1 hT hl hr hwf hlg hrg hwfg hlr hrr hwfr hws hms s0 s1 s2 s3 s4
  subst e0 e1 e2 e3 e4
  go_enter Tryd.func8, Tryd.ntmps8
  go_upto_region 1 with (fail)
  rw [← Hh.out, ← HW.out]
  go_wp2_with (fail)
  refine Hof.out.mono ?_
  rintro e W2 hpost
  rcases hpost.no with ⟨rfl, hO2⟩ | ⟨gm, base, rfl, hO2, hbW, hF, hM, -⟩
  · clear hpost k0 k1 k2 k3 k4 Hof
    have hT2 := HT.out.only (HO1.out.trans hO2) (by simp) (by simp)
    go_wp2_with (fail)
    refine (known17_any W2 hT2).mono ?_
    rintro e W3 ⟨rfl, hO3⟩
    go_wp2_with (fail)
    go_ret
    exact ⟨rfl, HO1.out.trans (hO2.trans hO3)⟩
  obtain ⟨hw256, hlgf⟩ := fault_small hF
  have hO02 := HO1.out.trans hO2
  have hT2 := HT.out.only hO02 (by simp) (by simp)
  obtain ⟨n', l', hl', hr', hn'1, hn'2, hlt', hcase⟩ := (HR.out.only hO02 (by simp)).cutI HL.out 300
  have h64' : ∀ i ∈ l', i64ok i := fun i hi => H64.out i (by rw [hlt'] at hi; exact List.mem_of_mem_take hi)
  have HL' := Lib.hid hl'
  have HR' := Lib.hid hr'
  have H64' := Lib.hid h64'
  have HT2 := Lib.hid hT2
  have HO02 := Lib.hid hO02
  have HM := Lib.hid hM
  have Hw := Lib.hid hw256
  clear hpost k0 k1 k2 k3 k4 Hof hO02 hT2 hM hw256 hl' hr' h64' hlt'
  go_upto_if 46 with (fail)
  go_cut [2] (fun s wx => W2 = wx ∧ s = .slice A n' c)
  case first =>
    rcases hcase with ⟨h3, h4⟩ | ⟨h3, h4⟩
    · have h5 : ¬ (300 : Int) < (n : Int) := by omega
      have H4 := Lib.hid h4
      clear h4
      go_wp2
      go_meet
      case rel => exact ⟨rfl, by rw [H4.out]⟩
    · have hsh := run_slice_h (P := Tryd.prog) (A := A) (n := n) (c := c) (m := n') (hi := (300 : Int)) Tryd.underlying27 (size := 1) (by kernel_rfl) (by omega) (by omega)
      have h5 : (300 : Int) < (n : Int) := by omega
      have H4 := Lib.hid h4
      clear h4
      go_wp2
      go_meet
      case rel => exact ⟨rfl, rfl⟩
  case rest =>
  obtain ⟨rfl, rfl⟩ := hcut
  clear hcase
  obtain ⟨lf, hlf⟩ : ∃ z, z = lgF ws := ⟨_, rfl⟩
  have Hlf := Lib.hid hlf
  have hlg1 : 1 ≤ lf ∧ lf ≤ 256 := by have := (le_lgF ws).1; omega
  have hlo := longest_any W2 base gm ws ms a b d ms.length (lookM 0 ms) (lgF ws) HM.out
  have hnew := dkNew_any W2 gm base ws ms a b d ms.length (lookM 0 ms) (lgF ws) HM.out (by omega) (3 * ((lf : Int) + 3)) (by unfold i64ok; omega) false
  rw [← hlf] at hlo hnew
  have Hlo := Lib.hid hlo
  have Hnew := Lib.hid hnew
  obtain ⟨hlg1, hlg2⟩ := hlg1
  clear hlo hnew hlf hlgf
  go_wp2_with (fail)
  refine Hlo.out.mono ?_
  rintro e W2' ⟨rfl, rfl⟩
  go_wp2_with (fail)
  refine Hnew.out.mono ?_
  rintro e W3 ⟨hO3, ⟨hno, -⟩ | ⟨-, g, gr, g2, rfl, hD⟩⟩
  · exact absurd (by unfold NewOk; omega) hno
  obtain ⟨R, hRR⟩ : ∃ R, R = (3 * ((lf : Int) + 3)).toNat := ⟨_, rfl⟩
  rw [← hRR] at hD
  have hR1 : 12 ≤ R ∧ R ≤ 777 := by omega
  have HRR := Lib.hid hRR
  have HD := Lib.hid hD
  have HO3 := Lib.hid hO3
  obtain ⟨BS, hBS⟩ : ∃ z, z = bytS ws l' := ⟨_, rfl⟩
  have hby := bytes17_any W3 gm base ws ms a b d ms.length (lookM 0 ms) (lgF ws) (HM.out.only0 hO3) Hw.out A n' c w.heap.size l' HL'.out (by omega) (HR'.out.only hO3 (by simp)) (by have := hO3.size; have := HO02.out.size; omega) H64'.out
  rw [← hBS] at hby
  have hble : BS.2 ≤ n' := by rw [hBS, ← HL'.out]; exact bytS_le ws l'
  have Hby := Lib.hid hby
  have HBS := Lib.hid hBS
  obtain ⟨hR1, hR2⟩ := hR1
  clear hby hBS hRR hD hO3 Hlo Hnew
  go_wp2_with (fail)
  refine Hby.out.mono ?_
  rintro e W4 ⟨rfl, hO4⟩
  have hlt := HD.out.lt
  have hge := HD.out.ge
  have hD4 := HD.out.only0 hO4
  have hO04 := HO02.out.trans (HO3.out.trans hO4)
  have hw02 := HO02.out.size
  have hn0 : BS.2 ≤ 300 := by omega
  obtain ⟨n0, hn0e⟩ : ∃ z, z = BS.2 := ⟨_, rfl⟩
  rw [← hn0e] at hble hn0 ⊢
  have Hn0 := Lib.hid hn0e
  clear Hby HD hO4 HO3 hn0e
  go_wp2_with (fail)
  go_loopw [20, 19, 18] (fun vi va vo wr => ∃ (i k : Nat) (oa : List UInt8) (p : DkS), vi = .int .i64 (i : Int) ∧ i ≤ 4000 ∧ va = .int .i64 (k : Int) ∧ k ≤ n0 ∧ vo = .string (str oa) ∧ DecAt wr W2 g gr g2 gm false R p ∧ p.flushed = false ∧ Good false (str (bytS ws (l'.take k)).1) oa p ∧ (k < n0 → p.met = false) ∧ (ng ≤ 3000 → nr ≤ 3000 → 3001 ≤ i → p.ring = [] ∧ i ≤ k + 3001) ∧ Only [] w wr) (fun vi _ _ _ => 4000 - (intOf vi).toNat)
  case atStart => exact ⟨0, 0, [], dk0, rfl, by omega, rfl, by omega, rfl, hD4, rfl, Good.new _, fun _ => rfl, fun _ _ h => absurd h (by omega), hO04⟩
  case round =>
    clear hD4 hO04
    obtain ⟨i, k, oa, p, rfl, hi, rfl, hk, rfl, hD, hpf, hG, hmet, hrg, hO⟩ := hrel
    by_cases hgo : i < 4000 ∧ k < n0
    · obtain ⟨hi4, hk0⟩ := hgo
      have hi4' : (i : Int) < 4000 := by omega
      have hk0' : (k : Int) < (n0 : Int) := by omega
      have HG := Lib.hid hG
      have Hrg := Lib.hid hrg
      have HD := Lib.hid hD
      have HO := Lib.hid hO
      have hpm := hmet hk0
      clear hG hrg hD hO hmet
      obtain ⟨q, hq⟩ : ∃ q, q = n' - k := ⟨_, rfl⟩
      have hqz : ((n' : Int) - (k : Int)) = (q : Int) := by omega
      have hq1 : 1 ≤ q ∧ q ≤ 300 := by omega
      have Hq := Lib.hid hq
      have Hqz := Lib.hid hqz
      obtain ⟨hq1, hq2⟩ := hq1
      clear hq hqz
      go_upto_if 87 with (fail)
      go_cut [21] (fun s wx => wr = wx ∧ ∃ x : Nat, s = .int .i64 (x : Int) ∧ x ≤ q ∧ (ng ≤ i → x = q))
      case first =>
        by_cases hin : i < ng
        · obtain ⟨x, ga, oa', hx, hA, hcell⟩ := (HRg.out.only HO.out (by simp)).int HLg.out hin
          subst hA
          have hin' : (i : Int) < (ng : Int) := by omega
          have hx64 := H64g.out x hx
          unfold i64ok at hx64
          obtain ⟨hx1, hx2⟩ := hx64
          have hwi := within_any x 0 q wr ⟨hx1, hx2⟩ (by omega) (by omega) (by omega)
          have hwb := within_bd x 0 q (by omega)
          obtain ⟨y, hy⟩ : ∃ y : Nat, (y : Int) = within x 0 q := ⟨(within x 0 q).toNat, by omega⟩
          rw [← hy] at hwi hwb
          have Hwi := Lib.hid hwi
          clear hwi hy hx
          rw [← Hqz.out] at Hwi
          go_wp2_with (fail)
          refine Hwi.out.mono ?_
          rintro e wr' ⟨rfl, rfl⟩
          go_wp2_with (fail)
          go_meet
          case rel => exact ⟨rfl, y, rfl, by omega, fun h => absurd h (by omega)⟩
        · have hin' : ¬ (i : Int) < (ng : Int) := by omega
          go_wp2_with (fail)
          go_meet
          case rel => exact ⟨rfl, q, by rw [Hqz.out], by omega, fun _ => rfl⟩
      case rest =>
      obtain ⟨rfl, x, rfl, hxq, hxe⟩ := hcut
      have hkx : k + x ≤ n' := by have := Hq.out; omega
      obtain ⟨A', hsl, hrd⟩ := (HR'.out.only HD.out.new (by simp)).slice_lh (P := Tryd.prog) Tryd.underlying27 (by kernel_rfl : (Tryd.prog.info? 3).map (·.size) = some 1) (k := k) (m := x) (c := c) (lo := (k : Int)) (hi := (k : Int) + (x : Int)) rfl (by omega) hkx (by omega)
      obtain ⟨lk, hlk⟩ : ∃ z, z = (l'.drop k).take x := ⟨_, rfl⟩
      have hlkl : lk.length = x := by rw [hlk, List.length_take, List.length_drop, HL'.out]; omega
      rw [Nat.mul_one, Nat.mul_one, ← List.map_drop, ← List.map_take, ← hlk] at hrd
      have h64k : ∀ i ∈ lk, i64ok i := fun i hi => H64'.out i (by rw [hlk] at hi; exact List.mem_of_mem_drop (List.mem_of_mem_take hi))
      have hfd := dkFeed_any wr W2 g gr g2 gm false R p HD.out HT2.out base ws ms a b d ms.length (lookM 0 ms) (lgF ws) HM.out Hw.out A' x (c - k) w.heap.size lk hlkl (by omega) hrd (.inl (HO02.out.size)) h64k
      rw [hpf] at hfd
      simp only [Bool.false_eq_true, if_false] at hfd
      have hfs := feed_flushed ws false R lk p
      obtain ⟨FS, hFS⟩ : ∃ z, z = feedS ws false R lk p := ⟨_, rfl⟩
      rw [← hFS] at hfd hfs
      obtain ⟨t, p1⟩ := FS
      rw [hlk] at hFS
      have hgp := group (ws := ws) (R := R) (l := l') (k := k) (x := x) (n0 := n0) (by rw [Hn0.out, HBS.out]) hk (by rw [HL'.out]; exact hkx) hpm HG.out hFS.symm
      simp only at hfd hfs
      obtain ⟨hg1, hg2, hg3, hg4, hg5⟩ := hgp
      have hfl : p1.flushed = false := by rw [hfs, hpf]
      have Hfd := Lib.hid hfd
      have Hg3 := Lib.hid hg3
      have Hg4 := Lib.hid hg4
      have Hg5 := Lib.hid hg5
      clear hfd hfs hFS hlk hlkl hrd h64k hg3 hg4 hg5 HG
      go_wp2_with (fail)
      refine Hfd.out.mono ?_
      rintro e W5 ⟨rfl, hD5, hO5⟩
      have hO05 : Only [] w W5 := HO.out.trans' hO5 (by intro z hz; simp at hz; exact .inr (by omega))
      have hg1' : k + t ≤ 300 := by omega
      have htx : ¬ (x : Int) < (t : Int) := by omega
      have HD5 := Lib.hid hD5
      have HO5 := Lib.hid hO05
      obtain ⟨kt, hkt⟩ : ∃ z, z = k + t := ⟨_, rfl⟩
      have Hkt := Lib.hid hkt
      have hkt' : (k : Int) + (t : Int) = (kt : Int) := by omega
      rw [← hkt] at Hg3 Hg4 hg1 hg1'
      clear hD5 hO05 hO5 Hfd HD HO hkt
      go_upto_if 122 with (fail)
      go_cut [21] (fun s wx => W5 = wx ∧ ∃ y : Nat, s = .int .i64 (y : Int) ∧ y ≤ 1048576 ∧ (nr ≤ i → y = 1048576))
      case first =>
        by_cases hin : i < nr
        · obtain ⟨x, ga, oa', hx, hA, hcell⟩ := (HRr.out.only HO5.out (by simp)).int HLr.out hin
          subst hA
          have hin' : (i : Int) < (nr : Int) := by omega
          have hx64 := H64r.out x hx
          unfold i64ok at hx64
          obtain ⟨hx1, hx2⟩ := hx64
          have hwi := within_any x 0 40 W5 ⟨hx1, hx2⟩ (by omega) (by omega) (by omega)
          have hwb := within_bd x 0 40 (by omega)
          obtain ⟨y, hy⟩ : ∃ y : Nat, (y : Int) = within x 0 40 := ⟨(within x 0 40).toNat, by omega⟩
          rw [← hy] at hwi hwb
          have Hwi := Lib.hid hwi
          clear hwi hy hx
          go_wp2_with (fail)
          refine Hwi.out.mono ?_
          rintro e wr' ⟨rfl, rfl⟩
          go_wp2_with (fail)
          go_meet
          case rel => exact ⟨rfl, y, rfl, by omega, fun h => absurd h (by omega)⟩
        · have hin' : ¬ (i : Int) < (nr : Int) := by omega
          go_wp2_with (fail)
          go_meet
          case rel => exact ⟨rfl, 1048576, rfl, by omega, fun _ => rfl⟩
      case rest =>
      obtain ⟨rfl, y, rfl, hy1, hye⟩ := hcut
      have hbd := good_bd Hw.out Hg3.out hg1'
      have hrd := dkRead_any W5 W2 g gr g2 gm false R p1 HD5.out HT2.out (y : Int)
      obtain ⟨m, hm⟩ : ∃ m, m = min ((y : Int)).toNat p1.ring.length := ⟨_, rfl⟩
      have hgr := Hg3.out.read (R := R) (y : Int) hfl
      have hfl2 := read_fl R false (y : Int) p1 hfl
      obtain ⟨p2, hp2⟩ : ∃ z, z = dkReadS R false (y : Int) p1 := ⟨_, rfl⟩
      rw [← hm, ← hp2] at hrd hgr
      rw [← hp2] at hfl2
      have hml : m ≤ p1.ring.length := by omega
      have hrg' : ng ≤ 3000 → nr ≤ 3000 → 3001 ≤ i + 1 → p2.ring = [] ∧ i + 1 ≤ kt + 3001 := by
        intro h1 h2 h3
        have hy := hye (by omega)
        rw [hgr.2.2]
        refine ⟨List.drop_of_length_le (by omega), ?_⟩
        by_cases h4 : i = 3000
        · omega
        · obtain ⟨h5, h6⟩ := Hrg.out h1 h2 (by omega)
          have := Hg5.out h5 hk0 (by rw [HL'.out]; have := hxe (by omega); have := Hq.out; omega) (by have := Hlf.out; have := HRR.out; omega)
          have := Hkt.out
          omega
      have hmet' : kt < n0 → p2.met = false := by intro h; rw [hgr.2.1]; exact Hg4.out h
      have Hrg' := Lib.hid hrg'
      have Hmet' := Lib.hid hmet'
      have Hgr := Lib.hid hgr.1
      have Hrd := Lib.hid hrd
      obtain ⟨hb1, hb2, hb3⟩ := hbd
      clear hrd hm hgr hp2 hrg' hmet' Hg3 Hg4 Hg5 Hrg Hkt Hq Hqz hye hxe HD5
      go_wp2_with (fail)
      refine Hrd.out.mono ?_
      rintro e W6 ⟨o, rfl, hwo, hbo, hD6, hO6⟩
      have hO06 : Only [] w W6 := HO5.out.trans' hO6 (by intro z hz; simp at hz; exact .inr (by omega))
      have hcv := byteStr m hbo (n := m) (by rw [List.length_take]; omega)
      have hsum : ¬ 9223372036854775807 < (str oa).size + (str (p1.ring.take m)).size := by
        rw [str_size, str_size, List.length_take]; omega
      have hnx : str oa ++ str (p1.ring.take m) = str (oa ++ p1.ring.take m) := str_app _ _
      obtain ⟨ob, hob⟩ : ∃ z, z = oa ++ p1.ring.take m := ⟨_, rfl⟩
      rw [← hob] at hnx Hgr
      obtain ⟨PT, hPT⟩ : ∃ z, z = bytS ws (l'.take kt) := ⟨_, rfl⟩
      have hsh := run_slice_h (P := Tryd.prog) (A := A) (n := n') (c := c) (m := kt) (hi := (kt : Int)) Tryd.underlying27 (size := 1) (by kernel_rfl) rfl (by omega)
      have hrt := (HR'.out.only hD6.new (by simp)).take (k := kt) (by omega)
      rw [Nat.mul_one, ← List.map_take] at hrt
      have hby := bytes17_any W6 gm base ws ms a b d ms.length (lookM 0 ms) (lgF ws) (HM.out.only0 hD6.new) Hw.out A kt c w.heap.size (l'.take kt) (by rw [List.length_take, HL'.out]; omega) (by omega) hrt hO06.size (fun i hi => H64'.out i (List.mem_of_mem_take hi))
      rw [← hPT] at hby Hgr
      have HPT := Lib.hid hPT
      have hPl : PT.1.length ≤ 76800 := by have := bytS_size Hw.out (l'.take kt); rw [List.length_take, ← hPT] at this; omega
      have Hby := Lib.hid hby
      have HD6 := Lib.hid hD6
      have HO6 := Lib.hid hO06
      have Hnx := Lib.hid hnx
      clear hrt hby hPT hob hD6 hO06 hO6 hbo Hrd hwo hnx HO5
      go_wp2_with (fail)
      rw [Hnx.out]
      go_wp2_with (fail)
      refine Hby.out.mono ?_
      rintro e W7 ⟨rfl, hO7⟩
      have hO37 := HD6.out.new.trans hO7
      have HD7 := Lib.hid (HD6.out.only0 hO7)
      have HO7 := Lib.hid (HO6.out.trans hO7)
      have HT7 := Lib.hid (HT.out.only HO7.out (by simp) (by simp))
      obtain ⟨S, hS⟩ : ∃ S, S = str PT.1 := ⟨_, rfl⟩
      have hSz : S.size ≤ 76800 := by rw [hS, str_size]; exact hPl
      have Hgr2 := Hgr
      rw [HPT.out] at Hgr2
      rw [← hS] at Hgr ⊢
      obtain ⟨hb4, hb5⟩ : ob.length ≤ 230400 ∧ p2.ring.length ≤ 230400 := by have := Hgr.out.len; omega
      have hhs : p2.held.size = tailU S := Hgr.out.len.2.2
      have htl := tail_any S (by omega) W7 HT7.out
      have htS := tailU_le S
      rw [← hhs] at htl htS
      obtain ⟨hd, hhd⟩ : ∃ z, z = p2.held.size := ⟨_, rfl⟩
      rw [← hhd] at htl htS
      obtain ⟨q1, hq1⟩ : ∃ q, q = S.size - hd := ⟨_, rfl⟩
      have hcut1 : cutS S = q1 := by rw [hq1, hhd, hhs]; rfl
      obtain ⟨htS, htS2⟩ := htS
      have hwr1 : IntKind.i64.wrap ((S.size : Int) - (hd : Int)) = (q1 : Int) := by rw [IntWalk.i64_in _ (by omega)]; omega
      have hsl1 := slice_to Tryd.prog 9 Tryd.underlying9 S q1 (by omega)
      have hSq := Hgr.out.emit
      rw [hcut1] at hSq
      obtain ⟨T1, hT1⟩ : ∃ z, z = S.extract 0 q1 := ⟨_, rfl⟩
      have hT1z : T1.size ≤ 76800 := by rw [hT1, ByteArray.size_extract]; omega
      rw [← hT1] at hsl1 hSq
      have Htl := Lib.hid htl
      have HSq := Lib.hid hSq
      have Hhd := Lib.hid hhd
      have Hhs := Lib.hid hhs
      clear htl hSq hhd hhs hcut1 hq1 hT1 hO37 hO7 HD6 HO6 Hby hS hsum hcv hsh hsl hkt'
      go_wp2_with (fail)
      refine Htl.out.mono ?_
      rintro e W8 ⟨rfl, hO8⟩
      have HD8 := Lib.hid (HD7.out.only0 hO8)
      have HO8 := Lib.hid (HO7.out.trans hO8)
      have HT8 := Lib.hid (HT7.out.only hO8 (by simp) (by simp))
      clear HD7 hO8 Htl
      go_upto_if 153 with (fail)
      go_cut [28] (fun s wx => s = .string (str (ob ++ p2.ring)) ∧ Only [] W8 wx)
      case first =>
        have hTe : T1 = str (ob ++ p2.ring) := by rw [HSq.out]; exact (str_self _).symm
        have HTe := Lib.hid hTe
        clear hTe
        go_wp2_with (fail)
        go_meet
        case rel => exact ⟨by rw [HTe.out], Only.refl _ _⟩
      case rest =>
      obtain ⟨rfl, hO9⟩ := hcut
      have hD9 := HD8.out.only0 hO9
      have hO09 := HO8.out.trans hO9
      have hT9 := HT8.out.only hO9 (by simp) (by simp)
      have hs1 := slice_to Tryd.prog 9 Tryd.underlying9 (str (ob ++ p2.ring)) (str ob).size (by rw [str_size, str_size, List.length_append]; omega)
      rw [pre_str] at hs1
      have hz1 : (((str ob).size : Int) + (p2.ring.length : Int) == ((str (ob ++ p2.ring)).size : Int)) = true := by rw [str_size, str_size, List.length_append, beq_iff_eq]; omega
      have hse1 : ((str ob).toList == (str ob).toList) = true := beq_self_eq_true _
      have hz2 : (((str ob).size : Int) + (p2.ring.length : Int) != ((str (ob ++ p2.ring)).size : Int)) = false := by rw [bne, hz1]; rfl
      have hse2 : ((str ob).toList != (str ob).toList) = false := by rw [bne, hse1]; rfl
      rw [← str_size] at hb4
      have Hwt := Lib.hid (dkWait_any _ W2 g gr g2 gm false R p2 hD9)
      have Hhl := Lib.hid (dkHeld_any _ W2 g gr g2 gm false R p2 hD9)
      have Htl := Lib.hid (tail_any S (by omega) _ hT9)
      rw [← Hhs.out, ← Hhd.out] at Htl
      rw [← Hhd.out] at Hhl
      obtain ⟨so, hso⟩ : ∃ z, z = str ob := ⟨_, rfl⟩
      obtain ⟨X1, hX1⟩ : ∃ z, z = str (ob ++ p2.ring) := ⟨_, rfl⟩
      obtain ⟨r1, hr1⟩ : ∃ z, z = p2.ring.length := ⟨_, rfl⟩
      rw [← hso] at hs1 hz1 hse1 hz2 hse2 hb4 ⊢
      rw [← hX1] at hs1 hz1 hz2 ⊢
      rw [← hr1] at Hwt hz1 hz2 hb5
      have Hso := Lib.hid hso
      have HD9 := Lib.hid hD9
      have HO9 := Lib.hid hO09
      have h3n : ¬ (3 : Int) < (hd : Int) := by omega
      have hee : ((hd : Int) == (hd : Int)) = true := beq_self_eq_true _
      have hee2 : ((hd : Int) != (hd : Int)) = false := by rw [bne, hee]; rfl
      clear hso hX1 hr1 hD9 hO09 hT9 hO9 HD8 HO8 HT8 HSq
      go_wp2_with (fail)
      refine Hwt.out.mono ?_
      rintro e W9' ⟨rfl, rfl⟩
      go_wp2_with (fail)
      refine Hhl.out.mono ?_
      rintro e W9'' ⟨rfl, rfl⟩
      go_wp2_with (fail)
      refine Htl.out.mono ?_
      rintro e W10 ⟨rfl, hO10⟩
      have HO10 := Lib.hid (HO9.out.trans hO10)
      have HD10 := Lib.hid (HD9.out.only0 hO10)
      clear hO10 HD9 HO9 Htl
      go_wp2_with (fail)
      refine (dkHeld_any _ W2 g gr g2 gm false R p2 HD10.out).mono ?_
      rintro e W11 ⟨rfl, rfl⟩
      rw [← Hhd.out]
      go_wp2_with (fail)
      go_roundw
      case rel => exact ⟨i + 1, kt, ob, p2, by go_num, by omega, rfl, hg1, by rw [Hso.out], HD10.out, hfl2, Hgr2.out, Hmet'.out, Hrg'.out, HO10.out⟩
      case measure => simp [intOf]; omega
    · by_cases hk0 : k < n0
      · obtain rfl : i = 4000 := by omega
        have hi4 : ¬ ((4000 : Nat) : Int) < 4000 := by omega
        have hk0' : (k : Int) < (n0 : Int) := by omega
        have hor : 3000 < ng ∨ 3000 < nr := by
          apply Classical.byContradiction
          intro hno
          have := hrg (by omega) (by omega) (by omega)
          omega
        have hT9 := HT.out.only hO (by simp) (by simp)
        have HO := Lib.hid hO
        clear hrg hG hmet hD hO hgo hi
        by_cases hng : (3000 : Int) < (ng : Int)
        · go_wp2_with (fail)
          refine (known17_any wr hT9).mono ?_
          rintro e W10 ⟨rfl, hO10⟩
          go_wp2_with (fail)
          go_ret
          exact ⟨rfl, HO.out.trans hO10⟩
        · have hnr : (3000 : Int) < (nr : Int) := by omega
          clear hor
          go_wp2_with (fail)
          refine (known17_any wr hT9).mono ?_
          rintro e W10 ⟨rfl, hO10⟩
          go_wp2_with (fail)
          go_ret
          exact ⟨rfl, HO.out.trans hO10⟩
      · obtain rfl : k = n0 := by omega
        have hfu := bytS_full ws l' (n0 := k) (by rw [Hn0.out, HBS.out])
        rw [hfu, ← HBS.out] at hG
        obtain ⟨S, hS⟩ : ∃ S, S = str BS.1 := ⟨_, rfl⟩
        have hSz : S.size ≤ 76800 := by have := bytS_size Hw.out l'; rw [← HBS.out, HL'.out] at this; rw [hS, str_size]; omega
        rw [← hS] at hG
        have hfin := Fin.start (R := R) hG hpf
        have hfl := dkFlush_any wr W2 g gr g2 gm false R p hD HT2.out
        rw [hpf] at hfl
        simp only [Bool.false_eq_true, if_false] at hfl
        obtain ⟨p3, hp3⟩ : ∃ z, z = dkFlushS R false p := ⟨_, rfl⟩
        rw [← hp3] at hfl hfin
        have Hfl := Lib.hid hfl
        have Hfin := Lib.hid hfin
        have HO := Lib.hid hO
        have HS := Lib.hid hS
        have hkk : ¬ (k : Int) < (k : Int) := by omega
        have hke : ((k : Int) == (k : Int)) = true := beq_self_eq_true _
        have hend : ¬ ((i : Int) < 4000 ∧ (k : Int) < (k : Int)) := by omega
        rw [← hS]
        clear hfu hS hG hD hO hrg hmet hfl hfin hp3 hgo
        by_cases hi4 : (i : Int) < 4000
        all_goals
         go_wp2_with (fail)
         refine Hfl.out.mono ?_
         rintro e W5 ⟨rfl, hD5, hO5⟩
         have hO05 : Only [] w W5 := HO.out.trans' hO5 (by intro z hz; simp at hz; exact .inr (by omega))
         clear Hfl hO5
         go_wp2_with (fail)
         go_loopw [29, 18] (fun vi vo wr => ∃ (j : Nat) (ob : List UInt8) (x : DkS), vi = .int .i64 (j : Int) ∧ j ≤ 3 ∧ vo = .string (str ob) ∧ DecAt wr W2 g gr g2 gm false R x ∧ Fin false S j ob x ∧ Only [] w wr) (fun vi _ _ => 3 - (intOf vi).toNat)
         case atStart => exact ⟨0, oa, p3, rfl, by omega, rfl, hD5, Hfin.out, hO05⟩
         case round =>
          clear hD5 hO05
          obtain ⟨j, ob, x, rfl, hj, rfl, hD, hF3, hO⟩ := hrel
          have hbl := hF3.len
          have hbl1 : ob.length ≤ 230400 := by omega
          have hbl2 : x.ring.length ≤ 230400 := by omega
          clear hbl
          by_cases hj3 : j < 3
          · have hrd := dkRead_any _ W2 g gr g2 gm false R x hD HT2.out 1048576
            obtain ⟨hm, hnx⟩ := hF3.read (R := R) (k := 1048576) (by omega) (by omega)
            rw [hm, List.take_length] at hrd
            obtain ⟨m, hmm⟩ : ∃ z, z = x.ring.length := ⟨_, rfl⟩
            rw [← hmm] at hrd hbl2
            obtain ⟨x2, hx2⟩ : ∃ z, z = dkReadS R false 1048576 x := ⟨_, rfl⟩
            rw [← hx2] at hrd hnx
            have Hrd := Lib.hid hrd
            have Hnx := Lib.hid hnx
            have Hmm := Lib.hid hmm
            have HO3 := Lib.hid hO
            have hj3' : (j : Int) < 3 := by omega
            clear hrd hnx hm hmm hx2 hD hF3 hO
            go_wp2_with (fail)
            refine Hrd.out.mono ?_
            rintro e W6 ⟨o, rfl, hwo, hbo, hD6, hO6⟩
            have hO06 : Only [] w W6 := HO3.out.trans' hO6 (by intro z hz; simp at hz; exact .inr (by omega))
            have hcv := byteStr m hbo (n := m) Hmm.out.symm
            have hsum : ¬ 9223372036854775807 < (str ob).size + (str x.ring).size := by
              rw [str_size, str_size, ← Hmm.out]; omega
            have HD6 := Lib.hid hD6
            have HO6 := Lib.hid hO06
            clear hbo hD6 hO06 hO6 Hrd hwo HO3
            go_wp2_with (fail)
            go_roundw
            case rel => exact ⟨j + 1, ob ++ x.ring, x2, by go_num, by omega, by rw [← str_app], HD6.out, Hnx.out, HO6.out⟩
            case measure => simp [intOf]; omega
          · obtain rfl : j = 3 := by omega
            obtain ⟨hou, hhe⟩ := hF3.done
            have Hou := Lib.hid hou
            have Hhe := Lib.hid hhe
            have hT6 := HT.out.only hO (by simp) (by simp)
            have hhl := dkHeld_any _ W2 g gr g2 gm false R x hD
            rw [hhe, show (ByteArray.empty.size : Nat) = 0 from rfl] at hhl
            have Hhl := Lib.hid hhl
            have HT6 := Lib.hid hT6
            have HO3 := Lib.hid hO
            have HD3 := Lib.hid hD
            have hj3' : ¬ ((3 : Nat) : Int) < 3 := by omega
            clear hhl hou hhe hD hF3 hO hT6 HO
            have hse : ((str ob).toList == (str ob).toList) = true := beq_self_eq_true _
            have hTe : S = str ob := by rw [Hou.out]; exact (str_self _).symm
            have HTe := Lib.hid hTe
            clear hTe
            rw [HTe.out]
            go_wp2_with (fail)
            refine Hhl.out.mono ?_
            rintro e W9 ⟨rfl, rfl⟩
            have hO09 := HO3.out
            have hT9 := HT.out.only hO09 (by simp) (by simp)
            go_wp2_with (fail)
            refine (known17_any _ hT9).mono ?_
            rintro e W10 ⟨rfl, hO10⟩
            go_wp2_with (fail)
            go_ret
            exact ⟨rfl, hO09.trans hO10⟩
end Go.Proofs.YtemnanhoiacphaaDoor

set_option linter.unusedVariables false
namespace Go.Proofs.YtemnanhoiacphaaDoor
open Go.RowKit
theorem detokAll_walk (w : World) (v0 v1 v2 v3 v4 : Value) (ws : List ByteArray) (ms : List Mg) (a b d : List Sp) (hR : Rd5 w v0 v1 v2 v3 v4 ws ms a b d)
    (s0 : ws.length ≤ 8796093021952) (s1 : ms.length ≤ 5864062014634) (s2 : a.length ≤ 17592186043904) (s3 : b.length ≤ 17592186043904) (s4 : d.length ≤ 17592186043904) (hws : ∀ s ∈ ws, s.size ≤ maxLen) (hms : ∀ m ∈ ms, m.ok) (rep : Bool)
    (A : Option Addr) (n c : Nat) (l : List Int) (hl : l.length = n) (hr : Rd w w.heap.size 1 A n (l.map (Value.int .i64))) (hnc : n ≤ c) (hc : c ≤ 140737488351232) (hwf : ∀ x ∈ l, (Lit.int .i64 x).wf = true)
    (Ag : Option Addr) (ng cg : Nat) (lg : List Int) (hlg : lg.length = ng) (hrg : Rd w w.heap.size 1 Ag ng (lg.map (Value.int .i64))) (hncg : ng ≤ cg) (hcg : cg ≤ 140737488351232) (hwfg : ∀ x ∈ lg, (Lit.int .i64 x).wf = true)
    (Ar : Option Addr) (nr cr : Nat) (lr : List Int) (hlr : lr.length = nr) (hrr : Rd w w.heap.size 1 Ar nr (lr.map (Value.int .i64))) (hncr : nr ≤ cr) (hcr : cr ≤ 140737488351232) (hwfr : ∀ x ∈ lr, (Lit.int .i64 x).wf = true) (hT : Tabs w) :
    Calls Tryd.prog 8 #[.agg #[v0, v1, v2, v3, v4], .bool rep, .slice A n c, .slice Ag ng cg, .slice Ar nr cr] w fun e w' => e = .returned (.bool true) ∧ Only [] w w' := by
  cases rep with
  | true => exact detokAll_true w v0 v1 v2 v3 v4 ws ms a b d hR s0 s1 s2 s3 s4 hws hms A n c l hl hr hnc hc hwf Ag ng cg lg hlg hrg hncg hcg hwfg Ar nr cr lr hlr hrr hncr hcr hwfr hT
  | false => exact detokAll_false w v0 v1 v2 v3 v4 ws ms a b d hR s0 s1 s2 s3 s4 hws hms A n c l hl hr hnc hc hwf Ag ng cg lg hlg hrg hncg hcg hwfg Ar nr cr lr hlr hrr hncr hcr hwfr hT
end Go.Proofs.YtemnanhoiacphaaDoor
