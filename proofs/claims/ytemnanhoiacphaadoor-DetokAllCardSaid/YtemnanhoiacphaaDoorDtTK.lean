/- DetokTwo. -/
import Derived.Test.YtemnanhoiacphaaDoorPk24
import Derived.Test.YtemnanhoiacphaaDoorOpenMdK
set_option linter.unusedVariables false
set_option linter.unusedSimpArgs false
set_option maxRecDepth 100000
namespace Go.Proofs.YtemnanhoiacphaaDoor
open Go.RowKit

theorem DecAt.base {w V W0 : World} {g gr g2 gm : Nat} {rep : Bool} {R : Nat} {x : DkS} (h : DecAt w W0 g gr g2 gm rep R x) (hO : Only [] V W0) : DecAt w V g gr g2 gm rep R x :=
  ⟨h.blk, h.ring, hO.trans h.new, by have := hO.size; have := h.ge; omega, h.h3⟩
theorem DecAt.lt {w W0 : World} {g gr g2 gm : Nat} {rep : Bool} {R : Nat} {x : DkS} (h : DecAt w W0 g gr g2 gm rep R x) : g < w.heap.size ∧ gr < w.heap.size ∧ g2 < w.heap.size := by
  obtain ⟨at_, arr, hr⟩ := h.ring
  exact ⟨h.blk.lt, hr.1.lt, hr.2.1.lt⟩
theorem read_fl (R : Nat) (rep : Bool) (k : Int) (x : DkS) (h : x.flushed = false) : (dkReadS R rep k x).flushed = false := by rw [read_flushed]; exact h
/-- both sides of a round: one id of a list, where there is one -/
theorem one_round {ws : List ByteArray} (hw : ∀ s ∈ ws, s.size ≤ 256) {rep : Bool} {R : Nat} {l : List Int} {i : Nat} {out : List UInt8} {x : DkS} (h : Good rep (str (bytS ws (l.take i)).1) out x) (ht : Took ws (l.take i) x) (hi : i ≤ 60) (hR : 60000 ≤ R) {id : Int} (hid : l[i]? = some id) :
    Good rep (str (bytS ws (l.take (i + 1))).1) out (feedS ws rep R [id] x).2 ∧ Took ws (l.take (i + 1)) (feedS ws rep R [id] x).2 := by
  rw [List.take_add_one, hid]
  exact one_more hw h ht (by rw [List.length_take]; omega)
theorem no_round {l : List Int} {i n : Nat} (hl : l.length = n) (h : ¬ i < n) : l.take (i + 1) = l.take i := by
  rw [List.take_of_length_le (by omega), List.take_of_length_le (by omega)]
theorem Good.out_le {ws : List ByteArray} (hw : ∀ s ∈ ws, s.size ≤ 256) {rep : Bool} {l : List Int} {i : Nat} {out : List UInt8} {x : DkS} (h : Good rep (str (bytS ws (l.take i)).1) out x) (hi : i ≤ 60) : out.length ≤ 46080 ∧ x.ring.length ≤ 46080 := by
  have h1 := h.len
  have h2 := bytS_size hw (l.take i)
  rw [str_size] at h1
  rw [List.length_take] at h2
  omega

set_option maxHeartbeats 16000000 in
theorem detokTwo_walk (w : World) (v0 v1 v2 v3 v4 : Value) (ws : List ByteArray) (ms : List Mg) (a b d : List Sp) (hR : Rd5 w v0 v1 v2 v3 v4 ws ms a b d)
    (s0 : ws.length ≤ 8796093021952) (s1 : ms.length ≤ 5864062014634) (s2 : a.length ≤ 17592186043904) (s3 : b.length ≤ 17592186043904) (s4 : d.length ≤ 17592186043904) (hws : ∀ s ∈ ws, s.size ≤ maxLen) (hms : ∀ m ∈ ms, m.ok)
    (A : Option Addr) (n c : Nat) (l : List Int) (hl : l.length = n) (hr : Rd w w.heap.size 1 A n (l.map (Value.int .i64))) (hnc : n ≤ c) (hc : c ≤ 140737488351232) (hwf : ∀ x ∈ l, (Lit.int .i64 x).wf = true)
    (Ab : Option Addr) (nb cb : Nat) (lb : List Int) (hlb : lb.length = nb) (hrb : Rd w w.heap.size 1 Ab nb (lb.map (Value.int .i64))) (hncb : nb ≤ cb) (hcb : cb ≤ 140737488351232) (hwfb : ∀ x ∈ lb, (Lit.int .i64 x).wf = true) (hT : Tabs w) :
    Calls Tryd.prog 4 #[.agg #[v0, v1, v2, v3, v4], .slice A n c, .slice Ab nb cb] w fun e w' => e = .returned (.bool true) ∧ Only [] w w' := by
  obtain ⟨h, hh⟩ : ∃ h, h = w.heap.size := ⟨_, rfl⟩
  obtain ⟨W1, hW1⟩ : ∃ W1, W1 = w.alloc (.cells #[v0, v1, v2, v3, v4] 26) := ⟨_, rfl⟩
  have hb : Blk W1 h 26 [v0, v1, v2, v3, v4] := by rw [hW1]; exact Blk.new' _ _ _ hh.symm rfl
  have hO1 : Only [] w W1 := by rw [hW1]; exact (Only.refl _ _).alloc _
  have hof := ofM_any W1 v0 v1 v2 v3 v4 ws ms a b d (hR.only hO1) (by omega) (by omega) s2 s3 s4 hws hms
  have k0 : W1.cell? ⟨h, 0, none⟩ = some v0 := hb.cell 0
  have k1 : W1.cell? ⟨h, 1, none⟩ = some v1 := hb.cell 1
  have k2 : W1.cell? ⟨h, 2, none⟩ = some v2 := hb.cell 2
  have k3 : W1.cell? ⟨h, 3, none⟩ = some v3 := hb.cell 3
  have k4 : W1.cell? ⟨h, 4, none⟩ = some v4 := hb.cell 4
  obtain ⟨⟨A0, d0, e0, -⟩, ⟨A1, d1, e1, -⟩, ⟨A2, d2, e2, -⟩, ⟨A3, d3, e3, -⟩, ⟨A4, d4, e4, -⟩⟩ := hR
  have Hof := Lib.hid hof
  have Hh := Lib.hid hh
  have HW := Lib.hid hW1
  have HO1 := Lib.hid hO1
  have HT := Lib.hid hT
  have HL := Lib.hid hl
  have HR := Lib.hid hr
  have H64 := Lib.hid (i64s_ok hwf)
  have HLb := Lib.hid hlb
  have HRb := Lib.hid hrb
  have H64b := Lib.hid (i64s_ok hwfb)
  clear hof hh hW1 hb hO1 hT hl hr hwf hlb hrb hwfb hws hms s0 s1 s2 s3 s4
  subst e0 e1 e2 e3 e4
  go_enter Tryd.func4, Tryd.ntmps4
  go_upto_region 1 with (fail)
  rw [← Hh.out, ← HW.out]
  go_wp2_with (fail)
  refine Hof.out.mono ?_
  rintro e W2 hpost
  rcases hpost.no with ⟨rfl, hO2⟩ | ⟨gm, base, rfl, hO2, hbW, hF, hM, -⟩
  · clear hpost k0 k1 k2 k3 k4 Hof
    have hT2 := HT.out.only (HO1.out.trans hO2) (by simp) (by simp)
    go_wp2_with (fail)
    refine (known17_any W2 hT2).mono ?_
    rintro e W3 ⟨rfl, hO3⟩
    go_wp2_with (fail)
    go_ret
    exact ⟨rfl, HO1.out.trans (hO2.trans hO3)⟩
  obtain ⟨hw256, hlg⟩ := fault_small hF
  have hO02 := HO1.out.trans hO2
  have hT2 := HT.out.only hO02 (by simp) (by simp)
  have HT2 := Lib.hid hT2
  have HO02 := Lib.hid hO02
  have HM := Lib.hid hM
  have Hw := Lib.hid hw256
  have hnew := dkNew_any W2 gm base ws ms a b d ms.length (lookM 0 ms) (lgF ws) hM (by omega) 1048576 (by unfold i64ok; omega) false
  have Hnew := Lib.hid hnew
  clear hpost k0 k1 k2 k3 k4 Hof hnew hO02 hT2 hM hw256
  go_wp2_with (fail)
  refine Hnew.out.mono ?_
  rintro e W3 ⟨hO3, ⟨hno, -⟩ | ⟨-, g, gr, g2, rfl, hD⟩⟩
  · exact absurd (by unfold NewOk; omega) hno
  have hnew := dkNew_any W3 gm base ws ms a b d ms.length (lookM 0 ms) (lgF ws) (HM.out.only0 hO3) (by omega) 1048576 (by unfold i64ok; omega) true
  have Hnew2 := Lib.hid hnew
  have HD := Lib.hid hD
  have HO3 := Lib.hid hO3
  clear hnew hD hO3 Hnew
  go_wp2_with (fail)
  refine Hnew2.out.mono ?_
  rintro e W4 ⟨hO4, ⟨hno, -⟩ | ⟨-, y, yr, y2, rfl, hE⟩⟩
  · exact absurd (by unfold NewOk; omega) hno
  have hlt := HD.out.lt
  have hge := HD.out.ge
  have hyge := hE.ge
  have hD4 := HD.out.only0 hO4
  have hE4 := hE.base HO3.out
  have hO04 := HO02.out.trans (HO3.out.trans hO4)
  have hw02 := HO02.out.size
  clear hE Hnew2
  go_wp2_with (fail)
  go_loopw [16, 14, 15] (fun v va vb wr => ∃ (i : Nat) (oa ob : List UInt8) (p q : DkS), v = .int .i64 (i : Int) ∧ i ≤ 60 ∧ va = .string (str oa) ∧ vb = .string (str ob) ∧ DecAt wr W2 g gr g2 gm false 1048576 p ∧ DecAt wr W2 y yr y2 gm true 1048576 q ∧ p.flushed = false ∧ q.flushed = false ∧ Good false (str (bytS ws (l.take i)).1) oa p ∧ Good true (str (bytS ws (lb.take i)).1) ob q ∧ Took ws (l.take i) p ∧ Took ws (lb.take i) q ∧ Only [] w wr) (fun v _ _ _ => 60 - (intOf v).toNat)
  case atStart => exact ⟨0, [], [], dk0, dk0, rfl, by omega, rfl, rfl, hD4, hE4, rfl, rfl, Good.new _, Good.new _, ⟨fun _ => rfl, fun h => by cases h⟩, ⟨fun _ => rfl, fun h => by cases h⟩, hO04⟩
  case round =>
    clear hD4 hE4 hO04
    obtain ⟨i, oa, ob, p, q, rfl, hi, rfl, rfl, hD, hE, hpf, hqf, hGp, hGq, hKp, hKq, hO⟩ := hrel
    by_cases hlt2 : i < 60
    · have HGq := Lib.hid hGq
      have HKq := Lib.hid hKq
      have HGp := Lib.hid hGp
      have HKp := Lib.hid hKp
      have HD := Lib.hid hD
      have HE := Lib.hid hE
      have HO := Lib.hid hO
      have hi60 : (i : Int) < 60 := by omega
      clear hGq hKq hGp hKp hD hE hO
      go_upto_if 68 with (fail)
      go_cut [] (fun wx => ∃ p', DecAt wx W2 g gr g2 gm false 1048576 p' ∧ DecAt wx W2 y yr y2 gm true 1048576 q ∧ p'.flushed = false ∧ Good false (str (bytS ws (l.take (i + 1))).1) oa p' ∧ Took ws (l.take (i + 1)) p' ∧ Only [] w wx)
      case first =>
        by_cases hin : i < n
        · obtain ⟨id, hid⟩ : ∃ id, l[i]? = some id := ⟨_, List.getElem?_eq_getElem (by rw [HL.out]; exact hin)⟩
          have hrw := HR.out.only HO.out (by simp)
          obtain ⟨ga, oa', ua, hA, _, _, _⟩ := hrw.at1 hin
          subst hA
          have hone := hrw.one hid hin
          have hid64 := H64.out id (List.mem_of_getElem? hid)
          have hsl := run_slice_one (P := Tryd.prog) (t := 27) (e := 3) Tryd.underlying27 (by kernel_rfl) (g := ga) (o := oa') (n := n) (c := c) (i := i) (by omega)
          have hfd := dkFeed_any wr W2 g gr g2 gm false 1048576 p HD.out HT2.out base ws ms a b d ms.length (lookM 0 ms) (lgF ws) HM.out Hw.out (some ⟨ga, oa' + i, none⟩) 1 (c - i) w.heap.size [id] rfl (by omega) hone (.inl (HO02.out.size)) (by intro z hz; simp at hz; subst hz; exact hid64)
          rw [hpf] at hfd
          simp only [Bool.false_eq_true, if_false] at hfd
          have Hfd := Lib.hid hfd
          have hfs : (feedS ws false 1048576 [id] p).2.flushed = false := by rw [feed_flushed]; exact hpf
          have hgd := one_round Hw.out (R := 1048576) HGp.out HKp.out hi (by omega) hid
          obtain ⟨FS, hFS⟩ : ∃ z, z = feedS ws false 1048576 [id] p := ⟨_, rfl⟩
          rw [← hFS] at Hfd hfs hgd
          have Hgd := Lib.hid hgd
          have hini : (i : Int) < (n : Int) := by omega
          clear hfd hid hrw hone hFS hgd
          go_wp2_with (fail)
          refine Hfd.out.mono ?_
          rintro e W5 ⟨rfl, hD5, hO5⟩
          have hE5 := HE.out.only hO5 (by simp; omega) (by simp; omega) (by simp; omega) (by intro z hz; simp at hz; omega)
          have hO05 : Only [] w W5 := HO.out.trans' hO5 (by intro z hz; simp at hz; exact .inr (by omega))
          clear Hfd
          go_wp2_with (fail)
          go_meet
          case rel => exact ⟨FS.2, hD5, hE5, hfs, Hgd.out.1, Hgd.out.2, hO05⟩
        · have hini : ¬ (i : Int) < (n : Int) := by omega
          go_wp2_with (fail)
          go_meet
          case rel => exact ⟨p, HD.out, HE.out, hpf, by rw [no_round HL.out hin]; exact HGp.out, by rw [no_round HL.out hin]; exact HKp.out, HO.out⟩
      case rest =>
      clear HGp HKp HD HE HO hpf
      obtain ⟨p', hD, hE, hpf, hGp, hKp, hO⟩ := hcut
      have HGp := Lib.hid hGp
      have HKp := Lib.hid hKp
      have HD := Lib.hid hD
      have HE := Lib.hid hE
      have HO := Lib.hid hO
      clear hGp hKp hD hE hO
      go_upto_if 79 with (fail)
      go_cut [] (fun wx => ∃ q', DecAt wx W2 g gr g2 gm false 1048576 p' ∧ DecAt wx W2 y yr y2 gm true 1048576 q' ∧ q'.flushed = false ∧ Good true (str (bytS ws (lb.take (i + 1))).1) ob q' ∧ Took ws (lb.take (i + 1)) q' ∧ Only [] w wx)
      case first =>
        by_cases hin : i < nb
        · obtain ⟨id, hid⟩ : ∃ id, lb[i]? = some id := ⟨_, List.getElem?_eq_getElem (by rw [HLb.out]; exact hin)⟩
          have hrw := HRb.out.only HO.out (by simp)
          obtain ⟨ga, oa', ua, hA, _, _, _⟩ := hrw.at1 hin
          subst hA
          have hone := hrw.one hid hin
          have hid64 := H64b.out id (List.mem_of_getElem? hid)
          have hsl := run_slice_one (P := Tryd.prog) (t := 27) (e := 3) Tryd.underlying27 (by kernel_rfl) (g := ga) (o := oa') (n := nb) (c := cb) (i := i) (by omega)
          have hfd := dkFeed_any _ W2 y yr y2 gm true 1048576 q HE.out HT2.out base ws ms a b d ms.length (lookM 0 ms) (lgF ws) HM.out Hw.out (some ⟨ga, oa' + i, none⟩) 1 (cb - i) w.heap.size [id] rfl (by omega) hone (.inl (HO02.out.size)) (by intro z hz; simp at hz; subst hz; exact hid64)
          rw [hqf] at hfd
          simp only [Bool.false_eq_true, if_false] at hfd
          have Hfd := Lib.hid hfd
          have hfs : (feedS ws true 1048576 [id] q).2.flushed = false := by rw [feed_flushed]; exact hqf
          have hgd := one_round Hw.out (R := 1048576) HGq.out HKq.out hi (by omega) hid
          obtain ⟨FS, hFS⟩ : ∃ z, z = feedS ws true 1048576 [id] q := ⟨_, rfl⟩
          rw [← hFS] at Hfd hfs hgd
          have Hgd := Lib.hid hgd
          have hini : (i : Int) < (nb : Int) := by omega
          clear hfd hid hrw hone hFS hgd
          go_wp2_with (fail)
          refine Hfd.out.mono ?_
          rintro e W5 ⟨rfl, hE5, hO5⟩
          have hD5 := HD.out.only hO5 (by simp; omega) (by simp; omega) (by simp; omega) (by intro z hz; simp at hz; omega)
          have hO05 : Only [] w W5 := HO.out.trans' hO5 (by intro z hz; simp at hz; exact .inr (by omega))
          clear Hfd
          go_wp2_with (fail)
          go_meet
          case rel => exact ⟨FS.2, hD5, hE5, hfs, Hgd.out.1, Hgd.out.2, hO05⟩
        · have hini : ¬ (i : Int) < (nb : Int) := by omega
          go_wp2_with (fail)
          go_meet
          case rel => exact ⟨q, HD.out, HE.out, hqf, by rw [no_round HLb.out hin]; exact HGq.out, by rw [no_round HLb.out hin]; exact HKq.out, HO.out⟩
      case rest =>
      clear HGq HKq HD HE HO hqf
      obtain ⟨q', hD, hE, hqf, hGq, hKq, hO⟩ := hcut
      have HKq := Lib.hid hKq
      have HGp2 := HGp
      have hrd := dkRead_any _ W2 g gr g2 gm false 1048576 p' hD HT2.out 5
      obtain ⟨m, hm⟩ : ∃ m, m = min (5 : Int).toNat p'.ring.length := ⟨_, rfl⟩
      have hg := HGp.out.read (R := 1048576) 5 hpf
      have hpf' := read_fl 1048576 false 5 p' hpf
      obtain ⟨p2, hp2⟩ : ∃ z, z = dkReadS 1048576 false 5 p' := ⟨_, rfl⟩
      have hol := HGp.out.out_le Hw.out (by omega)
      rw [← hm, ← hp2] at hrd hg
      rw [← hp2] at hpf'
      have hKp2 : Took ws (l.take (i + 1)) p2 := by unfold Took; rw [hg.2.1]; exact HKp.out
      have hml : m ≤ p'.ring.length := by omega
      have hm5 : m ≤ 5 := by rw [hm]; exact Nat.min_le_left _ _
      have Hrd := Lib.hid hrd
      have Hg := Lib.hid hg.1
      have HE := Lib.hid hE
      have HO := Lib.hid hO
      have HGq := Lib.hid hGq
      have HKp2 := Lib.hid hKp2
      clear hrd hm hg hp2 hE hO hD hGq hKq hKp2 HGp HGp2 HKp
      go_wp2_with (fail)
      refine Hrd.out.mono ?_
      rintro e W6 ⟨o, rfl, hwo, hbo, hD6, hO6⟩
      have hE6 := HE.out.only hO6 (by simp; omega) (by simp; omega) (by simp; omega) (by intro z hz; simp at hz; omega)
      have hO06 : Only [] w W6 := HO.out.trans' hO6 (by intro z hz; simp at hz; exact .inr (by omega))
      have hbl := hbo.lt
      have hrd := dkRead_any W6 W2 y yr y2 gm true 1048576 q' hE6 HT2.out 5
      obtain ⟨m2, hm⟩ : ∃ m, m = min (5 : Int).toNat q'.ring.length := ⟨_, rfl⟩
      have hg := HGq.out.read (R := 1048576) 5 hqf
      have hqf' := read_fl 1048576 true 5 q' hqf
      obtain ⟨q2, hq2⟩ : ∃ z, z = dkReadS 1048576 true 5 q' := ⟨_, rfl⟩
      have hol2 := HGq.out.out_le Hw.out (by omega)
      rw [← hm, ← hq2] at hrd hg
      rw [← hq2] at hqf'
      have hKq2 : Took ws (lb.take (i + 1)) q2 := by unfold Took; rw [hg.2.1]; exact HKq.out
      have hml2 : m2 ≤ q'.ring.length := by omega
      have Hrd2 := Lib.hid hrd
      have Hg2 := Lib.hid hg.1
      have HKq2 := Lib.hid hKq2
      have Hbo := Lib.hid hbo
      have HD6 := Lib.hid hD6
      have HO6 := Lib.hid hO06
      have hog : o ≠ y ∧ o ≠ yr ∧ o ≠ y2 := by have := hE6.lt; have := HE.out.lt; omega
      clear hrd hm hg hq2 hD6 hO06 hO6 hE6 Hrd HGq HKq hKq2 HE HO hbo
      go_wp2_with (fail)
      refine Hrd2.out.mono ?_
      rintro e W7 ⟨o2, rfl, hwo2, hbo2, hE7, hO7⟩
      have hD7 := HD6.out.only hO7 (by simp; omega) (by simp; omega) (by simp; omega) (by intro z hz; simp at hz; omega)
      have hO07 : Only [] w W7 := HO6.out.trans' hO7 (by intro z hz; simp at hz; exact .inr (by omega))
      have hb7 := Hbo.out.only hO7 (by simp; omega)
      have hcv := byteStr m hb7 (n := m) (by rw [List.length_take]; omega)
      have hcv2 := byteStr m2 hbo2 (n := m2) (by rw [List.length_take]; omega)
      have hsum : ¬ 9223372036854775807 < (str oa).size + (str (p'.ring.take m)).size := by
        rw [str_size, str_size, List.length_take]; omega
      have hsum2 : ¬ 9223372036854775807 < (str ob).size + (str (q'.ring.take m2)).size := by
        rw [str_size, str_size, List.length_take]; omega
      have HE7 := Lib.hid hE7
      have HD7 := Lib.hid hD7
      have HO7 := Lib.hid hO07
      clear hE7 hD7 hO07 hO7 hb7 hbo2 Hbo Hrd2 HD6 HO6 hwo hwo2 hbl hog
      go_wp2_with (fail)
      go_roundw
      case rel => exact ⟨i + 1, _, _, p2, q2, by go_num, by omega, by rw [← str_app], by rw [← str_app], HD7.out, HE7.out, hpf', hqf', Hg.out, Hg2.out, HKp2.out, HKq2.out, HO7.out⟩
      case measure => simp [intOf]; omega
    · obtain rfl : i = 60 := by omega
      have hi60 : ¬ ((60 : Nat) : Int) < 60 := by omega
      have HGq := Lib.hid hGq
      have HGp := Lib.hid hGp
      have HD := Lib.hid hD
      have HE := Lib.hid hE
      have HO := Lib.hid hO
      clear hGq hGp hD hE hO hKp hKq
      obtain ⟨n', l', hl', hr', hn'1, hn'2, hlt', hcase⟩ := (HR.out.only HO.out (by simp)).cutI HL.out 60
      obtain ⟨m', k', hk', hs', hm'1, hm'2, hkt', hcase2⟩ := (HRb.out.only HO.out (by simp)).cutI HLb.out 60
      have h64' : ∀ i ∈ l', i64ok i := fun i hi => H64.out i (by rw [hlt'] at hi; exact List.mem_of_mem_take hi)
      have h64k : ∀ i ∈ k', i64ok i := fun i hi => H64b.out i (by rw [hkt'] at hi; exact List.mem_of_mem_take hi)
      rw [← hlt'] at HGp
      rw [← hkt'] at HGq
      have HL' := Lib.hid hl'
      have HR' := Lib.hid hr'
      have H64' := Lib.hid h64'
      have HK' := Lib.hid hk'
      have HS' := Lib.hid hs'
      have H64k := Lib.hid h64k
      clear hl' hr' hk' hs' h64' h64k hlt' hkt'
      go_upto_if 107 with (fail)
      go_cut [1] (fun s wx => wr = wx ∧ s = .slice A n' c)
      case first =>
        rcases hcase with ⟨h3, h4⟩ | ⟨h3, h4⟩
        · have h5 : ¬ (60 : Int) < (n : Int) := by omega
          have H4 := Lib.hid h4
          clear h4
          go_wp2
          go_meet
          case rel => exact ⟨rfl, by rw [H4.out]⟩
        · have hsh := run_slice_h (P := Tryd.prog) (A := A) (n := n) (c := c) (m := n') (hi := (60 : Int)) Tryd.underlying27 (size := 1) (by kernel_rfl) (by omega) (by omega)
          have h5 : (60 : Int) < (n : Int) := by omega
          have H4 := Lib.hid h4
          clear h4
          go_wp2
          go_meet
          case rel => exact ⟨rfl, rfl⟩
      case rest =>
      obtain ⟨rfl, rfl⟩ := hcut
      clear hcase
      go_upto_if 112 with (fail)
      go_cut [2] (fun s wx => wr = wx ∧ s = .slice Ab m' cb)
      case first =>
        rcases hcase2 with ⟨h3, h4⟩ | ⟨h3, h4⟩
        · have h5 : ¬ (60 : Int) < (nb : Int) := by omega
          have H4 := Lib.hid h4
          clear h4
          go_wp2
          go_meet
          case rel => exact ⟨rfl, by rw [H4.out]⟩
        · have hsh := run_slice_h (P := Tryd.prog) (A := Ab) (n := nb) (c := cb) (m := m') (hi := (60 : Int)) Tryd.underlying27 (size := 1) (by kernel_rfl) (by omega) (by omega)
          have h5 : (60 : Int) < (nb : Int) := by omega
          have H4 := Lib.hid h4
          clear h4
          go_wp2
          go_meet
          case rel => exact ⟨rfl, rfl⟩
      case rest =>
      obtain ⟨rfl, rfl⟩ := hcut
      clear hcase2
      have hwr : w.heap.size ≤ wr.heap.size := HO.out.size
      have hMr := HM.out.only0 HD.out.new
      have HMr := Lib.hid hMr
      obtain ⟨BS, hBS⟩ : ∃ z, z = bytS ws l' := ⟨_, rfl⟩
      obtain ⟨BT, hBT⟩ : ∃ z, z = bytS ws k' := ⟨_, rfl⟩
      have hby := bytes17_any wr gm base ws ms a b d ms.length (lookM 0 ms) (lgF ws) hMr Hw.out A n' c w.heap.size l' HL'.out (by omega) HR'.out hwr H64'.out
      rw [← hBS] at hby HGp
      rw [← hBT] at HGq
      have hSl : BS.1.length ≤ 15360 := by have := bytS_size Hw.out l'; rw [HL'.out, ← hBS] at this; omega
      have hTl : BT.1.length ≤ 15360 := by have := bytS_size Hw.out k'; rw [HK'.out, ← hBT] at this; omega
      have Hby := Lib.hid hby
      have HBT := Lib.hid hBT
      clear hby hBS hBT hMr
      go_wp2_with (fail)
      refine Hby.out.mono ?_
      rintro e W5 ⟨rfl, hO5⟩
      have hby := bytes17_any W5 gm base ws ms a b d ms.length (lookM 0 ms) (lgF ws) (HMr.out.only0 hO5) Hw.out Ab m' cb w.heap.size k' HK'.out (by omega) (HS'.out.only hO5 (by simp)) (by have := hO5.size; omega) H64k.out
      rw [← HBT.out] at hby
      have Hby2 := Lib.hid hby
      have HO5 := Lib.hid hO5
      clear hby hO5 Hby HBT
      go_wp2_with (fail)
      refine Hby2.out.mono ?_
      rintro e W6 ⟨rfl, hO6⟩
      have hO36 := HO5.out.trans hO6
      have hO06 := HO.out.trans hO36
      have hT6 := HT.out.only hO06 (by simp) (by simp)
      have hD6 := HD.out.only0 hO36
      have hE6 := HE.out.only0 hO36
      obtain ⟨S, hS⟩ : ∃ S, S = str BS.1 := ⟨_, rfl⟩
      obtain ⟨T, hT⟩ : ∃ S, S = str BT.1 := ⟨_, rfl⟩
      have hSz : S.size ≤ 15360 := by rw [hS, str_size]; exact hSl
      have hTz : T.size ≤ 15360 := by rw [hT, str_size]; exact hTl
      rw [← hS] at HGp ⊢
      rw [← hT] at HGq ⊢
      have Htl := Lib.hid (tail_any S (by omega) W6 hT6)
      have HT6 := Lib.hid hT6
      have HD6 := Lib.hid hD6
      have HE6 := Lib.hid hE6
      have HO06 := Lib.hid hO06
      have hA1 : oa.length ≤ 46080 := by have := HGp.out.len; omega
      have hA3 : p.ring.length ≤ 46080 := by have := HGp.out.len; omega
      have hA2 : ob.length ≤ 46080 := by have := HGq.out.len; omega
      have hA4 : q.ring.length ≤ 46080 := by have := HGq.out.len; omega
      have htS := tailU_le S
      have htT := tailU_le T
      obtain ⟨t, ht⟩ : ∃ t, t = tailU S := ⟨_, rfl⟩
      rw [← ht] at Htl htS
      obtain ⟨q1, hq1⟩ : ∃ q, q = S.size - t := ⟨_, rfl⟩
      have hcut1 : cutS S = q1 := by rw [hq1, ht]; rfl
      have hwr1 : IntKind.i64.wrap ((S.size : Int) - (t : Int)) = (q1 : Int) := by rw [IntWalk.i64_in _ (by omega)]; omega
      have hsl1 := slice_to Tryd.prog 9 Tryd.underlying9 S q1 (by omega)
      have hSq := HGp.out.emit
      rw [hcut1] at hSq
      have hsq : S.extract 0 q1 = str (oa ++ p.ring) := by rw [hSq]; exact (str_self _).symm
      rw [hsq] at hsl1
      have Hq1 := Lib.hid hq1
      clear hO36 hO06 hT6 hD6 hE6 hO6 hS hT ht hq1 hcut1 hSq hsq HGp Hby2
      go_wp2_with (fail)
      refine Htl.out.mono ?_
      rintro e W7 ⟨rfl, hO7⟩
      have hT7 := HT6.out.only hO7 (by simp) (by simp)
      have Htl2 := Lib.hid (tail_any T (by omega) W7 hT7)
      obtain ⟨t2, ht⟩ : ∃ t, t = tailU T := ⟨_, rfl⟩
      rw [← ht] at Htl2 htT
      obtain ⟨q2, hq2⟩ : ∃ q, q = T.size - t2 := ⟨_, rfl⟩
      have hcut2 : cutS T = q2 := by rw [hq2, ht]; rfl
      have hwr2 : IntKind.i64.wrap ((T.size : Int) - (t2 : Int)) = (q2 : Int) := by rw [IntWalk.i64_in _ (by omega)]; omega
      have hsl2 := slice_to Tryd.prog 9 Tryd.underlying9 T q2 (by omega)
      have hTq := HGq.out.emit
      rw [hcut2] at hTq
      obtain ⟨T1, hT1⟩ : ∃ z, z = T.extract 0 q2 := ⟨_, rfl⟩
      have hT1z : T1.size ≤ 15360 := by rw [hT1, ByteArray.size_extract]; omega
      rw [← hT1] at hsl2 hTq
      have HO7 := Lib.hid hO7
      have HT7 := Lib.hid hT7
      have HTq := Lib.hid hTq
      clear ht hq2 hcut2 hTq hT1 HGq Htl hO7 hT7 Hq1
      go_wp2_with (fail)
      refine Htl2.out.mono ?_
      rintro e W8 ⟨rfl, hO8⟩
      have hT8 := HT7.out.only hO8 (by simp) (by simp)
      have hrp := replace_any T1 (by omega) W8 hT8
      rw [show (⟨(replS T1).toArray⟩ : ByteArray) = str (ob ++ q.ring) from by rw [HTq.out]; rfl] at hrp
      have Hrp := Lib.hid hrp
      have HO78 := Lib.hid (HO7.out.trans hO8)
      have HT8 := Lib.hid hT8
      clear Htl2 hO8 hT8 hrp HTq HO7 HT7
      go_wp2_with (fail)
      refine Hrp.out.mono ?_
      rintro e W9 ⟨rfl, hO9⟩
      have hO69 := HO78.out.trans hO9
      have hD9 := HD6.out.only0 hO69
      have hE9 := HE6.out.only0 hO69
      have hT9 := HT8.out.only hO9 (by simp) (by simp)
      have HO09 := Lib.hid (HO06.out.trans hO69)
      have hpre : ∀ u v : List UInt8, (str (u ++ v)).extract 0 (str u).size = str u := by
        intro u v
        apply ByteArray.ext; apply Array.toList_inj.1
        rw [ext_ls _ _ _ (by omega) (by rw [str_size, str_size, List.length_append]; omega), str_data, str_data, List.drop_zero, Nat.sub_zero, str_size, List.take_left]
      have hs1 := slice_to Tryd.prog 9 Tryd.underlying9 (str (oa ++ p.ring)) (str oa).size (by rw [str_size, str_size, List.length_append]; omega)
      have hs2 := slice_to Tryd.prog 9 Tryd.underlying9 (str (ob ++ q.ring)) (str ob).size (by rw [str_size, str_size, List.length_append]; omega)
      rw [hpre] at hs1 hs2
      have hz1 : (((str oa).size : Int) + (p.ring.length : Int) == ((str (oa ++ p.ring)).size : Int)) = true := by rw [str_size, str_size, List.length_append, beq_iff_eq]; omega
      have hz2 : (((str ob).size : Int) + (q.ring.length : Int) == ((str (ob ++ q.ring)).size : Int)) = true := by rw [str_size, str_size, List.length_append, beq_iff_eq]; omega
      have hse1 : ((str oa).toList == (str oa).toList) = true := beq_self_eq_true _
      have hse2 : ((str ob).toList == (str ob).toList) = true := beq_self_eq_true _
      have hol := hD9
      rw [← str_size] at hA1 hA2
      obtain ⟨so, hso⟩ : ∃ z, z = str oa := ⟨_, rfl⟩
      obtain ⟨sb, hsb⟩ : ∃ z, z = str ob := ⟨_, rfl⟩
      rw [← hso] at hs1 hz1 hse1 hA1 ⊢
      rw [← hsb] at hs2 hz2 hse2 hA2 ⊢
      obtain ⟨X1, hX1⟩ : ∃ z, z = str (oa ++ p.ring) := ⟨_, rfl⟩
      obtain ⟨X2, hX2⟩ : ∃ z, z = str (ob ++ q.ring) := ⟨_, rfl⟩
      rw [← hX1] at hs1 hz1 ⊢
      rw [← hX2] at hs2 hz2 ⊢
      have Hwt1 := Lib.hid (dkWait_any W9 W2 g gr g2 gm false 1048576 p hD9)
      have Hwt2 := Lib.hid (dkWait_any W9 W2 y yr y2 gm true 1048576 q hE9)
      obtain ⟨r1, hr1⟩ : ∃ z, z = p.ring.length := ⟨_, rfl⟩
      obtain ⟨r2, hr2⟩ : ∃ z, z = q.ring.length := ⟨_, rfl⟩
      rw [← hr1] at Hwt1 hz1 hA3
      rw [← hr2] at Hwt2 hz2 hA4
      have HT9 := Lib.hid hT9
      clear hpre hso hsb hX1 hX2 hr1 hr2 hD9 hE9 hT9 hO69 hO9 Hrp hol HD6 HE6 hSz hTz HT8
      go_wp2_with (fail)
      refine Hwt1.out.mono ?_
      rintro e W9' ⟨rfl, rfl⟩
      go_wp2_with (fail)
      refine Hwt2.out.mono ?_
      rintro e W9'' ⟨rfl, rfl⟩
      clear Hwt1 Hwt2
      go_wp2_with (fail)
      refine (known17_any W9 HT9.out).mono ?_
      rintro e W10 ⟨rfl, hO10⟩
      go_wp2_with (fail)
      go_ret
      exact ⟨rfl, HO09.out.trans hO10⟩
end Go.Proofs.YtemnanhoiacphaaDoor
