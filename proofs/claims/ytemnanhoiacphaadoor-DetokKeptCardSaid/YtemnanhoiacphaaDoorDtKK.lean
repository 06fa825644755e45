/- DetokKept. -/
import Derived.Test.YtemnanhoiacphaaDoorPk17
import Derived.Test.YtemnanhoiacphaaDoorPk18
set_option linter.unusedVariables false
set_option linter.unusedSimpArgs false
set_option maxRecDepth 100000
namespace Go.Proofs.YtemnanhoiacphaaDoor
open Go.RowKit

set_option maxHeartbeats 8000000 in
theorem detokKept_walk (w : World) (v0 v1 v2 v3 v4 : Value) (ws : List ByteArray) (ms : List Mg) (a b d : List Sp) (hR : Rd5 w v0 v1 v2 v3 v4 ws ms a b d)
    (s0 : ws.length ≤ 8796093021952) (s1 : ms.length ≤ 5864062014634) (s2 : a.length ≤ 17592186043904) (s3 : b.length ≤ 17592186043904) (s4 : d.length ≤ 17592186043904) (hws : ∀ s ∈ ws, s.size ≤ maxLen) (hms : ∀ m ∈ ms, m.ok)
    (A : Option Addr) (n c : Nat) (l : List Int) (hl : l.length = n) (hr : Rd w w.heap.size 1 A n (l.map (Value.int .i64))) (hnc : n ≤ c) (hc : c ≤ 140737488351232) (hwf : ∀ x ∈ l, (Lit.int .i64 x).wf = true) (hT : Tabs w) :
    Calls Tryd.prog 3 #[.agg #[v0, v1, v2, v3, v4], .slice A n c] w fun e w' => e = .returned (.bool true) ∧ Only [] w w' := by
  obtain ⟨h, hh⟩ : ∃ h, h = w.heap.size := ⟨_, rfl⟩
  obtain ⟨W1, hW1⟩ : ∃ W1, W1 = w.alloc (.cells #[v0, v1, v2, v3, v4] 26) := ⟨_, rfl⟩
  have hb : Blk W1 h 26 [v0, v1, v2, v3, v4] := by rw [hW1]; exact Blk.new' _ _ _ hh.symm rfl
  have hO1 : Only [] w W1 := by rw [hW1]; exact (Only.refl _ _).alloc _
  have hof := ofM_any W1 v0 v1 v2 v3 v4 ws ms a b d (hR.only hO1) (by omega) (by omega) s2 s3 s4 hws hms
  have k0 : W1.cell? ⟨h, 0, none⟩ = some v0 := hb.cell 0
  have k1 : W1.cell? ⟨h, 1, none⟩ = some v1 := hb.cell 1
  have k2 : W1.cell? ⟨h, 2, none⟩ = some v2 := hb.cell 2
  have k3 : W1.cell? ⟨h, 3, none⟩ = some v3 := hb.cell 3
  have k4 : W1.cell? ⟨h, 4, none⟩ = some v4 := hb.cell 4
  obtain ⟨⟨A0, d0, e0, -⟩, ⟨A1, d1, e1, -⟩, ⟨A2, d2, e2, -⟩, ⟨A3, d3, e3, -⟩, ⟨A4, d4, e4, -⟩⟩ := hR
  have Hof := Lib.hid hof
  have Hh := Lib.hid hh
  have HW := Lib.hid hW1
  have HO1 := Lib.hid hO1
  have HT := Lib.hid hT
  have HL := Lib.hid hl
  have HR := Lib.hid hr
  have h64 : ∀ i ∈ l, i64ok i := by
    intro i hi
    have := hwf i hi
    unfold i64ok
    simpa [Lit.wf, IntKind.min, IntKind.max, IntKind.signed, IntKind.bits] using this
  have H64 := Lib.hid h64
  clear hof hh hW1 hb hO1 hT hl hr hwf h64 hws hms s0 s1 s2 s3 s4
  subst e0 e1 e2 e3 e4
  go_enter Tryd.func3, Tryd.ntmps3
  go_upto_region 1 with (fail)
  rw [← Hh.out, ← HW.out]
  go_wp2_with (fail)
  refine Hof.out.mono ?_
  rintro e W2 hpost
  rcases hpost.no with ⟨rfl, hO2⟩ | ⟨gm, base, rfl, hO2, hbW, hF, hM, -⟩
  · clear hpost k0 k1 k2 k3 k4 Hof
    have hT2 := HT.out.only (HO1.out.trans hO2) (by simp) (by simp)
    go_wp2_with (fail)
    refine (known17_any W2 hT2).mono ?_
    rintro e W3 ⟨rfl, hO3⟩
    go_wp2_with (fail)
    go_ret
    exact ⟨rfl, HO1.out.trans (hO2.trans hO3)⟩
  obtain ⟨hw256, hlg⟩ := fault_small hF
  have hO02 := HO1.out.trans hO2
  have hT2 := HT.out.only hO02 (by simp) (by simp)
  have HT2 := Lib.hid hT2
  have HO02 := Lib.hid hO02
  have HM := Lib.hid hM
  have Hw := Lib.hid hw256
  have hnew := dkNew_any W2 gm base ws ms a b d ms.length (lookM 0 ms) (lgF ws) hM (by omega) 1048576 (by unfold i64ok; omega) true
  have Hnew := Lib.hid hnew
  clear hpost k0 k1 k2 k3 k4 Hof hnew hO02 hT2 hM hw256
  go_wp2_with (fail)
  refine Hnew.out.mono ?_
  rintro e W3 ⟨hO3, ⟨hno, -⟩ | ⟨-, g, gr, g2, rfl, hD⟩⟩
  · exact absurd (by unfold NewOk; omega) hno
  obtain ⟨gb, hgb⟩ : ∃ g, g = W3.heap.size := ⟨_, rfl⟩
  obtain ⟨W4, hW4⟩ : ∃ W, W = W3.alloc (.cells #[.slice none 0 0, .slice none 0 0, .int .i64 0, .bool false] 38) := ⟨_, rfl⟩
  have hbk : Blk W4 gb 38 [.slice none 0 0, .slice none 0 0, .int .i64 0, .bool false] := by rw [hW4]; exact Blk.new' _ _ _ hgb.symm rfl
  have hO34 : Only [] W3 W4 := by rw [hW4]; exact (Only.refl _ _).alloc _
  have hlt : g < gb ∧ gr < gb ∧ g2 < gb := by
    obtain ⟨at_, arr, hr⟩ := hD.ring
    have h1 := hD.blk.lt
    have h2 := hr.1.lt
    have h3 := hr.2.1.lt
    omega
  have hD4 := hD.only0 hO34
  have hW2b : W2.heap.size ≤ gb := by have := hD.ge; omega
  have hB0 := book_new (base := gb) hbk (by omega)
  have Hgb := Lib.hid hgb
  have HW4 := Lib.hid hW4
  have hO04 := HO02.out.trans (hO3.trans hO34)
  have hgw : w.heap.size ≤ gb := by have := hO04.size; have := (HO02.out.trans hO3).size; omega
  clear hgb hW4 hbk hO34 hD hO3 Hnew
  go_wp2_with (fail)
  rw [← Hgb.out, ← HW4.out]
  go_loopw [11] (fun v wr => ∃ (i : Nat) (bl : List Nat) (L : List Ent) (lv wv : Value) (held : Int) (was : List Value) (x : DkS), v = .int .i64 (i : Int) ∧ i ≤ n ∧ i ≤ 60 ∧ BookB wr gb gb bl L lv wv held was ∧ L.length ≤ 4000 ∧ (∀ y ∈ bl, gb ≤ y) ∧ DecAt wr W2 g gr g2 gm true (1048576 : Int).toNat x ∧ x.flushed = false ∧ Only [] w wr) (fun v _ => 60 - (intOf v).toNat)
  case atStart => exact ⟨0, _, _, _, _, _, _, _, rfl, by omega, by omega, hB0, by simp, by simp, hD4, rfl, hO04⟩
  case round =>
    clear hB0 hD4 hO04
    obtain ⟨i, bl, L, lv, wv, held, was, x, rfl, hi, hi60, hB, hL, hlo, hD, hfl, hO⟩ := hrel
    have hT0 := HT2.out
    have hblt : ∀ y ∈ bl, y < wr.heap.size := fun y hy => (hB.own y hy).2
    by_cases hlt2 : i < n ∧ i < 60
    · obtain ⟨hin, hi6⟩ := hlt2
      obtain ⟨id, hid⟩ : ∃ id, l[i]? = some id := ⟨_, List.getElem?_eq_getElem (by rw [HL.out]; exact hin)⟩
      have hrw := HR.out.only hO (by simp)
      obtain ⟨ga, oa, ua, hA, _, _, _⟩ := hrw.at1 hin
      subst hA
      have hone := hrw.one hid hin
      have hid64 := H64.out id (List.mem_of_getElem? hid)
      have hsl := run_slice_one (P := Tryd.prog) (t := 27) (e := 3) Tryd.underlying27 (by kernel_rfl) (g := ga) (o := oa) (n := n) (c := c) (i := i) (by omega)
      have hfd := dkFeed_any wr W2 g gr g2 gm true (1048576 : Int).toNat x hD hT0 base ws ms a b d ms.length (lookM 0 ms) (lgF ws) HM.out Hw.out (some ⟨ga, oa + i, none⟩) 1 (c - i) w.heap.size [id] rfl (by omega) hone (.inl (HO02.out.size)) (by intro z hz; simp at hz; subst hz; exact hid64)
      rw [hfl] at hfd
      simp only [Bool.false_eq_true, if_false] at hfd
      have Hfd := Lib.hid hfd
      have hfs : (feedS ws true (1048576 : Int).toNat [id] x).2.flushed = false := by rw [feed_flushed]; exact hfl
      obtain ⟨FS, hFS⟩ : ∃ z, z = feedS ws true (1048576 : Int).toNat [id] x := ⟨_, rfl⟩
      rw [← hFS] at Hfd hfs
      have HB := Lib.hid hB
      have HO := Lib.hid hO
      clear hfd hid hrw hone hD hB hO hFS
      go_wp2_with (fail)
      refine Hfd.out.mono ?_
      rintro e W5 ⟨rfl, hD5, hO5⟩
      have hB5 := HB.out.only hO5 (by intro y hy hyb; simp at hy; have := hlo y hyb; omega) (by
        intro e0 he k hk hkl
        simp at hkl
        have := (own_lt (HB.out.ents e0 he).1 hk).1
        omega)
      have hO05 : Only [] w W5 := HO.out.trans' hO5 (by intro y hy; simp at hy; have := hD5.ge; have := HO02.out.size; exact .inr (by omega))
      have hrd := dkRead_any W5 W2 g gr g2 gm true (1048576 : Int).toNat FS.2 hD5 hT0 3
      obtain ⟨m, hm⟩ : ∃ m, m = min (3 : Int).toNat FS.2.ring.length := ⟨_, rfl⟩
      obtain ⟨y, hy⟩ : ∃ y, y = dkReadS (1048576 : Int).toNat true 3 FS.2 := ⟨_, rfl⟩
      have hyf : y.flushed = false := by rw [hy, read_flushed]; exact hfs
      have hm3 : m ≤ 3 := by rw [hm]; exact Nat.min_le_left _ _
      rw [← hm, ← hy] at hrd
      have hml : m ≤ FS.2.ring.length := by omega
      have Hrd := Lib.hid hrd
      have HB5 := Lib.hid hB5
      have HO05 := Lib.hid hO05
      have hgb5 := hB5.blk.lt
      have hblt5 : ∀ y ∈ bl, y < W5.heap.size := fun y hy => (hB5.own y hy).2
      clear hrd hm hy hB5 hO05 hD5 hO5 hsl Hfd
      go_wp2_with (fail)
      refine Hrd.out.mono ?_
      rintro e W6 ⟨o, rfl, hwo, hbo, hD6, hO6⟩
      have hB6 := HB5.out.only hO6 (by intro y hy hyb; simp at hy; have := hlo y hyb; omega) (by
        intro e0 he k hk hkl
        simp at hkl
        have := (own_lt (HB5.out.ents e0 he).1 hk).1
        omega)
      have hO06 : Only [] w W6 := HO05.out.trans' hO6 (by intro y hy; simp at hy; have := hD6.ge; have := HO02.out.size; exact .inr (by omega))
      have hkp := keep_blk W6 gb gb bl L lv wv held was hB6 hL o m _ hbo (by rw [List.length_take]; omega) (by omega) (by omega) (fun ho => by have := hblt5 o ho; omega) (by
        intro e0 he hk
        have := (own_lt (HB5.out.ents e0 he).1 hk).2
        omega)
      have Hkp := Lib.hid hkp
      have HD6 := Lib.hid hD6
      have HO06 := Lib.hid hO06
      have hs6 : gb ≤ W6.heap.size := by have := hB6.blk.lt; omega
      clear hkp hD6 hO06 hbo hB6 hO6 Hrd
      go_wp2_with (fail)
      refine Hkp.out.mono ?_
      rintro e W7 ⟨rfl, hK⟩
      obtain ⟨j, bl', lv', wv', held', was', hB7, hL7, hlo7, hOk, hO7, -⟩ := hK.next hlo hs6 hgw HO06.out
      have hD7 := HD6.out.only hOk (by intro h1; have := hlo _ h1; omega) (by intro h1; have := hlo _ h1; omega) (by intro h1; have := hlo _ h1; omega) (by intro y hy; have := hlo y hy; have := hW2b; omega)
      generalize List.drop j _ = L7 at hB7 hL7
      clear hK hOk
      go_wp2_with (fail)
      go_roundw
      case rel => exact ⟨i + 1, bl', L7, _, _, _, _, y, by go_num, by omega, by omega, hB7, hL7, hlo7, hD7, hyf, hO7⟩
      case measure => simp [intOf]; omega
    · have hexit : (n ≤ i) ∨ (i < n ∧ 60 ≤ i) := by omega
      rcases hexit with hx | ⟨hx, hx2⟩
      all_goals
       go_wp2_with (fail)
       refine (apart_any wr gb gb bl L lv wv held was hB (by omega)).mono ?_
       rintro e W8 ⟨rfl, hO8⟩
       have hO08 : Only [] w W8 := hO.trans' hO8 (by
         intro y hy
         simp only [List.mem_append, List.mem_flatMap, Option.mem_toList] at hy
         rcases hy with hy | ⟨e, he, hk⟩
         · exact .inr (by have := hlo y hy; omega)
         · exact .inr (by have := (own_lt (hB.ents e he).1 hk).1; omega))
       have hT8 := HT.out.only hO08 (by simp) (by simp)
       go_wp2_with (fail)
       refine (known17_any W8 hT8).mono ?_
       rintro e W9 ⟨rfl, hO9⟩
       go_wp2_with (fail)
       go_ret
       exact ⟨rfl, hO08.trans hO9⟩
end Go.Proofs.YtemnanhoiacphaaDoor
