/- Several texts in one: detok.New, and the law's bare, known.; The law's known (chapter 17), bytes.; The law's bytes: the words of ids up to the first unknown one.; A detokeniser that emits as it is: what goes in comes out. Plain lemmas.; What the detokeniser's walks share: a piece of one number, sizes. -/
import Derived.Test.YtemnanhoiacphaaDoorPk15
import Derived.Test.YtemnanhoiacphaaDoorPk16
import Derived.Test.YtemnanhoiacphaaDoorPk1
set_option linter.unusedVariables false
set_option linter.unusedSimpArgs false
set_option maxRecDepth 100000
namespace Go.Proofs.YtemnanhoiacphaaDoor
open Go.RowKit

def dk0 : DkS := ⟨.empty, [], false, false⟩
def NewOk (lg : Nat) (r : Int) : Prop := 3 * ((lg : Int) + 3) ≤ r ∧ r ≤ 1048576
theorem nilIface_ne : True := trivial
section
variable (w : World) (gm : Nat) (base : Nat) (ws : List ByteArray) (ms : List Mg) (a b d : List Sp) (N : Nat) (f : Int × Int → Option (Nat × Int)) (lg : Nat) (hM : MdAt w base gm ws ms a b d N f lg) (hlg : lg ≤ 1000)
include hM hlg
set_option maxHeartbeats 4000000 in
theorem dkNew_any (r : Int) (hr : i64ok r) (rep : Bool) : Calls Tryd.prog 11 #[.pointer (some ⟨gm, 0, none⟩), .int .i64 r, .bool rep] w fun e w' => Only [] w w' ∧
    ((¬ NewOk lg r ∧ e = .returned (.tuple #[.pointer none, .int .i64 1])) ∨ (NewOk lg r ∧ ∃ g gr g2, e = .returned (.tuple #[.pointer (some ⟨g, 0, none⟩), .int .i64 0]) ∧ DecAt w' w g gr g2 gm rep r.toNat dk0)) := by
  have hlo := longest_any w base gm ws ms a b d N f lg hM
  have Hlo := Lib.hid hlo
  obtain ⟨hr1, hr2⟩ := hr
  clear hlo hM
  by_cases hsm : r < 3 * ((lg : Int) + 3)
  · have hno : ¬ NewOk lg r := fun h => by have := h.1; omega
    have Hno := Lib.hid hno
    clear hno
    go_enter Tryd.func11, Tryd.ntmps11
    go_wp2_with (fail)
    refine Hlo.out.mono ?_
    rintro e w1 ⟨rfl, rfl⟩
    go_wp2_with (fail)
    go_ret2
    exact ⟨.refl _ _, .inl ⟨Hno.out, rfl⟩⟩
  · by_cases hbig : 1048576 < r
    · have hno : ¬ NewOk lg r := fun h => by have := h.2; omega
      have Hno := Lib.hid hno
      clear hno
      go_enter Tryd.func11, Tryd.ntmps11
      go_wp2_with (fail)
      refine Hlo.out.mono ?_
      rintro e w1 ⟨rfl, rfl⟩
      go_wp2_with (fail)
      refine (ringNew_no r w (.inr hbig)).mono ?_
      rintro e w1 ⟨rfl, rfl⟩
      go_wp2_with (fail)
      go_ret2
      exact ⟨.refl _ _, .inl ⟨Hno.out, rfl⟩⟩
    · have hok : NewOk lg r := ⟨by omega, by omega⟩
      obtain ⟨R, rfl⟩ := Int.eq_ofNat_of_zero_le (show (0 : Int) ≤ r by omega)
      have Hok := Lib.hid hok
      clear hok
      go_enter Tryd.func11, Tryd.ntmps11
      go_wp2_with (fail)
      refine Hlo.out.mono ?_
      rintro e w1 ⟨rfl, rfl⟩
      go_wp2_with (fail)
      refine (ringNew_yes R w (by omega) (by omega)).mono ?_
      rintro e w1 ⟨gr, rfl, hwg, hR1, hO1⟩
      obtain ⟨g, hg⟩ : ∃ g, g = w1.heap.size := ⟨_, rfl⟩
      have hrl := hR1.1.lt
      have hrl2 := hR1.2.1.lt
      have Hg := Lib.hid hg
      have hb2 : Blk (w1.alloc (.cells #[.pointer (some ⟨gm, 0, none⟩), .pointer (some ⟨gr, 0, none⟩), modeV rep, .string .empty, .bool false, .bool false] 93)) g 93 [.pointer (some ⟨gm, 0, none⟩), .pointer (some ⟨gr, 0, none⟩), modeV rep, .string .empty, .bool false, .bool false] := Blk.new' _ _ _ hg.symm rfl
      have hO12 : Only [] w1 (w1.alloc (.cells #[.pointer (some ⟨gm, 0, none⟩), .pointer (some ⟨gr, 0, none⟩), modeV rep, .string .empty, .bool false, .bool false] 93)) := (Only.refl _ _).alloc _
      have hO2 := hO1.trans hO12
      have hR2 := hR1.only hO12 (by simp) (by simp)
      have hD : DecAt (w1.alloc (.cells #[.pointer (some ⟨gm, 0, none⟩), .pointer (some ⟨gr, 0, none⟩), modeV rep, .string .empty, .bool false, .bool false] 93)) w g gr w.heap.size gm rep R dk0 := ⟨hb2, ⟨_, _, hR2⟩, hO2, ⟨by have := hO1.size; omega, hwg, Nat.le_refl _⟩, by simp [dk0]⟩
      have HD := Lib.hid hD
      have HO2 := Lib.hid hO2
      clear hD hO2 hR2 hO12 hb2 hR1 hO1
      cases rep with
      | false =>
        go_wp2_with (fail)
        go_ret2
        exact ⟨HO2.out, .inr ⟨Hok.out, g, gr, w.heap.size, by rw [Hg.out]; rfl, HD.out⟩⟩
      | true =>
        go_wp2_with (fail)
        go_ret2
        exact ⟨HO2.out, .inr ⟨Hok.out, g, gr, w.heap.size, by rw [Hg.out]; rfl, HD.out⟩⟩
end

def blankS : List Sp := [(32, 32)]
set_option maxHeartbeats 4000000 in
/-- a detokeniser over a model without merges -/
theorem dkBare_any (w : World) (r : Int) (hr : i64ok r) (rep : Bool) : Calls Tryd.prog 24 #[.int .i64 r, .bool rep] w fun e w' => Only [] w w' ∧
    ((¬ NewOk 1 r ∧ e = .returned (.tuple #[.pointer none, .bool false])) ∨ (NewOk 1 r ∧ ∃ W0 base gm g gr g2, e = .returned (.tuple #[.pointer (some ⟨g, 0, none⟩), .bool true]) ∧ w.heap.size ≤ W0.heap.size ∧ w.heap.size ≤ base ∧ Only [] w W0 ∧ MdAt W0 base gm [] [] [] [] blankS 0 (lookM 0 []) 1 ∧ DecAt w' W0 g gr g2 gm rep r.toNat dk0)) := by
  obtain ⟨h, hh⟩ : ∃ h, h = w.heap.size := ⟨_, rfl⟩
  obtain ⟨W1, hW1⟩ : ∃ W1, W1 = w.alloc (.cells #[.int .i32 32, .int .i32 32] 117) := ⟨_, rfl⟩
  have hs : Blk W1 h 117 (ses blankS) := by rw [hW1]; exact Blk.new' _ _ _ hh.symm rfl
  have hO : Only [] w W1 := by rw [hW1]; exact (Only.refl _ _).alloc _
  have hbr := bare_any W1 none none (some ⟨h, 0, none⟩) 0 0 1 [] [] blankS (Nat.le_refl _) (Nat.le_refl _) (Nat.le_refl _) (Rd.zero _ _ _ _) (Rd.zero _ _ _ _) ((Rd.whole (t := 117) hs rfl).more hs.lt) (by decide) (by decide) (by decide)
  unfold NewPost at hbr
  rw [show faultW [] [] [] [] blankS = (0, 0, 0) by decide] at hbr
  simp only [List.length_nil, show blankS.length = 1 from rfl] at hbr
  have Hbr := Lib.hid hbr
  have Hh := Lib.hid hh
  have HW := Lib.hid hW1
  clear hbr hh hW1 hs
  go_enter Tryd.func24, Tryd.ntmps24
  go_wp2_with (fail)
  rw [← Hh.out, ← HW.out]
  refine Hbr.out.mono ?_
  rintro e W2 ⟨v, rfl, hO2, ⟨-, gm, base, hb, rfl, hM⟩ | ⟨h0, -⟩⟩
  · obtain ⟨x, hx⟩ : ∃ x, x = W2.heap.size := ⟨_, rfl⟩
    obtain ⟨W3, hW3⟩ : ∃ W3, W3 = W2.alloc (.cells #[.int .i64 0, .int .i64 0, .int .i64 0] 79) := ⟨_, rfl⟩
    have hO3 : Only [] W2 W3 := by rw [hW3]; exact (Only.refl _ _).alloc _
    have hM3 := hM.only0 hO3
    have hnw := dkNew_any W3 gm base [] [] [] [] blankS 0 (lookM 0 []) 1 hM3 (by omega) r hr rep
    have Hnw := Lib.hid hnw
    have HW3 := Lib.hid hW3
    have hO03 := (hO.trans hO2).trans hO3
    have hsz := hO03.size
    have hwb : w.heap.size ≤ base := by have := hO.size; omega
    clear hnw hW3 hx hM hO hO2 hO3
    simp only
    go_wp2_with (fail)
    rw [← HW3.out]
    refine Hnw.out.mono ?_
    rintro e W4 ⟨hO4, ⟨hno, rfl⟩ | ⟨hok, g, gr, g2, rfl, hD⟩⟩
    · go_wp2_with (fail)
      go_ret2
      exact ⟨hO03.trans hO4, .inl ⟨hno, rfl⟩⟩
    · go_wp2_with (fail)
      go_ret2
      exact ⟨hO03.trans hO4, .inr ⟨hok, W3, base, gm, g, gr, g2, rfl, hsz, by have := hwb; omega, hO03, hM3, hD⟩⟩
  · exact absurd rfl h0
end Go.Proofs.YtemnanhoiacphaaDoor

set_option linter.unusedVariables false
set_option linter.unusedSimpArgs false
set_option maxRecDepth 100000
namespace Go.Proofs.YtemnanhoiacphaaDoor
open Go.RowKit

theorem kn_f1 : feedS [] false 12 [226, 130] dk0 = (2, ⟨⟨#[226, 130]⟩, [], false, false⟩) := by decide
theorem kn_r1 : dkReadS 12 false 9 ⟨⟨#[226, 130]⟩, [], false, false⟩ = ⟨⟨#[226, 130]⟩, [], false, false⟩ := by decide
theorem kn_f2 : feedS [] false 12 [172] ⟨⟨#[226, 130]⟩, [], false, false⟩ = (1, ⟨.empty, [226, 130, 172], false, false⟩) := by decide
theorem kn_r2 : dkReadS 12 false 9 ⟨.empty, [226, 130, 172], false, false⟩ = ⟨.empty, [], false, false⟩ := by decide
/-- a list of numbers laid down fresh -/
theorem rd_ints {w : World} {b n : Nat} {l : List Int} (hb : Blk w b 3 (l.map (Value.int .i64))) (hl : l.length = n) : Rd w (b + 1) 1 (some ⟨b, 0, none⟩) n (l.map (Value.int .i64)) :=
  Rd.whole (t := 3) hb (by rw [List.length_map, Nat.mul_one, hl])
set_option maxHeartbeats 8000000 in
theorem known17_any (w : World) (hT : Tabs w) : Calls Tryd.prog 10 #[] w fun e w' => e = .returned (.bool true) ∧ Only [] w w' := by
  have hbare := dkBare_any w 12 (by unfold i64ok; omega) false
  have Hbare := Lib.hid hbare
  clear hbare
  go_enter Tryd.func10, Tryd.ntmps10
  go_wp2_with (fail)
  refine Hbare.out.mono ?_
  rintro e w1 ⟨hO1, ⟨hno, rfl⟩ | ⟨-, W0, base, gm, g, gr, g2, rfl, hwW, -, hOW, hM, hD⟩⟩
  · exact absurd (by unfold NewOk; omega) hno
  have hT0 := hT.only hOW (by simp) (by simp)
  have hlt := hD.blk.lt
  obtain ⟨at_, arr, hR⟩ := hD.ring
  have hlt1 := hR.1.lt
  have hlt2 := hR.2.1.lt
  have HM := Lib.hid hM
  have hge := hD.ge
  clear hR
  obtain ⟨b1, hb1⟩ : ∃ b, b = w1.heap.size := ⟨_, rfl⟩
  obtain ⟨W2, hW2⟩ : ∃ W, W = w1.alloc (.cells #[.int .i64 226, .int .i64 130] 3) := ⟨_, rfl⟩
  have hbk1 : Blk W2 b1 3 ([226, 130].map (Value.int .i64)) := by rw [hW2]; exact Blk.new' _ _ _ hb1.symm rfl
  have hO12 : Only [] w1 W2 := by rw [hW2]; exact (Only.refl _ _).alloc _
  have hD2 := hD.only0 hO12
  have hfd := dkFeed_any W2 W0 g gr g2 gm false (12 : Int).toNat dk0 hD2 hT0 base [] [] [] [] blankS 0 (lookM 0 []) 1 HM.out (by simp) (some ⟨b1, 0, none⟩) 2 2 (b1 + 1) [226, 130] rfl (by omega) (rd_ints hbk1 rfl) (.inr (by intro ad e1; injection e1 with e1; subst e1; simp only; omega)) (by intro i hi; simp at hi; unfold i64ok; omega)
  rw [show ((12 : Int).toNat) = 12 from rfl, kn_f1] at hfd
  simp only [dk0, Bool.false_eq_true, if_false] at hfd
  have Hfd := Lib.hid hfd
  have Hb1 := Lib.hid hb1
  have HW2 := Lib.hid hW2
  have hw2g : g < W2.heap.size ∧ gr < W2.heap.size ∧ g2 < W2.heap.size := by have := hO12.size; omega
  have HO2 := Lib.hid (hO1.trans hO12)
  clear hfd hb1 hW2 hbk1 hO12 hD hD2 hM hO1
  go_wp2_with (fail)
  rw [← Hb1.out, ← HW2.out]
  refine Hfd.out.mono ?_
  rintro e w3 ⟨rfl, hD3, hO3⟩
  have hrd := dkRead_any w3 W0 g gr g2 gm false 12 _ hD3 hT0 9
  rw [kn_r1] at hrd
  simp only [List.length_nil, Nat.min_zero, List.take_nil] at hrd
  have Hrd := Lib.hid hrd
  clear hrd Hfd
  go_wp2_with (fail)
  refine Hrd.out.mono ?_
  rintro e w4 ⟨o4, rfl, hwo4, hbo4, hD4, hO4⟩
  go_wp2_with (fail)
  refine (dkHeld_any w4 W0 g gr g2 gm false 12 _ hD4).mono ?_
  rintro e w5 ⟨rfl, rfl⟩
  have HO4 := Lib.hid (hO3.trans hO4)
  obtain ⟨b2, hb2⟩ : ∃ b, b = w4.heap.size := ⟨_, rfl⟩
  obtain ⟨W5, hW5⟩ : ∃ W, W = w4.alloc (.cells #[.int .i64 172] 3) := ⟨_, rfl⟩
  have hbk2 : Blk W5 b2 3 ([172].map (Value.int .i64)) := by rw [hW5]; exact Blk.new' _ _ _ hb2.symm rfl
  have hO45 : Only [] w4 W5 := by rw [hW5]; exact (Only.refl _ _).alloc _
  have hD5 := hD4.only0 hO45
  have hs34 := (hO3.trans hO4).size
  have hfd := dkFeed_any W5 W0 g gr g2 gm false 12 _ hD5 hT0 base [] [] [] [] blankS 0 (lookM 0 []) 1 HM.out (by simp) (some ⟨b2, 0, none⟩) 1 1 (b2 + 1) [172] rfl (by omega) (rd_ints hbk2 rfl) (.inr (by intro ad e1; injection e1 with e1; subst e1; simp only; omega)) (by intro i hi; simp at hi; unfold i64ok; omega)
  rw [kn_f2] at hfd
  simp only [Bool.false_eq_true, if_false] at hfd
  have Hfd := Lib.hid hfd
  have Hb2 := Lib.hid hb2
  have HW5 := Lib.hid hW5
  have HO5 := Lib.hid (HO4.out.trans0 hO45)
  clear hfd hb2 hW5 hbk2 hO45 hD4 hD5 hD3 hO3 hO4 Hrd hbo4
  go_wp2_with (fail)
  rw [← Hb2.out, ← HW5.out]
  refine Hfd.out.mono ?_
  rintro e w6 ⟨rfl, hD6, hO6⟩
  have hrd := dkRead_any w6 W0 g gr g2 gm false 12 _ hD6 hT0 9
  rw [kn_r2] at hrd
  simp only [show min (9 : Int).toNat [226, 130, 172].length = 3 from rfl, show [226, 130, 172].take 3 = ([226, 130, 172] : List UInt8) from rfl, show statS ⟨.empty, [], false, false⟩ = 0 from rfl] at hrd
  have Hrd := Lib.hid hrd
  clear hrd Hfd
  go_wp2_with (fail)
  refine Hrd.out.mono ?_
  rintro e w7 ⟨o7, rfl, hwo7, hbo7, hD7, hO7⟩
  have hcv := byteStr 3 hbo7 (n := 3) rfl
  have HO7 := Lib.hid (HO5.out.trans (hO6.trans hO7))
  clear hbo7 hD7 hD6
  go_wp2_with (fail)
  go_ret
  refine ⟨by simp [str], HO2.out.trans' HO7.out ?_⟩
  intro y hy
  simp at hy
  exact .inr (by omega)
end Go.Proofs.YtemnanhoiacphaaDoor

set_option linter.unusedVariables false
set_option linter.unusedSimpArgs false
set_option maxRecDepth 100000
namespace Go.Proofs.YtemnanhoiacphaaDoor
open Go.RowKit

def bytS (ws : List ByteArray) : List Int → List UInt8 × Nat
  | [] => ([], 0)
  | id :: l => if isWord ws id then ((wordB ws id).data.toList ++ (bytS ws l).1, (bytS ws l).2 + 1) else ([], 0)
theorem bytS_le (ws : List ByteArray) : ∀ l : List Int, (bytS ws l).2 ≤ l.length
  | [] => by simp [bytS]
  | id :: l => by
    unfold bytS
    split
    · have := bytS_le ws l; simp; omega
    · simp
theorem bytS_size {ws : List ByteArray} (hw : ∀ s ∈ ws, s.size ≤ 256) : ∀ l : List Int, (bytS ws l).1.length ≤ 256 * l.length
  | [] => by simp [bytS]
  | id :: l => by
    unfold bytS
    split
    · have h1 := bytS_size hw l
      have h2 := wordB_size hw id
      rw [Lib.size_eq] at h2
      simp only [List.length_append, List.length_cons]; omega
    · simp
section
variable (w : World) (gm base : Nat) (ws : List ByteArray) (ms : List Mg) (a b d : List Sp) (N : Nat) (f : Int × Int → Option (Nat × Int)) (lg : Nat) (hM : MdAt w base gm ws ms a b d N f lg) (hw : ∀ s ∈ ws, s.size ≤ 256)
include hM hw
set_option maxHeartbeats 8000000 in
theorem bytes17_any (A : Option Addr) (n c B : Nat) (l : List Int) (hl : l.length = n) (hn : n ≤ 1000) (hR : Rd w B 1 A n (l.map (Value.int .i64))) (hB : B ≤ w.heap.size) (h64 : ∀ i ∈ l, i64ok i) :
    Calls Tryd.prog 17 #[.pointer (some ⟨gm, 0, none⟩), .slice A n c] w fun e w' => e = .returned (.tuple #[.string (str (bytS ws l).1), .int .i64 ((bytS ws l).2 : Int)]) ∧ Only [] w w' := by
  obtain ⟨T, hT⟩ : ∃ T, T = bytS ws l := ⟨_, rfl⟩
  rw [← hT]
  have HT := Lib.hid hT
  have HL := Lib.hid hl
  have HM := Lib.hid hM
  have Hw := Lib.hid hw
  have HR := Lib.hid hR
  have H64 := Lib.hid h64
  clear hT hl hM hw hR h64
  go_enter Tryd.func17, Tryd.ntmps17
  go_wp2_with (fail)
  go_loopw [7, 6] (fun vi vb wr => ∃ (k : Nat) (pre : List UInt8), vi = .int .i64 (k : Int) ∧ k ≤ n ∧ wr.ownsRow w.heap.size 5 1 vb pre.length (bvs pre) ∧ pre.length ≤ 256 * k ∧ T = (pre ++ (bytS ws (l.drop k)).1, (bytS ws (l.drop k)).2 + k) ∧ Only [] w wr) (fun vi _ _ => n - (intOf vi).toNat)
  case atStart => exact ⟨0, [], rfl, by omega, ⟨by simp [bvs], .inl ⟨rfl, rfl⟩⟩, by simp, by rw [HT.out]; rfl, .refl _ _⟩
  case round =>
    obtain ⟨k, pre, rfl, hk, hown, hpl, hTk, hO⟩ := hrel
    obtain ⟨Ab, cb, rfl, hnb, hrb, -⟩ := own_slice hown
    have HTk := Lib.hid hTk
    have HO := Lib.hid hO
    clear hTk
    by_cases hlt : k < n
    · obtain ⟨id, hid⟩ : ∃ id, l[k]? = some id := ⟨_, List.getElem?_eq_getElem (by rw [HL.out]; exact hlt)⟩
      obtain ⟨ga, oa, ua, rfl, _, hua, hca⟩ := (HR.out.only hO (by simp)).at1 hlt
      rw [List.getElem?_map, hid, Option.map_some] at hua
      obtain rfl : Value.int .i64 id = ua := by injection hua
      have hid64 := H64.out id (List.mem_of_getElem? hid)
      have hdr : l.drop k = id :: l.drop (k + 1) := drop_cons' hid
      have Hdr := Lib.hid hdr
      have hk0 : (0 : Int) ≤ (k : Int) := by omega
      have hk1 : (k : Int) < (n : Int) := by omega
      have Hown := Lib.hid hown
      clear hua hid hdr hrb hown hO
      obtain ⟨wd, hwd⟩ : ∃ b, b = wordB ws id := ⟨_, rfl⟩
      have hwl : wd.size ≤ 256 := by rw [hwd]; exact wordB_size Hw.out id
      have Hwd := Lib.hid hwd
      go_wp2_with (fail)
      refine (word_any wr base gm ws ms a b d N f lg (HM.out.only0 HO.out) id hid64).mono ?_
      rintro e w1 ⟨rfl, hO1⟩
      rw [← hwd]
      clear hwd hca
      have hown1 := own_only Hown.out hO1 (by simp)
      cases hi : isWord ws id with
      | true =>
        have hs1 := (HO.out.trans hO1).size
        obtain ⟨v', w2, hrun, hown2, hO2, -⟩ := run_append_row_str (P := Tryd.prog) w.heap.size 41 9 41 5 Tryd.underlying41 Tryd.underlying9 (by kernel_rfl) hown1 wd (by omega) hs1
        have hTn : T = ((pre ++ wd.data.toList) ++ (bytS ws (l.drop (k + 1))).1, (bytS ws (l.drop (k + 1))).2 + (k + 1)) := by
          rw [HTk.out, Hdr.out]
          simp only [bytS, hi, if_true, ← Hwd.out, List.append_assoc]
          congr 1; omega
        have HTn := Lib.hid hTn
        have hO12 : Only [] w w2 := (HO.out.trans hO1).trans' hO2 (by intro y hy; exact .inr (own_lt hown1 (by simpa using hy)).1)
        have Hrun := Lib.hid hrun
        have Hown2 := Lib.hid hown2
        have HO12 := Lib.hid hO12
        obtain ⟨Av, cv, hv', -⟩ := own_slice hown2
        have Hv := Lib.hid hv'
        clear hTn hrun hown2 hO12 hO2 hown1 hs1 hv'
        go_wp2_with ((at_builtin; refine wpList_append_run (o := ⟨some 32, _, _, _, _, _⟩) (by rfl) (.tmp 30) (.tmp 31) 41 9 (by rfl) (by rfl) (by rfl) Hrun.out ?_))
        go_roundw
        case rel =>
          refine ⟨k + 1, pre ++ wd.data.toList, by go_num, by omega, ?_, ?_, HTn.out, HO12.out⟩
          · rw [List.length_append, ← Lib.size_eq]; exact Hown2.out
          · rw [List.length_append, ← Lib.size_eq]; omega
        case measure => simp [intOf]; omega
      | false =>
        have hTn : T = (pre, k) := by
          rw [HTk.out, Hdr.out]
          simp [bytS, hi]
        obtain ⟨Ab', cb', e', -, hrb, -⟩ := own_slice hown1
        injection e' with e1 e2 e3
        subst e1 e3
        have hcv := run_string_rd (P := Tryd.prog) 41 9 5 Tryd.underlying41 Tryd.underlying5 Tryd.underlying9 cb hrb
        have HTn := Lib.hid hTn
        clear hTn hrb hown1
        go_wp2_with (fail)
        go_ret2
        exact ⟨by rw [HTn.out]; rfl, HO.out.trans hO1⟩
    · obtain rfl : k = n := by omega
      have hTn : T = (pre, k) := by
        rw [HTk.out, List.drop_eq_nil_of_le (by rw [HL.out]; exact Nat.le_refl _)]
        simp [bytS]
      have hcv := run_string_rd (P := Tryd.prog) 41 9 5 Tryd.underlying41 Tryd.underlying5 Tryd.underlying9 cb hrb
      have HTn := Lib.hid hTn
      clear hTn hrb hown hO
      go_wp2_with (fail)
      go_ret2
      exact ⟨by rw [HTn.out]; rfl, HO.out⟩
end
end Go.Proofs.YtemnanhoiacphaaDoor

set_option linter.unusedVariables false
set_option linter.unusedSimpArgs false
namespace Go.Proofs.YtemnanhoiacphaaDoor
open Go.RowKit

/-- what waits, and what is held -/
def totS (x : DkS) : List UInt8 := x.ring ++ x.held.data.toList
theorem step_exact {ws : List ByteArray} {R : Nat} {id : Int} {x : DkS} (h : (totS x).length + (wordB ws id).size ≤ R) :
    ∃ y, stepS ws false R id x = some y ∧ totS y = totS x ++ (wordB ws id).data.toList ∧ y.met = x.met ∧ y.flushed = x.flushed ∧ y.held.size ≤ 3 := by
  unfold stepS
  simp only
  obtain ⟨s, hs⟩ : ∃ s, s = x.held ++ wordB ws id := ⟨_, rfl⟩
  rw [← hs]
  have hsl : s.data.toList = x.held.data.toList ++ (wordB ws id).data.toList := by rw [hs, ByteArray.data_append]; simp
  have hsz : s.size = x.held.size + (wordB ws id).size := by rw [hs, ByteArray.size_append]
  have htl := tailU_le s
  have hc : cutS s ≤ s.size := by unfold cutS; omega
  have he : emS false (s.extract 0 (cutS s)) = s.data.toList.take (cutS s) := by
    unfold emS
    simp
  have hel : (emS false (s.extract 0 (cutS s))).length = cutS s := by
    rw [he, List.length_take, ← Lib.size_eq]; omega
  have ht : (totS x).length = x.ring.length + x.held.size := by unfold totS; rw [List.length_append, ← Lib.size_eq]
  rw [if_pos (by omega)]
  refine ⟨_, rfl, ?_, rfl, rfl, ?_⟩
  · unfold totS
    simp only
    rw [he]
    have h2 : (s.extract (cutS s) s.size).data.toList = s.data.toList.drop (cutS s) := by
      have h3 : s.size = s.data.toList.length := Lib.size_eq s
      rw [ByteArray.data_extract, Array.toList_extract, h3, List.extract_eq_take_drop, List.take_of_length_le (by rw [List.length_drop]; omega)]
    rw [h2, List.append_assoc, List.take_append_drop, hsl, List.append_assoc]
  · simp only [ByteArray.size_extract]
    unfold cutS
    omega
theorem feed_exact {ws : List ByteArray} (hw : ∀ s ∈ ws, s.size ≤ 256) {R : Nat} : ∀ (l : List Int) (x : DkS), x.met = false → (∀ id ∈ l, isWord ws id = true) → (totS x).length + 256 * l.length ≤ R →
    ∃ y, feedS ws false R l x = (l.length, y) ∧ totS y = totS x ++ (bytS ws l).1 ∧ y.met = false ∧ y.flushed = x.flushed ∧ (bytS ws l).2 = l.length ∧ (l ≠ [] → y.held.size ≤ 3) ∧ (l = [] → y = x)
  | [], x, hm, _, _ => ⟨x, rfl, by simp [bytS], hm, rfl, rfl, by simp, fun _ => rfl⟩
  | id :: l, x, hm, hk, hR => by
    have hi : isWord ws id = true := hk id (by simp)
    have hwl := wordB_size hw id
    obtain ⟨y, hy, ht, hm', hf', h3⟩ := step_exact (ws := ws) (R := R) (id := id) (x := x) (by simp at hR; omega)
    obtain ⟨z, hz, hzt, hzm, hzf, hzb, hz3, hz4⟩ := feed_exact hw (R := R) l y (by rw [hm', hm]) (fun i hi => hk i (by simp [hi])) (by
      rw [ht, List.length_append, ← Lib.size_eq]; simp at hR; omega)
    refine ⟨z, ?_, ?_, hzm, by rw [hzf, hf'], ?_, ?_, by simp⟩
    · unfold feedS
      rw [if_neg (by simp [hm, hi]), hy]
      simp only [hz, List.length_cons]
    · rw [hzt, ht]
      simp only [bytS, hi, if_true, List.append_assoc]
    · simp only [bytS, hi, if_true, hzb, List.length_cons]
    · intro _
      by_cases hl : l = []
      · rw [hz4 hl]; exact h3
      · exact hz3 hl
theorem feed_append {ws : List ByteArray} {rep : Bool} {R : Nat} : ∀ (l m : List Int) (x y : DkS), feedS ws rep R l x = (l.length, y) → feedS ws rep R (l ++ m) x = (l.length + (feedS ws rep R m y).1, (feedS ws rep R m y).2)
  | [], m, x, y, h => by
    simp only [feedS, List.length_nil, Prod.mk.injEq, true_and] at h
    subst h
    simp
  | id :: l, m, x, y, h => by
    unfold feedS at h
    rw [List.cons_append]
    conv => lhs; unfold feedS
    split at h
    · simp at h
    · rename_i hc
      rw [if_neg hc]
      cases hs : stepS ws rep R id x with
      | none => rw [hs] at h; simp at h
      | some z =>
        rw [hs] at h
        simp only [List.length_cons, Prod.mk.injEq, Nat.add_right_cancel_iff] at h
        have h2 := feed_append l m z y (by rw [← h.2, ← h.1])
        simp only [h2, List.length_cons, Prod.mk.injEq, and_true]
        omega
/-- an unknown id, and whatever is behind it -/
theorem feed_bad {ws : List ByteArray} {rep : Bool} {R : Nat} {bad : Int} (h : isWord ws bad = false) (m : List Int) (x : DkS) : feedS ws rep R (bad :: m) x = (0, { x with met := true }) := by
  unfold feedS
  rw [if_pos (.inr h)]
theorem feed_met {ws : List ByteArray} {rep : Bool} {R : Nat} (m : List Int) (x : DkS) (h : x.met = true) : feedS ws rep R m x = (0, x) := by
  cases m with
  | nil => rfl
  | cons id m =>
    unfold feedS
    rw [if_pos (.inl h)]
    cases x; simp at h; subst h; rfl
theorem flush_exact {R : Nat} {x : DkS} (hf : x.flushed = false) (h : (totS x).length ≤ R) : dkFlushS R false x = ⟨.empty, totS x, x.met, true⟩ := by
  have ht : (totS x).length = x.ring.length + x.held.size := by unfold totS; rw [List.length_append, ← Lib.size_eq]
  have he : (emS false x.held).length = x.held.size := by unfold emS; simp only [Bool.false_eq_true, if_false]; rw [← Lib.size_eq]
  unfold dkFlushS
  rw [if_neg (by simp [hf])]
  unfold settleS
  simp only [true_and]
  rw [if_pos (by rw [he]; omega)]
  simp [totS, emS]
theorem read_empty {R : Nat} {rep : Bool} {k : Int} {q : List UInt8} {m : Bool} (hR : q.length ≤ k.toNat) : dkReadS R rep k ⟨.empty, q, m, true⟩ = ⟨.empty, [], m, true⟩ := by
  unfold dkReadS settleS
  simp only [Nat.min_eq_right hR, List.drop_length, true_and, List.length_nil, Nat.sub_zero, List.nil_append]
  have e : emS rep .empty = [] := by cases rep <;> rfl
  rw [e]
  simp
end Go.Proofs.YtemnanhoiacphaaDoor

set_option linter.unusedVariables false
set_option linter.unusedSimpArgs false
set_option maxRecDepth 100000
namespace Go.Proofs.YtemnanhoiacphaaDoor
open Go.RowKit

theorem i64s_ok {l : List Int} (h : ∀ x ∈ l, (Lit.int .i64 x).wf = true) : ∀ i ∈ l, i64ok i := by
  intro i hi
  have := h i hi
  unfold i64ok
  simpa [Lit.wf, IntKind.min, IntKind.max, IntKind.signed, IntKind.bits] using this
theorem Rd.cutI {w : World} {B n : Nat} {A : Option Addr} {l : List Int} (hr : Rd w B 1 A n (l.map (Value.int .i64))) (hl : l.length = n) (k : Nat) : ∃ n' l', List.length l' = n' ∧ Rd w B 1 A n' (l'.map (Value.int .i64)) ∧ n' ≤ n ∧ n' ≤ k ∧ l' = l.take k ∧ ((n ≤ k ∧ n' = n) ∨ (k < n ∧ n' = k)) := by
  by_cases h : n ≤ k
  · exact ⟨n, l, hl, hr, Nat.le_refl _, h, (List.take_of_length_le (by omega)).symm, .inl ⟨h, rfl⟩⟩
  · have h2 := hr.take (k := k) (by omega)
    rw [Nat.mul_one, ← List.map_take] at h2
    exact ⟨k, l.take k, by rw [List.length_take, hl]; omega, h2, by omega, Nat.le_refl _, rfl, .inr ⟨by omega, rfl⟩⟩
theorem run_slice_one {P : Program} {t e : TypeId} (ht : P.underlying t = some (.slice e)) (hsz : (P.info? e).map (·.size) = some 1) {g o n c i : Nat} (hi : i + 1 ≤ c) (W : World) :
    (Instr.slice t (.slice (some ⟨g, o, none⟩) n c) (some (.int .i64 (i : Int))) (some (.int .i64 ((i : Int) + 1))) none).run P W = .ok (.slice (some ⟨g, o + i, none⟩) 1 (c - i)) W := by
  have h2 := run_sliceBound (P := P) W .i64 ((i : Int) + 1) c .sliceAcap (by omega) (by omega)
  have h1 := run_sliceBound (P := P) W .i64 (i : Int) (i + 1) .sliceB (by omega) (by omega)
  have e1 : ((i : Int) + 1).toNat = i + 1 := by omega
  have e2 : ¬ c - i = 0 := by omega
  cases hii : P.info? e with
  | none => simp [hii] at hsz
  | some inf =>
    have hs1 : inf.size = 1 := by rw [hii] at hsz; simpa using hsz
    have e3 : ¬ c = i := by omega
    simp [Instr.slice, run_underlying ht, Instr.sliceBounds, h1, h2, e1, sizeOf, typeInfo, hii, hs1, Addr.add, e2, e3]
theorem Rd.one {w : World} {B n g o : Nat} {l : List Int} (h : Rd w B 1 (some ⟨g, o, none⟩) n (l.map (Value.int .i64))) {i : Nat} {x : Int} (hx : l[i]? = some x) (hi : i < n) : Rd w B 1 (some ⟨g, o + i, none⟩) 1 ([x].map (Value.int .i64)) := by
  obtain ⟨g', o', u, e, hB, hu, hc⟩ := h.at1 hi
  injection e with e
  injection e with e1 e2
  subst e1 e2
  rw [List.getElem?_map, hx, Option.map_some] at hu
  refine ⟨by simp, fun _ => ⟨_, rfl, hB, World.block_lt_of_cell? w _ hc, rfl, fun j v hv => ?_⟩⟩
  cases j with
  | zero =>
    simp at hv
    subst hv
    injection hu with hu
    subst hu
    simpa [Addr.add] using hc
  | succ j => simp at hv
theorem settle_flushed (R : Nat) (rep : Bool) (x : DkS) : (settleS R rep x).flushed = x.flushed := by unfold settleS; split <;> rfl
theorem read_flushed (R : Nat) (rep : Bool) (k : Int) (x : DkS) : (dkReadS R rep k x).flushed = x.flushed := settle_flushed _ _ _
theorem feed_flushed (ws : List ByteArray) (rep : Bool) (R : Nat) : ∀ (l : List Int) (x : DkS), (feedS ws rep R l x).2.flushed = x.flushed
  | [], x => rfl
  | id :: l, x => by
    unfold feedS
    split
    · rfl
    · cases h : stepS ws rep R id x with
      | none => rfl
      | some y =>
        simp only
        rw [feed_flushed ws rep R l y]
        unfold stepS at h
        simp only at h
        split at h
        · injection h with h; rw [← h]
        · cases h
theorem lgF_le : ∀ (ws : List ByteArray) (m : Nat), 1 ≤ m → (∀ s ∈ ws, s.size ≤ m) → lgF ws ≤ m := by
  intro ws m hm h
  unfold lgF
  suffices ∀ (ws : List ByteArray) (a : Nat), a ≤ m → (∀ s ∈ ws, s.size ≤ m) → ws.foldl (fun m s => max m s.size) a ≤ m from this ws 1 hm h
  intro ws
  induction ws with
  | nil => intro a ha _; exact ha
  | cons s ws ih =>
    intro a ha h
    rw [List.foldl_cons]
    exact ih _ (by have := h s (by simp); omega) (fun s hs => h s (by simp [hs]))
theorem fault_small {ws : List ByteArray} {ms : List Mg} {a b d : List Sp} (h : (faultW ws ms a b d).1 = 0) : (∀ s ∈ ws, s.size ≤ 256) ∧ lgF ws ≤ 256 := by
  have h1 : ∀ s ∈ ws, s.size ≤ 256 := fun s hs => (words_small ws [] 0 (fault_parts h).2.2.2.1 s hs).2
  exact ⟨h1, lgF_le ws 256 (by omega) h1⟩

end Go.Proofs.YtemnanhoiacphaaDoor
