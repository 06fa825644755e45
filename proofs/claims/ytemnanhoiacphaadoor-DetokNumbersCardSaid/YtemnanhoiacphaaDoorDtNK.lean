/- DetokNumbers. -/
import Derived.Test.YtemnanhoiacphaaDoorDtN0K
import Derived.Test.YtemnanhoiacphaaDoorLaidK
set_option linter.unusedVariables false
set_option linter.unusedSimpArgs false
set_option maxRecDepth 100000
namespace Go.Proofs.YtemnanhoiacphaaDoor
open Go.RowKit

set_option maxHeartbeats 16000000 in
theorem detokNumbers_walk (w : World) (hT : Tabs w) : Calls Tryd.prog 6 #[] w fun e w' => e = .returned (.bool true) ∧ Only [] w w' := by
  have HT := Lib.hid hT
  have h2 := hT.size
  clear hT
  go_enter Tryd.func6, Tryd.ntmps6
  go_wp2_with (fail)
  have HO0 := Lib.hid (Only.refl [] w)
  refine (bare_yes w (HT.out.only HO0.out (by simp) (by simp)) true).mono ?_
  rintro e w1 ⟨hO, ga, ra, ta, rfl, hB⟩
  have Ha := Lib.hid hB
  have qa1 := hB.b1
  have qa2 := hB.b2
  have qa3 := hB.b3
  have sa := hO.size
  have HOw1 := Lib.hid (HO0.out.trans hO)
  clear hB hO
  go_wp2_with (fail)
  refine (bare_yes w1 (HT.out.only HOw1.out (by simp) (by simp)) false).mono ?_
  rintro e w2 ⟨hO, gb, rb, tb, rfl, hB⟩
  have Hb := Lib.hid hB
  have qb1 := hB.b1
  have qb2 := hB.b2
  have qb3 := hB.b3
  have sb := hO.size
  have Ha := Lib.hid (Ha.out.only0 hO)
  have HOw2 := Lib.hid (HOw1.out.trans hO)
  clear hB hO
  go_wp2_with (fail)
  refine (bare_yes w2 (HT.out.only HOw2.out (by simp) (by simp)) true).mono ?_
  rintro e w3 ⟨hO, gc, rc, tc, rfl, hB⟩
  have Hc := Lib.hid hB
  have qc1 := hB.b1
  have qc2 := hB.b2
  have qc3 := hB.b3
  have sc := hO.size
  have Ha := Lib.hid (Ha.out.only0 hO)
  have Hb := Lib.hid (Hb.out.only0 hO)
  have HOw3 := Lib.hid (HOw2.out.trans hO)
  clear hB hO
  go_wp2_with (fail)
  refine (bare_yes w3 (HT.out.only HOw3.out (by simp) (by simp)) false).mono ?_
  rintro e w4 ⟨hO, gd, rd, td, rfl, hB⟩
  have Hd := Lib.hid hB
  have qd1 := hB.b1
  have qd2 := hB.b2
  have qd3 := hB.b3
  have sd := hO.size
  have Ha := Lib.hid (Ha.out.only0 hO)
  have Hb := Lib.hid (Hb.out.only0 hO)
  have Hc := Lib.hid (Hc.out.only0 hO)
  have HOw4 := Lib.hid (HOw3.out.trans hO)
  clear hB hO
  go_wp2_with (fail)
  refine (bare_no w4 11 (by unfold i64ok; omega) (by unfold NewOk; omega) false).mono ?_
  rintro e w5 ⟨rfl, hO⟩
  have sw5 := hO.size
  have Ha := Lib.hid (Ha.out.only0 hO)
  have Hb := Lib.hid (Hb.out.only0 hO)
  have Hc := Lib.hid (Hc.out.only0 hO)
  have Hd := Lib.hid (Hd.out.only0 hO)
  have HOw5 := Lib.hid (HOw4.out.trans hO)
  clear hO
  go_wp2_with (fail)
  refine (bare_no w5 1048577 (by unfold i64ok; omega) (by unfold NewOk; omega) false).mono ?_
  rintro e w6 ⟨rfl, hO⟩
  have sw6 := hO.size
  have Ha := Lib.hid (Ha.out.only0 hO)
  have Hb := Lib.hid (Hb.out.only0 hO)
  have Hc := Lib.hid (Hc.out.only0 hO)
  have Hd := Lib.hid (Hd.out.only0 hO)
  have HOw6 := Lib.hid (HOw5.out.trans hO)
  clear hO
  go_wp2_with (fail)
  refine (new_nil w6 100 false).mono ?_
  rintro e wz ⟨rfl, rfl⟩
  go_wp2_with (fail)
  obtain ⟨bw7, hb⟩ : ∃ b, b = w6.heap.size := ⟨_, rfl⟩
  obtain ⟨w7, hW⟩ : ∃ W, W = w6.alloc (.cells #[.int .i64 226, .int .i64 130, .int .i64 97] 3) := ⟨_, rfl⟩
  have hbk : Blk w7 bw7 3 (([226, 130, 97] : List Int).map (Value.int .i64)) := by rw [hW]; exact Blk.new' _ _ _ hb.symm rfl
  have hO : Only [] w6 w7 := by rw [hW]; exact (Only.refl _ _).alloc _
  have sw7 := hO.size
  have Ha := Lib.hid (Ha.out.only0 hO)
  have Hb := Lib.hid (Hb.out.only0 hO)
  have Hc := Lib.hid (Hc.out.only0 hO)
  have Hd := Lib.hid (Hd.out.only0 hO)
  have HOw7 := Lib.hid (HOw6.out.trans hO)
  have HEb := Lib.hid hb
  have HEW := Lib.hid hW
  have hfd := Ha.out.feed hbk (by omega) (n := 3) rfl (by omega) (by intro i hi; simp at hi; unfold i64ok; omega) nu_a1 rfl
  have Hfd := Lib.hid hfd
  clear hb hW hO hbk hfd
  go_wp2_with (fail)
  rw [← HEb.out, ← HEW.out]
  refine Hfd.out.mono ?_
  rintro e w8 ⟨rfl, hB, hO⟩
  have Ha := Lib.hid hB
  clear hB Hfd HEW HEb
  have Hb := Lib.hid (Hb.out.other hO (by intro y hy; simp at hy; omega))
  have Hc := Lib.hid (Hc.out.other hO (by intro y hy; simp at hy; omega))
  have Hd := Lib.hid (Hd.out.other hO (by intro y hy; simp at hy; omega))
  have sw8 := hO.size
  have HOw8 := Lib.hid (HOw7.out.trans' hO (by intro y hy; simp at hy; exact .inr (by omega)))
  clear hO
  go_wp2_with (fail)
  have hrd := Ha.out.read 9 nu_a2 (m := 4) (by rfl) (t := [239, 191, 189, 97]) (by rfl) (st := 0) (by rfl)
  have Hrd := Lib.hid hrd
  clear hrd
  refine Hrd.out.mono ?_
  rintro e w9 ⟨ox, rfl, hox, hbo, hB, hO⟩
  have Ha := Lib.hid hB
  have ltx := hbo.lt
  have HKx := Lib.hid hbo
  clear hB hbo Hrd
  have Hb := Lib.hid (Hb.out.other hO (by intro y hy; simp at hy; omega))
  have Hc := Lib.hid (Hc.out.other hO (by intro y hy; simp at hy; omega))
  have Hd := Lib.hid (Hd.out.other hO (by intro y hy; simp at hy; omega))
  have sw9 := hO.size
  have HOw9 := Lib.hid (HOw8.out.trans' hO (by intro y hy; simp at hy; exact .inr (by omega)))
  clear hO
  go_wp2_with (fail)
  obtain ⟨bw10, hb⟩ : ∃ b, b = w9.heap.size := ⟨_, rfl⟩
  obtain ⟨w10, hW⟩ : ∃ W, W = w9.alloc (.cells #[.int .i64 226] 3) := ⟨_, rfl⟩
  have hbk : Blk w10 bw10 3 (([226] : List Int).map (Value.int .i64)) := by rw [hW]; exact Blk.new' _ _ _ hb.symm rfl
  have hO : Only [] w9 w10 := by rw [hW]; exact (Only.refl _ _).alloc _
  have sw10 := hO.size
  have Ha := Lib.hid (Ha.out.only0 hO)
  have Hb := Lib.hid (Hb.out.only0 hO)
  have Hc := Lib.hid (Hc.out.only0 hO)
  have Hd := Lib.hid (Hd.out.only0 hO)
  have HKx := Lib.hid (HKx.out.only hO (by simp))
  have HOw10 := Lib.hid (HOw9.out.trans hO)
  have HEb := Lib.hid hb
  have HEW := Lib.hid hW
  have hfd := Hb.out.feed hbk (by omega) (n := 1) rfl (by omega) (by intro i hi; simp at hi; unfold i64ok; omega) nu_b1 rfl
  have Hfd := Lib.hid hfd
  clear hb hW hO hbk hfd
  go_wp2_with (fail)
  rw [← HEb.out, ← HEW.out]
  refine Hfd.out.mono ?_
  rintro e w11 ⟨rfl, hB, hO⟩
  have Hb := Lib.hid hB
  clear hB Hfd HEW HEb
  have HKx := Lib.hid (HKx.out.only hO (by simp; omega))
  have Ha := Lib.hid (Ha.out.other hO (by intro y hy; simp at hy; omega))
  have Hc := Lib.hid (Hc.out.other hO (by intro y hy; simp at hy; omega))
  have Hd := Lib.hid (Hd.out.other hO (by intro y hy; simp at hy; omega))
  have sw11 := hO.size
  have HOw11 := Lib.hid (HOw10.out.trans' hO (by intro y hy; simp at hy; exact .inr (by omega)))
  clear hO
  go_wp2_with (fail)
  have hfl := Hb.out.flush nu_b2
  have Hfl := Lib.hid hfl
  clear hfl
  refine Hfl.out.mono ?_
  rintro e w12 ⟨rfl, hB, hO⟩
  have Hb := Lib.hid hB
  clear hB Hfl
  have HKx := Lib.hid (HKx.out.only hO (by simp; omega))
  have Ha := Lib.hid (Ha.out.other hO (by intro y hy; simp at hy; omega))
  have Hc := Lib.hid (Hc.out.other hO (by intro y hy; simp at hy; omega))
  have Hd := Lib.hid (Hd.out.other hO (by intro y hy; simp at hy; omega))
  have sw12 := hO.size
  have HOw12 := Lib.hid (HOw11.out.trans' hO (by intro y hy; simp at hy; exact .inr (by omega)))
  clear hO
  go_wp2_with (fail)
  have hrd := Hb.out.read 9 nu_b3 (m := 1) (by rfl) (t := [226]) (by rfl) (st := 1) (by rfl)
  have Hrd := Lib.hid hrd
  clear hrd
  refine Hrd.out.mono ?_
  rintro e w13 ⟨oy, rfl, hoy, hbo, hB, hO⟩
  have Hb := Lib.hid hB
  have lty := hbo.lt
  have HKy := Lib.hid hbo
  clear hB hbo Hrd
  have HKx := Lib.hid (HKx.out.only hO (by simp; omega))
  have Ha := Lib.hid (Ha.out.other hO (by intro y hy; simp at hy; omega))
  have Hc := Lib.hid (Hc.out.other hO (by intro y hy; simp at hy; omega))
  have Hd := Lib.hid (Hd.out.other hO (by intro y hy; simp at hy; omega))
  have sw13 := hO.size
  have HOw13 := Lib.hid (HOw12.out.trans' hO (by intro y hy; simp at hy; exact .inr (by omega)))
  clear hO
  go_wp2_with (fail)
  obtain ⟨bw14, hb⟩ : ∃ b, b = w13.heap.size := ⟨_, rfl⟩
  obtain ⟨w14, hW⟩ : ∃ W, W = w13.alloc (.cells #[.int .i64 226] 3) := ⟨_, rfl⟩
  have hbk : Blk w14 bw14 3 (([226] : List Int).map (Value.int .i64)) := by rw [hW]; exact Blk.new' _ _ _ hb.symm rfl
  have hO : Only [] w13 w14 := by rw [hW]; exact (Only.refl _ _).alloc _
  have sw14 := hO.size
  have Ha := Lib.hid (Ha.out.only0 hO)
  have Hb := Lib.hid (Hb.out.only0 hO)
  have Hc := Lib.hid (Hc.out.only0 hO)
  have Hd := Lib.hid (Hd.out.only0 hO)
  have HKx := Lib.hid (HKx.out.only hO (by simp))
  have HKy := Lib.hid (HKy.out.only hO (by simp))
  have HOw14 := Lib.hid (HOw13.out.trans hO)
  have HEb := Lib.hid hb
  have HEW := Lib.hid hW
  have hfd := Hc.out.feed hbk (by omega) (n := 1) rfl (by omega) (by intro i hi; simp at hi; unfold i64ok; omega) nu_c1 rfl
  have Hfd := Lib.hid hfd
  clear hb hW hO hbk hfd
  go_wp2_with (fail)
  rw [← HEb.out, ← HEW.out]
  refine Hfd.out.mono ?_
  rintro e w15 ⟨rfl, hB, hO⟩
  have Hc := Lib.hid hB
  clear hB Hfd HEW HEb
  have HKx := Lib.hid (HKx.out.only hO (by simp; omega))
  have HKy := Lib.hid (HKy.out.only hO (by simp; omega))
  have Ha := Lib.hid (Ha.out.other hO (by intro y hy; simp at hy; omega))
  have Hb := Lib.hid (Hb.out.other hO (by intro y hy; simp at hy; omega))
  have Hd := Lib.hid (Hd.out.other hO (by intro y hy; simp at hy; omega))
  have sw15 := hO.size
  have HOw15 := Lib.hid (HOw14.out.trans' hO (by intro y hy; simp at hy; exact .inr (by omega)))
  clear hO
  go_wp2_with (fail)
  have hfl := Hc.out.flush nu_c2
  have Hfl := Lib.hid hfl
  clear hfl
  refine Hfl.out.mono ?_
  rintro e w16 ⟨rfl, hB, hO⟩
  have Hc := Lib.hid hB
  clear hB Hfl
  have HKx := Lib.hid (HKx.out.only hO (by simp; omega))
  have HKy := Lib.hid (HKy.out.only hO (by simp; omega))
  have Ha := Lib.hid (Ha.out.other hO (by intro y hy; simp at hy; omega))
  have Hb := Lib.hid (Hb.out.other hO (by intro y hy; simp at hy; omega))
  have Hd := Lib.hid (Hd.out.other hO (by intro y hy; simp at hy; omega))
  have sw16 := hO.size
  have HOw16 := Lib.hid (HOw15.out.trans' hO (by intro y hy; simp at hy; exact .inr (by omega)))
  clear hO
  go_wp2_with (fail)
  have hrd := Hc.out.read 9 nu_c3 (m := 3) (by rfl) (t := [239, 191, 189]) (by rfl) (st := 1) (by rfl)
  have Hrd := Lib.hid hrd
  clear hrd
  refine Hrd.out.mono ?_
  rintro e w17 ⟨oz, rfl, hoz, hbo, hB, hO⟩
  have Hc := Lib.hid hB
  have ltz := hbo.lt
  have HKz := Lib.hid hbo
  clear hB hbo Hrd
  have HKx := Lib.hid (HKx.out.only hO (by simp; omega))
  have HKy := Lib.hid (HKy.out.only hO (by simp; omega))
  have Ha := Lib.hid (Ha.out.other hO (by intro y hy; simp at hy; omega))
  have Hb := Lib.hid (Hb.out.other hO (by intro y hy; simp at hy; omega))
  have Hd := Lib.hid (Hd.out.other hO (by intro y hy; simp at hy; omega))
  have sw17 := hO.size
  have HOw17 := Lib.hid (HOw16.out.trans' hO (by intro y hy; simp at hy; exact .inr (by omega)))
  clear hO
  go_wp2_with (fail)
  obtain ⟨bw18, hb⟩ : ∃ b, b = w17.heap.size := ⟨_, rfl⟩
  obtain ⟨w18, hW⟩ : ∃ W, W = w17.alloc (.cells #[.int .i64 97, .int .i64 256, .int .i64 98] 3) := ⟨_, rfl⟩
  have hbk : Blk w18 bw18 3 (([97, 256, 98] : List Int).map (Value.int .i64)) := by rw [hW]; exact Blk.new' _ _ _ hb.symm rfl
  have hO : Only [] w17 w18 := by rw [hW]; exact (Only.refl _ _).alloc _
  have sw18 := hO.size
  have Ha := Lib.hid (Ha.out.only0 hO)
  have Hb := Lib.hid (Hb.out.only0 hO)
  have Hc := Lib.hid (Hc.out.only0 hO)
  have Hd := Lib.hid (Hd.out.only0 hO)
  have HKx := Lib.hid (HKx.out.only hO (by simp))
  have HKy := Lib.hid (HKy.out.only hO (by simp))
  have HKz := Lib.hid (HKz.out.only hO (by simp))
  have HOw18 := Lib.hid (HOw17.out.trans hO)
  have HEb := Lib.hid hb
  have HEW := Lib.hid hW
  have hfd := Hd.out.feed hbk (by omega) (n := 3) rfl (by omega) (by intro i hi; simp at hi; unfold i64ok; omega) nu_d1 rfl
  have Hfd := Lib.hid hfd
  clear hb hW hO hbk hfd
  go_wp2_with (fail)
  rw [← HEb.out, ← HEW.out]
  refine Hfd.out.mono ?_
  rintro e w19 ⟨rfl, hB, hO⟩
  have Hd := Lib.hid hB
  clear hB Hfd HEW HEb
  have HKx := Lib.hid (HKx.out.only hO (by simp; omega))
  have HKy := Lib.hid (HKy.out.only hO (by simp; omega))
  have HKz := Lib.hid (HKz.out.only hO (by simp; omega))
  have Ha := Lib.hid (Ha.out.other hO (by intro y hy; simp at hy; omega))
  have Hb := Lib.hid (Hb.out.other hO (by intro y hy; simp at hy; omega))
  have Hc := Lib.hid (Hc.out.other hO (by intro y hy; simp at hy; omega))
  have sw19 := hO.size
  have HOw19 := Lib.hid (HOw18.out.trans' hO (by intro y hy; simp at hy; exact .inr (by omega)))
  clear hO
  go_wp2_with (fail)
  obtain ⟨bw20, hb⟩ : ∃ b, b = w19.heap.size := ⟨_, rfl⟩
  obtain ⟨w20, hW⟩ : ∃ W, W = w19.alloc (.cells #[.int .i64 97] 3) := ⟨_, rfl⟩
  have hbk : Blk w20 bw20 3 (([97] : List Int).map (Value.int .i64)) := by rw [hW]; exact Blk.new' _ _ _ hb.symm rfl
  have hO : Only [] w19 w20 := by rw [hW]; exact (Only.refl _ _).alloc _
  have sw20 := hO.size
  have Ha := Lib.hid (Ha.out.only0 hO)
  have Hb := Lib.hid (Hb.out.only0 hO)
  have Hc := Lib.hid (Hc.out.only0 hO)
  have Hd := Lib.hid (Hd.out.only0 hO)
  have HKx := Lib.hid (HKx.out.only hO (by simp))
  have HKy := Lib.hid (HKy.out.only hO (by simp))
  have HKz := Lib.hid (HKz.out.only hO (by simp))
  have HOw20 := Lib.hid (HOw19.out.trans hO)
  have HEb := Lib.hid hb
  have HEW := Lib.hid hW
  have hfd := Hd.out.feed hbk (by omega) (n := 1) rfl (by omega) (by intro i hi; simp at hi; unfold i64ok; omega) nu_d2 rfl
  have Hfd := Lib.hid hfd
  clear hb hW hO hbk hfd
  go_wp2_with (fail)
  rw [← HEb.out, ← HEW.out]
  refine Hfd.out.mono ?_
  rintro e w21 ⟨rfl, hB, hO⟩
  have Hd := Lib.hid hB
  clear hB Hfd HEW HEb
  have HKx := Lib.hid (HKx.out.only hO (by simp; omega))
  have HKy := Lib.hid (HKy.out.only hO (by simp; omega))
  have HKz := Lib.hid (HKz.out.only hO (by simp; omega))
  have Ha := Lib.hid (Ha.out.other hO (by intro y hy; simp at hy; omega))
  have Hb := Lib.hid (Hb.out.other hO (by intro y hy; simp at hy; omega))
  have Hc := Lib.hid (Hc.out.other hO (by intro y hy; simp at hy; omega))
  have sw21 := hO.size
  have HOw21 := Lib.hid (HOw20.out.trans' hO (by intro y hy; simp at hy; exact .inr (by omega)))
  clear hO
  go_wp2_with (fail)
  have hfl := Hb.out.flush (by rfl : dkFlushS 12 false ⟨.empty, [], false, true⟩ = ⟨.empty, [], false, true⟩)
  have Hfl := Lib.hid hfl
  clear hfl
  refine Hfl.out.mono ?_
  rintro e w22 ⟨rfl, hB, hO⟩
  have Hb := Lib.hid hB
  clear hB Hfl
  have HKx := Lib.hid (HKx.out.only hO (by simp; omega))
  have HKy := Lib.hid (HKy.out.only hO (by simp; omega))
  have HKz := Lib.hid (HKz.out.only hO (by simp; omega))
  have Ha := Lib.hid (Ha.out.other hO (by intro y hy; simp at hy; omega))
  have Hc := Lib.hid (Hc.out.other hO (by intro y hy; simp at hy; omega))
  have Hd := Lib.hid (Hd.out.other hO (by intro y hy; simp at hy; omega))
  have sw22 := hO.size
  have HOw22 := Lib.hid (HOw21.out.trans' hO (by intro y hy; simp at hy; exact .inr (by omega)))
  clear hO
  go_wp2_with (fail)
  have hfd := Hb.out.fed (A := none) (n := 0) (l := []) ⟨0, Rd.zero _ _ _ _⟩ (by simp) rfl (by omega) (by simp) rfl
  have Hfd := Lib.hid hfd
  clear hfd
  refine Hfd.out.mono ?_
  rintro e w23 ⟨rfl, hB, hO⟩
  have Hb := Lib.hid hB
  clear hB Hfd
  have HKx := Lib.hid (HKx.out.only hO (by simp; omega))
  have HKy := Lib.hid (HKy.out.only hO (by simp; omega))
  have HKz := Lib.hid (HKz.out.only hO (by simp; omega))
  have Ha := Lib.hid (Ha.out.other hO (by intro y hy; simp at hy; omega))
  have Hc := Lib.hid (Hc.out.other hO (by intro y hy; simp at hy; omega))
  have Hd := Lib.hid (Hd.out.other hO (by intro y hy; simp at hy; omega))
  have sw23 := hO.size
  have HOw23 := Lib.hid (HOw22.out.trans' hO (by intro y hy; simp at hy; exact .inr (by omega)))
  clear hO
  have cvx := byteStr 4 HKx.out (n := 4) rfl
  rw [show str [239, 191, 189, 97] = (⟨#[239, 191, 189, 97]⟩ : ByteArray) from rfl] at cvx
  have sex : ((⟨#[239, 191, 189, 97]⟩ : ByteArray).toList == (⟨#[239, 191, 189, 97]⟩ : ByteArray).toList) = true := beq_self_eq_true _
  have cvy := byteStr 1 HKy.out (n := 1) rfl
  rw [show str [226] = (⟨#[226]⟩ : ByteArray) from rfl] at cvy
  have sey : ((⟨#[226]⟩ : ByteArray).toList == (⟨#[226]⟩ : ByteArray).toList) = true := beq_self_eq_true _
  have cvz := byteStr 3 HKz.out (n := 3) rfl
  rw [show str [239, 191, 189] = (⟨#[239, 191, 189]⟩ : ByteArray) from rfl] at cvz
  have sez : ((⟨#[239, 191, 189]⟩ : ByteArray).toList == (⟨#[239, 191, 189]⟩ : ByteArray).toList) = true := beq_self_eq_true _
  go_wp2_with (fail)
  refine (Hd.out.status).mono ?_
  rintro e wz ⟨rfl, rfl⟩
  rw [show statS ⟨.empty, [97], true, false⟩ = 3 from rfl]
  clear HKx HKy HKz Ha Hb Hc Hd cvx cvy cvz
  go_wp2_with (fail)
  refine (bare_yes w23 (HT.out.only HOw23.out (by simp) (by simp)) false).mono ?_
  rintro e w24 ⟨hO, gh, rh, th, rfl, hB⟩
  have Hh := Lib.hid hB
  have qh1 := hB.b1
  have qh2 := hB.b2
  have qh3 := hB.b3
  have sh := hO.size
  have HOw24 := Lib.hid (HOw23.out.trans hO)
  clear hB hO
  go_wp2_with (fail)
  obtain ⟨bw25, hb⟩ : ∃ b, b = w24.heap.size := ⟨_, rfl⟩
  obtain ⟨w25, hW⟩ : ∃ W, W = w24.alloc (.cells #[.int .i64 97, .int .i64 97, .int .i64 97, .int .i64 97, .int .i64 97, .int .i64 97, .int .i64 97, .int .i64 97, .int .i64 97, .int .i64 97, .int .i64 97, .int .i64 97, .int .i64 226, .int .i64 97] 3) := ⟨_, rfl⟩
  have hbk : Blk w25 bw25 3 (([97, 97, 97, 97, 97, 97, 97, 97, 97, 97, 97, 97, 226, 97] : List Int).map (Value.int .i64)) := by rw [hW]; exact Blk.new' _ _ _ hb.symm rfl
  have hO : Only [] w24 w25 := by rw [hW]; exact (Only.refl _ _).alloc _
  have sw25 := hO.size
  have Hh := Lib.hid (Hh.out.only0 hO)
  have HOw25 := Lib.hid (HOw24.out.trans hO)
  have HEb := Lib.hid hb
  have HEW := Lib.hid hW
  have hfd := Hh.out.feed hbk (by omega) (n := 14) rfl (by omega) (by intro i hi; simp at hi; unfold i64ok; omega) nu_h1 rfl
  have Hfd := Lib.hid hfd
  clear hb hW hO hbk hfd
  go_wp2_with (fail)
  rw [← HEb.out, ← HEW.out]
  refine Hfd.out.mono ?_
  rintro e w26 ⟨rfl, hB, hO⟩
  have Hh := Lib.hid hB
  clear hB Hfd HEW HEb
  have sw26 := hO.size
  have HOw26 := Lib.hid (HOw25.out.trans' hO (by intro y hy; simp at hy; exact .inr (by omega)))
  clear hO
  go_wp2_with (fail)
  have hfl := Hh.out.flush nu_h2
  have Hfl := Lib.hid hfl
  clear hfl
  refine Hfl.out.mono ?_
  rintro e w27 ⟨rfl, hB, hO⟩
  have Hh := Lib.hid hB
  clear hB Hfl
  have sw27 := hO.size
  have HOw27 := Lib.hid (HOw26.out.trans' hO (by intro y hy; simp at hy; exact .inr (by omega)))
  clear hO
  go_wp2_with (fail)
  obtain ⟨bw28, hb⟩ : ∃ b, b = w27.heap.size := ⟨_, rfl⟩
  obtain ⟨w28, hW⟩ : ∃ W, W = w27.alloc (.cells #[.int .i64 97] 3) := ⟨_, rfl⟩
  have hbk : Blk w28 bw28 3 (([97] : List Int).map (Value.int .i64)) := by rw [hW]; exact Blk.new' _ _ _ hb.symm rfl
  have hO : Only [] w27 w28 := by rw [hW]; exact (Only.refl _ _).alloc _
  have sw28 := hO.size
  have Hh := Lib.hid (Hh.out.only0 hO)
  have HOw28 := Lib.hid (HOw27.out.trans hO)
  have HEb := Lib.hid hb
  have HEW := Lib.hid hW
  have hfd := Hh.out.fed (A := some ⟨bw28, 0, none⟩) (n := 1) (l := [97]) ⟨_, rd_ints hbk rfl⟩ (by intro ad e1; injection e1 with e1; subst e1; simp only; omega) rfl (by omega) (by intro i hi; simp at hi; unfold i64ok; omega) rfl
  have Hfd := Lib.hid hfd
  clear hb hW hO hbk hfd
  go_wp2_with (fail)
  rw [← HEb.out, ← HEW.out]
  refine Hfd.out.mono ?_
  rintro e w29 ⟨rfl, hB, hO⟩
  have Hh := Lib.hid hB
  clear hB Hfd HEW HEb
  have sw29 := hO.size
  have HOw29 := Lib.hid (HOw28.out.trans' hO (by intro y hy; simp at hy; exact .inr (by omega)))
  clear hO
  go_wp2_with (fail)
  refine (Hh.out.wait).mono ?_
  rintro e wz ⟨rfl, rfl⟩
  rw [show (DkS.ring ⟨⟨#[226]⟩, List.replicate 12 97, false, true⟩).length = 12 from rfl]
  go_wp2_with (fail)
  refine (Hh.out.held).mono ?_
  rintro e wz ⟨rfl, rfl⟩
  rw [show (DkS.held ⟨⟨#[226]⟩, List.replicate 12 97, false, true⟩).size = 1 from rfl]
  go_wp2_with (fail)
  have hrd := Hh.out.read 12 nu_h3 (m := 12) (by rfl) (t := List.replicate 12 97) (by rfl) (st := 0) (by rfl)
  have Hrd := Lib.hid hrd
  clear hrd
  refine Hrd.out.mono ?_
  rintro e w30 ⟨ou, rfl, hou, hbo, hB, hO⟩
  have Hh := Lib.hid hB
  have ltu := hbo.lt
  have HKu := Lib.hid hbo
  clear hB hbo Hrd
  have sw30 := hO.size
  have HOw30 := Lib.hid (HOw29.out.trans' hO (by intro y hy; simp at hy; exact .inr (by omega)))
  clear hO
  go_wp2_with (fail)
  have hrd := Hh.out.read 12 nu_h4 (m := 1) (by rfl) (t := [226]) (by rfl) (st := 1) (by rfl)
  have Hrd := Lib.hid hrd
  clear hrd
  refine Hrd.out.mono ?_
  rintro e w31 ⟨ov, rfl, hov, hbo, hB, hO⟩
  have Hh := Lib.hid hB
  have ltv := hbo.lt
  have HKv := Lib.hid hbo
  clear hB hbo Hrd
  have HKu := Lib.hid (HKu.out.only hO (by simp; omega))
  have sw31 := hO.size
  have HOw31 := Lib.hid (HOw30.out.trans' hO (by intro y hy; simp at hy; exact .inr (by omega)))
  clear hO
  have cvv := byteStr 1 HKv.out (n := 1) rfl
  rw [show str [226] = (⟨#[226]⟩ : ByteArray) from rfl] at cvv
  have sev : ((⟨#[226]⟩ : ByteArray).toList == (⟨#[226]⟩ : ByteArray).toList) = true := beq_self_eq_true _
  have hTz := HT.out.only HOw31.out (by simp) (by simp)
  go_wp2_with (fail)
  refine (known17_any w31 hTz).mono ?_
  rintro e wy ⟨rfl, hOy⟩
  go_wp2_with (fail)
  go_ret
  exact ⟨rfl, HOw31.out.trans hOy⟩
end Go.Proofs.YtemnanhoiacphaaDoor
