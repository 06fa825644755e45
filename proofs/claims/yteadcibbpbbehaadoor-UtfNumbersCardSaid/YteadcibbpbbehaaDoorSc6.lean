/- UtfNumbers: the walk. -/
import Derived.Test.YteadcibbpbbehaaDoorSc4
import Derived.Test.YteadcibbpbbehaaDoorUtfN
namespace Go.Proofs.YteadcibbpbbehaaDoor
open Go.RowKit

theorem nT1 : tailU ⟨#[226, 130, 172]⟩ = 0 := by kernel_rfl
theorem nT2 : tailU ⟨#[240, 159, 152]⟩ = 3 := by kernel_rfl
theorem nT3 : tailU ⟨#[237, 160]⟩ = 0 := by kernel_rfl
theorem nT4 : tailU ⟨#[192]⟩ = 0 := by kernel_rfl
theorem nR1 : replS ⟨#[237, 160, 128]⟩ = [239, 191, 189, 239, 191, 189, 239, 191, 189] := by kernel_rfl
theorem nR2 : replS ⟨#[226, 130]⟩ = [239, 191, 189] := by kernel_rfl
theorem nS1 : scanS false ⟨#[240]⟩ 0 = ([], 0) := by kernel_rfl
theorem nS2 : scanS false ⟨#[240, 159]⟩ 0 = ([], 0) := by kernel_rfl
theorem nS3 : scanS false ⟨#[240, 159, 152]⟩ 0 = ([], 0) := by kernel_rfl
theorem nS4 : scanS false ⟨#[240, 159, 152, 97]⟩ 0 = ([⟨0, 1, 65533, true⟩, ⟨1, 1, 65533, true⟩, ⟨2, 1, 65533, true⟩, ⟨3, 1, 97, false⟩], 4) := by kernel_rfl
theorem nS5 : scanS true ⟨#[240, 159, 152, 97]⟩ 4 = ([], 4) := by kernel_rfl

/-- what a put answers, in numbers -/
def PutK (w : World) (b : Nat) (t : ByteArray) (L : List It) (p' : Nat) (e : Ending) (w' : World) : Prop :=
  ∃ A c, e = .returned (.slice A L.length c) ∧ Rd w' w'.heap.size 4 A L.length (L.flatMap It.enc) ∧ L.length ≤ c ∧ ScanAt w' b (from_ t p') t.size ∧ Fr b w w'
theorem movedL_0 (l : List It) : movedL 0 l = l := by
  unfold movedL
  conv => rhs; rw [← List.map_id l]
  apply List.map_congr_left
  intro x _
  rfl
theorem put_k (w : World) (b : Nat) (s t : ByteArray) (x : UInt8) (p p' : Nat) (L : List It) (hT' : scanS false t p = (L, p')) (hp : p ≤ s.size) (hst : t.data.toList = s.data.toList ++ [x]) (hs : t.size ≤ 1048576) (hT : Tabs w) (h2 : 2 ≤ b) (hS : ScanAt w b (from_ s p) s.size) :
    Calls Tryd.prog 24 #[.pointer (some ⟨b, 0, none⟩), .int .u8 (x.toNat : Int)] w (PutK w b t L p') := by
  have h := put_any w b 0 s t x p hp hst hs (by omega) hT h2 (by rw [Nat.zero_add]; exact hS)
  rw [hT'] at h
  refine h.mono ?_
  rintro e w' ⟨v, rfl, h3, h4, h5⟩
  simp only [movedL_0, Nat.zero_add] at h3 h4
  obtain ⟨A, c, rfl, hnc, hR, -⟩ := own_slice h3
  exact ⟨A, c, rfl, hR, hnc, h4, h5⟩

set_option maxRecDepth 100000 in
set_option maxHeartbeats 4000000 in
theorem utfNumbers_walk (w : World) (hT : Tabs w) :
    Calls Tryd.prog 9 #[] w fun e w' => e = .returned (.bool true) ∧ Only [] w w' := by
  go_enter Tryd.func9, Tryd.ntmps9
  have h2 := hT.size
  go_wp2_with (fail)
  refine (tail_any ⟨#[226, 130, 172]⟩ (by decide) w hT).mono ?_
  rintro e w1 ⟨rfl, hO⟩
  rw [nT1]
  have hT1 := hT.only hO (by simp) (by simp)
  go_wp2_with (fail)
  refine (tail_any ⟨#[240, 159, 152]⟩ (by decide) w1 hT1).mono ?_
  rintro e w2 ⟨rfl, hO2⟩
  rw [nT2]
  have hO := hO.trans hO2
  have hT1 := hT.only hO (by simp) (by simp)
  go_wp2_with (fail)
  refine (tail_any ⟨#[237, 160]⟩ (by decide) w2 hT1).mono ?_
  rintro e w3 ⟨rfl, hO3⟩
  rw [nT3]
  have hO := hO.trans hO3
  have hT1 := hT.only hO (by simp) (by simp)
  go_wp2_with (fail)
  refine (tail_any ⟨#[192]⟩ (by decide) w3 hT1).mono ?_
  rintro e w4 ⟨rfl, hO4⟩
  rw [nT4]
  have hO := hO.trans hO4
  have hT1 := hT.only hO (by simp) (by simp)
  go_wp2_with (fail)
  refine (replace_any ⟨#[237, 160, 128]⟩ (by decide) w4 hT1).mono ?_
  rintro e w5 ⟨rfl, hO5⟩
  rw [nR1]
  have hO := hO.trans hO5
  have hT1 := hT.only hO (by simp) (by simp)
  go_wp2_with (fail)
  refine (replace_any ⟨#[226, 130]⟩ (by decide) w5 hT1).mono ?_
  rintro e w6 ⟨rfl, hO6⟩
  rw [nR2]
  have hO := hO.trans hO6
  have hT1 := hT.only hO (by simp) (by simp)
  go_wp2_with (fail)
  refine (new_any w6).mono ?_
  obtain ⟨b, hb⟩ : ∃ b, b = w6.heap.size := ⟨_, rfl⟩
  rw [← hb]
  have hwb : w.heap.size ≤ b := by have := hO.size; omega
  have Hb := Lib.hid hb
  clear hb
  rintro e w7 ⟨rfl, hS, hO7⟩
  have hO := hO.trans hO7
  have hT1 := hT.only hO (by simp) (by simp)
  go_wp2_with (fail)
  refine (put_k w7 b ⟨#[]⟩ ⟨#[240]⟩ 240 0 0 [] nS1 (by decide) rfl (by decide) hT1 (by omega) hS).mono ?_
  rintro e w8 ⟨A, c, rfl, -, -, hS, hF⟩
  have hO := hF.only0 hO hwb
  have hT1 := hT.only hO (by simp) (by simp)
  clear hF
  go_wp2_with (fail)
  refine (put_k w8 b ⟨#[240]⟩ ⟨#[240, 159]⟩ 159 0 0 [] nS2 (by decide) rfl (by decide) hT1 (by omega) hS).mono ?_
  rintro e w9 ⟨A1, c1, rfl, -, -, hS, hF⟩
  have hO := hF.only0 hO hwb
  have hT1 := hT.only hO (by simp) (by simp)
  clear hF
  go_wp2_with (fail)
  refine (put_k w9 b ⟨#[240, 159]⟩ ⟨#[240, 159, 152]⟩ 152 0 0 [] nS3 (by decide) rfl (by decide) hT1 (by omega) hS).mono ?_
  rintro e w10 ⟨A2, c2, rfl, -, -, hS, hF⟩
  have hO := hF.only0 hO hwb
  have hT1 := hT.only hO (by simp) (by simp)
  clear hF
  go_wp2_with (fail)
  refine (held_any w10 b _ _ hS).mono ?_
  rintro e w11 ⟨rfl, rfl⟩
  rw [show (from_ ⟨#[240, 159, 152]⟩ 0).length = 3 from rfl]
  go_wp2_with (fail)
  refine (count_any w10 b _ _ hS).mono ?_
  rintro e w11 ⟨rfl, rfl⟩
  rw [show (ByteArray.mk #[240, 159, 152]).size = 3 from rfl]
  go_wp2_with (fail)
  refine (put_k w10 b ⟨#[240, 159, 152]⟩ ⟨#[240, 159, 152, 97]⟩ 97 0 4 _ nS4 (by decide) rfl (by decide) hT1 (by omega) hS).mono ?_
  rintro e w12 ⟨A3, c3, rfl, hR, hnc, hS, hF⟩
  have hO := hF.only0 hO hwb
  have hT1 := hT.only hO (by simp) (by simp)
  rw [show (List.length [(⟨0, 1, 65533, true⟩ : It), ⟨1, 1, 65533, true⟩, ⟨2, 1, 65533, true⟩, ⟨3, 1, 97, false⟩]) = 4 from rfl] at hR hnc ⊢
  obtain ⟨g, o, rfl, _, q0, q1, q2, q3⟩ := hR.it (k := 2) (x := ⟨2, 1, 65533, true⟩) rfl
  obtain ⟨g', o', he, _, r0, r1, r2, r3⟩ := hR.it (k := 3) (x := ⟨3, 1, 97, false⟩) rfl
  injection he with he
  injection he with he1 he2
  subst he1 he2
  clear hF hR
  go_wp2_with (fail)
  refine (held_any w12 b _ _ hS).mono ?_
  rintro e w13 ⟨rfl, rfl⟩
  rw [show (from_ ⟨#[240, 159, 152, 97]⟩ 4).length = 0 from rfl]
  go_wp2_with (fail)
  have hc := end_any w12 b 0 ⟨#[240, 159, 152, 97]⟩ 4 (by decide) (by decide) (by omega) hT1 (by omega) (by rw [Nat.zero_add]; exact hS)
  rw [nS5] at hc
  refine hc.mono ?_
  rintro e w13 ⟨v, rfl, h3, h4, hF⟩
  have hO := hF.only0 hO hwb
  have hT1 := hT.only hO (by simp) (by simp)
  obtain ⟨A4, c4, rfl, -⟩ := own_slice h3
  rw [show (movedL 0 (([] : List It), 4).1).length = 0 from rfl]
  clear hc hF q0 q1 q2 q3 r0 r1 r2 r3 h3 h4
  go_wp2_with (fail)
  refine (known_any w13 hT1 hT1.size).mono ?_
  rintro e w14 ⟨rfl, hO14⟩
  have hO := hO.trans hO14
  go_wp2_with (fail)
  go_ret
  exact ⟨by first | rfl | simp, hO⟩
end Go.Proofs.YteadcibbpbbehaaDoor
