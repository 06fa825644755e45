/- UtfScans: the end of a part; the walk. Printed by wip/gen_scans2.py. -/
import Derived.Test.YteadcibbpbbehaaDoorSc7
import Derived.Deep.CutBlock
set_option linter.unusedVariables false
set_option linter.unusedSimpArgs false
namespace Go.Proofs.YteadcibbpbbehaaDoor
open Go.RowKit

theorem from_end (S : ByteArray) : from_ S S.size = [] := by unfold from_; rw [Lib.size_eq]; exact List.drop_length
set_option maxRecDepth 100000 in
set_option maxHeartbeats 8000000 in
theorem sc_end (W : World) (b g d q : Nat) (S : ByteArray) (u0 u1 u2 u3 u4 u10 u11 u12 u13 u14 u15 u16 u17 u18 u19 u20 u21 u22 u23 u24 u25 u26 u27 u28 u29 u30 u31 u32 u33 u34 u35 u36 u37 u38 u39 u40 u41 u42 u43 u44 u45 u46 u47 u48 u49 u50 u51 u52 u53 u54 u55 u56 u57 u58 u59 u60 u61 u62 u63 u64 u65 u66 u67 u68 u69 u70 u71 u72 u73 u74 u75 u76 u77 u78 u79 u80 u81 u82 u83 u84 u85 u86 u87 u88 u89 u90 u91 u92 u93 u94 u95 u96 u97 u98 u99 u100 u101 u102 u103 u104 u105 u106 u107 u108 u109 u110 u111 u112 u113 u114 u115 u116 u117 u118 u119 u120 u121 u122 u123 u124 u125 u126 u127 u128 : Value) (hS4 : S.size ≤ 400) (hd : d ≤ 400) (hq : q < 2) (hT : Tabs W) (h2 : 2 ≤ b) (hbg : g ≠ b) (s0 s1 : ByteArray) (hg : Blk W g 9 [.string s0, .string s1]) (hSq : S = if q = 0 then s0 else s1)
    (hS : ScanAt W b (from_ S (complS S).2) (d + S.size)) (K : Act → World → Prop) (Q : Exit → Act → World → Prop) (hK : ∀ (v97 v98 v99 v100 v101 v102 v103 v104 v105 v106 v107 v108 v109 v110 v111 v112 v113 v114 v115 v116 v117 v118 v119 v120 : Value) (W' : World), Fr b W W' → ScanAt W' b [] (d + S.size) → K { tmps := #[u0, u1, u2, u3, u4, .pointer (some ⟨b, 0, none⟩), .slice (some ⟨g, 0, none⟩) 2 2, .int .i64 (d : Int), .int .i64 (q : Int), .int .i64 ((complS S).1.length : Int), u10, u11, u12, u13, u14, u15, u16, u17, u18, u19, u20, u21, u22, u23, u24, u25, u26, u27, u28, u29, u30, u31, u32, u33, u34, u35, u36, u37, u38, u39, u40, u41, u42, u43, u44, u45, u46, u47, u48, u49, u50, u51, u52, u53, u54, u55, u56, u57, u58, u59, u60, u61, u62, u63, u64, u65, u66, u67, u68, u69, u70, u71, u72, u73, u74, u75, u76, u77, u78, u79, u80, u81, u82, u83, u84, u85, u86, u87, u88, u89, u90, u91, u92, u93, u94, u95, u96, v97, v98, v99, v100, v101, v102, v103, v104, v105, v106, v107, v108, v109, v110, v111, v112, v113, v114, v115, v116, v117, v118, v119, v120, u121, u122, u123, u124, u125, u126, u127, u128], defers := [] } W') :
    scR21.wp Tryd.prog (Exit.then K Q) { tmps := #[u0, u1, u2, u3, u4, .pointer (some ⟨b, 0, none⟩), .slice (some ⟨g, 0, none⟩) 2 2, .int .i64 (d : Int), .int .i64 (q : Int), .int .i64 ((complS S).1.length : Int), u10, u11, u12, u13, u14, u15, u16, u17, u18, u19, u20, u21, u22, u23, u24, u25, u26, u27, u28, u29, u30, u31, u32, u33, u34, u35, u36, u37, u38, u39, u40, u41, u42, u43, u44, u45, u46, u47, u48, u49, u50, u51, u52, u53, u54, u55, u56, u57, u58, u59, u60, u61, u62, u63, u64, u65, u66, u67, u68, u69, u70, u71, u72, u73, u74, u75, u76, u77, u78, u79, u80, u81, u82, u83, u84, u85, u86, u87, u88, u89, u90, u91, u92, u93, u94, u95, u96, u97, u98, u99, u100, u101, u102, u103, u104, u105, u106, u107, u108, u109, u110, u111, u112, u113, u114, u115, u116, u117, u118, u119, u120, u121, u122, u123, u124, u125, u126, u127, u128], defers := [] } W := by
  have HK := Lib.hid hK
  have Hg := Lib.hid hg
  have hlk : ∀ W', Fr b W W' → W'.cell? ⟨g, q, none⟩ = some (.string S) := by
    intro W' hF
    have h := hF.blk Hg.out (by decide) hbg
    rw [hSq]
    rcases (show q = 0 ∨ q = 1 by omega) with rfl | rfl
    · exact h.cell 0
    · exact h.cell 1
  have Hlk := Lib.hid hlk
  have hq0 : (0 : Int) ≤ (q : Int) := by omega
  have hq2 : (q : Int) < 2 := by omega
  have hcl : (complS S).2 ≤ S.size := (complF_len S S.size 0 (by omega)).2
  have hie := items_end S
  have hri : refItems S = (complS S).1 ++ badsF S (S.size - (complS S).2) (complS S).2 := rfl
  obtain ⟨T, hTT⟩ : ∃ T, T = scanS true S (complS S).2 := ⟨_, rfl⟩
  have hT2 : T.2 = S.size := by rw [hTT]; rfl
  have hTl : T.1.length ≤ 400 := by
    have := scanS_le true S (complS S).2 hcl
    rw [← hTT] at this; omega
  have hend := fun W1 hT1 hS1 => end_any W1 b d S (complS S).2 hcl (by omega) (by omega) hT1 h2 hS1
  have hend2 := fun W1 hT1 hS1 => end_any W1 b d S S.size (by omega) (by omega) (by omega) hT1 h2 hS1
  rw [← hTT] at hie hend
  rw [← hie] at hri
  have hta : ∀ x ∈ T.1, x.at_ ≤ 140737488355328 := by
    intro x hx
    have h : ∀ (f p : Nat), p ≤ S.size → ∀ x ∈ badsF S f p, x.at_ ≤ S.size := by
      intro f
      induction f with
      | zero => intro p _ x hx; simp [badsF] at hx
      | succ f ih =>
        intro p hp x hx
        rw [badsF] at hx
        by_cases h1 : p < S.size
        · rw [if_pos h1] at hx
          rcases List.mem_cons.1 hx with rfl | hx
          · exact hp
          · exact ih _ (by omega) x hx
        · rw [if_neg h1] at hx; simp at hx
    have := h _ _ hcl x (by rw [hie] at hx; exact hx)
    omega
  obtain ⟨told, htold⟩ : ∃ told, told = (complS S).1.length := ⟨_, rfl⟩
  rw [← htold]
  have hlen : (refItems S).length = told + T.1.length := by rw [hri, htold]; simp
  have hdrop : ((refItems S).flatMap It.enc).drop (told * 4) = T.1.flatMap It.enc := by
    rw [hri, List.flatMap_append, List.drop_left' (by rw [encs_length, htold])]
  have hS2 := hT2
  have hml : (movedL d T.1).length = T.1.length := by unfold movedL; simp
  have Hend := Lib.hid hend
  have Hend2 := Lib.hid hend2
  have HT2 := Lib.hid hT2
  have Hta := Lib.hid hta
  have Hlen := Lib.hid hlen
  have Hdrop := Lib.hid hdrop
  have Hml := Lib.hid hml
  have Htold := Lib.hid htold
  have hnS : S.size ≤ 1048576 := by omega
  clear hK hg hlk hSq hie hri hTT hT2 hta htold hlen hdrop hml hend hend2 hS2 hcl
  show Code.wp Tryd.prog (Code.seq (Code.region 21 _ true) _) _ _ _
  go_step
  go_region_held3 (fun w' => w'.cell? ⟨g, q, none⟩ = some (.string S) ∧ Fr b W w')
    (first | exact ⟨Hlk.out _ (.of_only (Only.drew (Only.refl _ _))), .of_only (Only.drew (Only.refl _ _))⟩ | exact ⟨Hlk.out _ (by assumption), (by assumption)⟩)
    (first
      | (go_at_call 25
         obtain ⟨-, hF⟩ := (by assumption : _ ∧ Fr b W _)
         refine (Hend.out _ (hF.tabs hT h2) hS).mono ?_
         rintro e w1 ⟨v, rfl, o1, hS1, hF1⟩
         obtain ⟨A1, c1, rfl, hn1, r1, -⟩ := own_slice o1
         rw [Hml.out] at r1 ⊢
         replace hF1 := hF.trans hF1
         clear hF)
      | (go_at_call 11
         obtain ⟨-, hF⟩ := (by assumption : _ ∧ Fr b W _)
         refine (refItems_any S hnS _).mono ?_
         rintro e w2 ⟨v, rfl, o2, hO2⟩
         obtain ⟨A2, c2, rfl, hn2, r2, -⟩ := own_slice o2
         obtain ⟨A3, hsl, r3, -⟩ := r2.slice_lb (P := Tryd.prog) (t := 22) (e := 34) Tryd.underlying22 (by kernel_rfl) (k := told) (c := c2) rfl (by rw [Hlen.out]; omega) hn2
         rw [Hdrop.out, show (refItems S).length - told = T.1.length by rw [Hlen.out]; omega] at r3
         rw [show (refItems S).length - told = T.1.length by rw [Hlen.out]; omega] at hsl
         have hsl := hsl .i64
         have r1 := r1.only hO2 (by simp)
         have hS1 := scanAt_only hS1 hO2
         have hF2 := hF.trans (.of_only hO2)
         clear hF o1 o2 r2)
      | (go_at_call 31
         obtain ⟨-, hF⟩ := (by assumption : _ ∧ Fr b W _)
         refine (moved_any _ d T.1 A3 T.1.length (c2 - told) rfl (r3.more (by omega)) (by omega) (by omega) Hta.out).mono ?_
         rintro e w3 ⟨v, rfl, o3, hO3⟩
         obtain ⟨A4, c4, rfl, hn4, r4, -⟩ := own_slice o3
         rw [Hml.out] at r4 ⊢
         have r1 := r1.only hO3 (by simp)
         have hS1 := scanAt_only hS1 hO3
         have hF3 := hF.trans (.of_only hO3)
         clear hF o3 r3)
      | (go_at_call 13
         obtain ⟨-, hF⟩ := (by assumption : _ ∧ Fr b W _)
         refine (same_any _ c1 c4 (movedL d T.1) (movedL d T.1) Hml.out Hml.out r1 r4 (by omega) (by omega)).mono ?_
         rintro e w4 ⟨rfl, hO4⟩
         rw [decide_eq_true rfl]
         have hS1 := scanAt_only hS1 hO4
         have hF4 := hF.trans (.of_only hO4)
         clear hF r1 r4)
      | (go_at_call 28
         obtain ⟨-, hF⟩ := (by assumption : _ ∧ Fr b W _)
         refine (held_any _ b _ _ hS1).mono ?_
         rintro e w5 ⟨rfl, rfl⟩
         rw [show (from_ S T.2).length = 0 by rw [HT2.out, from_end]; rfl])
      | (go_at_call 25
         obtain ⟨-, hF⟩ := (by assumption : _ ∧ Fr b W _)
         refine (Hend2.out _ (hF.tabs hT h2) (by have h := hS1; rw [HT2.out] at h; exact h)).mono ?_
         rw [scanS_end]
         rintro e w6 ⟨v, rfl, o6, hS6, hF6⟩
         obtain ⟨A6, c6, rfl, -⟩ := own_slice o6
         rw [show (movedL d (([] : List It), S.size).1).length = 0 from rfl]
         rw [show from_ S (([] : List It), S.size).2 = [] from from_end S] at hS6
         have hF7 := hF.trans hF6
         clear hF))
  all_goals
    go_wp2_with (fail)
    rw [Htold.out]; exact HK.out _ _ _ _ _ _ _ _ _ _ _ _ _ _ _ _ _ _ _ _ _ _ _ _ _ hF7 hS6


def fewS (s : ByteArray) (n : Nat) : ByteArray := if n < s.size then pre_ s n else s
theorem fewS_size (s : ByteArray) (n : Nat) : (fewS s n).size ≤ n := by
  unfold fewS
  split
  · rw [pre_size _ _ (by omega)]; omega
  · omega
set_option maxRecDepth 100000 in
set_option maxHeartbeats 1000000 in
theorem few_any (s : ByteArray) (n : Nat) (hs : s.size ≤ 140737488351232) (hn : n ≤ 1000000) (w : World) :
    Calls Tryd.prog 21 #[.string s, .int .i64 (n : Int)] w fun e w' => e = .returned (.string (fewS s n)) ∧ w = w' := by
  obtain ⟨F, hF⟩ : ∃ F, F = fewS s n := ⟨_, rfl⟩
  rw [← hF]
  have HF := Lib.hid hF
  clear hF
  go_enter Tryd.func21, Tryd.ntmps21
  by_cases h : n < s.size
  · have hsl : (Instr.slice 9 (.string s) none (some (.int .i64 (n : Int))) none).run Tryd.prog w = .ok (.string F) w := by
      rw [HF.out, fewS, if_pos h]; exact slice_str_to Tryd.prog 9 Tryd.underlying9 s n _ rfl (by omega) w
    have h1 : decide (n < s.size) = true := decide_eq_true h
    go_wp2_with (fail)
    go_ret
    exact ⟨rfl, rfl⟩
  · have h1 : decide (n < s.size) = false := decide_eq_false h
    have he : s = F := by rw [HF.out, fewS, if_neg h]
    have He := Lib.hid he
    clear he
    go_wp2_with (fail)
    go_ret
    exact ⟨by first | rfl | (rw [← He.out]; rfl), rfl⟩

def dq (s0 s1 : ByteArray) (q : Nat) : Nat := if q = 0 then 0 else if q = 1 then s0.size else s0.size + s1.size
theorem slice_str_lo (P : Program) (ty : TypeId) (hu : P.underlying ty = some .string) (s : ByteArray) (k : Nat) (x : Int) (hx : x = (k : Int)) (hk : k ≤ s.size) (W : World) :
    (Instr.slice ty (.string s) (some (.int .i64 x)) none none).run P W = .ok (.string (s.extract k s.size)) W := by
  subst hx
  simp [Instr.slice, run_underlying hu, Instr.sliceBounds, run_sliceBound, hk]

set_option maxRecDepth 100000 in
set_option maxHeartbeats 8000000 in
theorem utfScans_walk (w : World) (s : ByteArray) (hs : s.size ≤ 140737488351232) (cut : Int) (hcut : -9223372036854775808 ≤ cut ∧ cut ≤ 9223372036854775807) (hT : Tabs w) :
    Calls Tryd.prog 10 #[.string s, .int .i64 cut] w fun e w' => e = .returned (.bool true) ∧ Only [] w w' := by
  have h2 := hT.size
  go_enter Tryd.func10, Tryd.ntmps10
  go_wp2_with (fail)
  refine (few_any s 400 hs (by omega) w).mono ?_
  rintro e w1 ⟨rfl, rfl⟩
  have hS := fewS_size s 400
  obtain ⟨S, hSS⟩ : ∃ S, S = fewS s 400 := ⟨_, rfl⟩
  rw [← hSS] at hS ⊢
  clear hSS
  go_wp2_with (fail)
  have hwb := within_bd cut 0 (S.size : Int) (by omega)
  refine (within_any cut 0 (S.size : Int) w hcut (by omega) (by omega) (by omega)).mono ?_
  rintro e w1 ⟨rfl, rfl⟩
  obtain ⟨k, hk⟩ : ∃ k : Nat, within cut 0 (S.size : Int) = (k : Int) := ⟨(within cut 0 (S.size : Int)).toNat, by omega⟩
  rw [hk] at hwb ⊢
  have hkS : k ≤ S.size := by omega
  clear hk hwb
  go_wp2_with (fail)
  refine (new_any w).mono ?_
  obtain ⟨b, hb⟩ : ∃ b, b = w.heap.size := ⟨_, rfl⟩
  rw [← hb]
  have hwb : w.heap.size ≤ b := by omega
  have Hb := Lib.hid hb
  clear hb
  rintro e w1 ⟨rfl, hSc, hO1⟩
  obtain ⟨s0, hs0⟩ : ∃ s0, s0 = pre_ S k := ⟨_, rfl⟩
  obtain ⟨s1, hs1⟩ : ∃ s1, s1 = S.extract k S.size := ⟨_, rfl⟩
  have hz0 : s0.size = k := by rw [hs0]; exact pre_size S k hkS
  have hz1 : s1.size = S.size - k := by rw [hs1]; simp [ByteArray.size_extract]
  have hsl0 : (Instr.slice 9 (.string S) none (some (.int .i64 (k : Int))) none).run Tryd.prog w1.drew = .ok (.string s0) w1.drew := by
    rw [hs0]; exact slice_str_to Tryd.prog 9 Tryd.underlying9 S k _ rfl hkS _
  have hsl1 : (Instr.slice 9 (.string S) (some (.int .i64 (k : Int))) none none).run Tryd.prog w1.drew = .ok (.string s1) w1.drew := by
    rw [hs1]; exact slice_str_lo Tryd.prog 9 Tryd.underlying9 S k _ rfl hkS _
  have Hz0 := Lib.hid hz0
  have Hz1 := Lib.hid hz1
  clear hs0 hs1 hz0 hz1
  have hT1 := hT.only hO1 (by simp) (by simp)
  go_wp2_with (fail)
  go_still_tail 6, (by kernel_rfl)
  clear hsl0 hsl1
  refine name_it (p := fun y => wpList _ _ _ _ _ y) ?_
  intro w2 H2
  have hO2 : Only [] w1 w2 := by rw [H2.out]; exact (Only.refl _ _).drew
  have hSc := scanAt_only hSc hO2
  have hO := hO1.trans hO2
  clear hT1 hO1 hO2 H2
  obtain ⟨g, hg⟩ : ∃ g, g = w2.heap.size := ⟨_, rfl⟩
  have hbg : b < g := by rw [hg]; exact scanAt_lt hSc
  have hga : Blk (w2.alloc (.cells #[.string s0, .string s1] 9)) g 9 [.string s0, .string s1] := Blk.new' _ _ _ hg.symm rfl
  have hOa : Only [] w2 (w2.alloc (.cells #[.string s0, .string s1] 9)) := (Only.refl _ _).alloc _
  have Hg := Lib.hid hg
  clear hg
  go_wp2_with (fail)
  rw [← Hg.out]
  have hSc := scanAt_only hSc hOa
  have hO := hO.trans hOa
  generalize (w2.alloc (.cells #[.string s0, .string s1] 9)) = W at hga hSc hO ⊢
  have hTW := hT.only hO (by simp) (by simp)
  clear hOa Hg
  have HSc := Lib.hid hSc
  have Hga := Lib.hid hga
  clear hSc hga
  go_loopw [7, 8, 9, 10, 11, 12, 13, 14] (fun v7 v8 _ _ _ _ _ _ wr => ∃ q : Nat, v8 = .int .i64 (q : Int) ∧ q ≤ 2 ∧ v7 = .int .i64 ((dq s0 s1 q : Nat) : Int) ∧ ScanAt wr b [] (dq s0 s1 q) ∧ Fr b W wr) (fun _ v8 _ _ _ _ _ _ _ => 2 - (intOf v8).toNat)
  case atStart => exact ⟨0, rfl, by omega, rfl, HSc.out, .of_only (.refl _ _)⟩
  case round =>
    obtain ⟨q, rfl, hq, rfl, hSq, hF⟩ := hrel
    by_cases hlt : q < 2
    · obtain ⟨d, hd⟩ : ∃ d, d = dq s0 s1 q := ⟨_, rfl⟩
      rw [← hd] at hSq ⊢
      obtain ⟨T, hTe⟩ : ∃ T, T = if q = 0 then s0 else s1 := ⟨_, rfl⟩
      have hd4 : d ≤ 400 ∧ T.size ≤ 400 ∧ dq s0 s1 (q + 1) = d + T.size := by
        have h0 := Hz0.out
        have h1 := Hz1.out
        rw [hd, hTe]
        unfold dq
        rcases (show q = 0 ∨ q = 1 by omega) with rfl | rfl
        · simp; omega
        · simp; omega
      obtain ⟨hd4, hT4, hdn⟩ := hd4
      have Hd := Lib.hid hd
      have HTe := Lib.hid hTe
      have Hdn := Lib.hid hdn
      have hTr := hF.tabs hTW (by omega)
      have hgr := hF.blk Hga.out (by decide) (by omega)
      have Hgr := Lib.hid hgr
      have HSq := Lib.hid hSq
      clear hd hTe hdn hgr hSq
      have hlt2 : (q : Int) < 2 := by omega
      go_upto_block 2 with (fail)
      refine sc_inner _ b g d q T _ _ _ _ _ _ _ _ _ _ _ _ _ _ _ _ _ _ _ _ _ _ _ _ _ _ _ _ _ _ _ _ _ _ _ _ _ _ _ _ _ _ _ _ _ _ _ _ _ _ _ _ _ _ _ _ _ _ _ _ _ _ _ _ _ _ _ _ _ _ _ _ _ _ _ _ _ _ _ _ _ _ _ _ _ _ _ _ _ _ _ _ _ _ _ _ _ _ _ _ _ _ _ _ _ _ _ _ _ _ _ _ _ _ _ _ _ _ _ _ _ _ _ hT4 hd4 hlt hTr (by omega) (by omega) s0 s1 Hgr.out HTe.out HSq.out _ _ ?_
      intro a4 a10 a11 a12 a13 a14 a35 a36 a37 a38 a39 a40 a41 a42 a43 a44 a45 a46 a47 a48 a49 a50 a51 a52 a53 a54 a55 a56 a57 a58 a59 a60 a61 a62 a63 a64 a65 a66 a67 a68 a69 a70 a71 a72 a73 a74 a75 a76 a77 a78 a79 a80 a81 a82 a83 a84 a85 a86 a87 a88 a89 a90 a91 a92 a93 a94 a95 a96 w4 hF4 hS4
      go_step
      go_step
      have hF5 := hF.trans hF4
      refine sc_end _ b g d q T _ _ _ _ _ _ _ _ _ _ _ _ _ _ _ _ _ _ _ _ _ _ _ _ _ _ _ _ _ _ _ _ _ _ _ _ _ _ _ _ _ _ _ _ _ _ _ _ _ _ _ _ _ _ _ _ _ _ _ _ _ _ _ _ _ _ _ _ _ _ _ _ _ _ _ _ _ _ _ _ _ _ _ _ _ _ _ _ _ _ _ _ _ _ _ _ _ _ _ _ _ _ _ _ _ _ _ _ _ _ _ _ _ _ _ _ _ _ _ _ _ _ _ _ hT4 hd4 hlt (hF5.tabs hTW (by omega)) (by omega) (by omega) s0 s1 (hF5.blk Hga.out (by decide) (by omega)) HTe.out hS4 _ _ ?_
      intro e97 e98 e99 e100 e101 e102 e103 e104 e105 e106 e107 e108 e109 e110 e111 e112 e113 e114 e115 e116 e117 e118 e119 e120 w5 hF6 hS6
      have hF7 := hF5.trans hF6
      have hg7 := hF7.blk Hga.out (by decide) (by omega)
      have hc : w5.cell? ⟨g, q, none⟩ = some (.string T) := by
        rw [HTe.out]
        rcases (show q = 0 ∨ q = 1 by omega) with rfl | rfl
        · exact hg7.cell 0
        · exact hg7.cell 1
      have hq0 : (0 : Int) ≤ (q : Int) := by omega
      clear hF hF4 hF5 hF6 hg7 hS4 hTr
      go_wp2_with (fail)
      go_roundw
      case rel => exact ⟨q + 1, by go_num, by omega, by rw [Hdn.out]; go_num, by rw [Hdn.out]; exact hS6, hF7⟩
      case measure => simp [intOf]; omega
    · obtain rfl : q = 2 := by omega
      have hO9 := hF.only0 hO hwb
      have hT9 := hT.only hO9 (by simp) (by simp)
      clear hF hSq
      go_wp2_with (fail)
      refine (known_any wr hT9 hT9.size).mono ?_
      rintro e w5 ⟨rfl, hO5⟩
      go_wp2_with (fail)
      go_ret
      exact ⟨by first | rfl | simp, hO9.trans hO5⟩
end Go.Proofs.YteadcibbpbbehaaDoor
