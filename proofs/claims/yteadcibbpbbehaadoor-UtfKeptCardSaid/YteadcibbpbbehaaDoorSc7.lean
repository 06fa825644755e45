/- UtfScans: its inner loop. Printed by wip/gen_scans.py. -/
import Derived.Test.YteadcibbpbbehaaDoorSc5
import Derived.Test.YteadcibbpbbehaaDoorUtfN
import Derived.Test.YteadcibbpbbehaaDoorWithin
import Derived.Deep.RegionHeld3
set_option linter.unusedVariables false
set_option linter.unusedSimpArgs false
namespace Go.Proofs.YteadcibbpbbehaaDoor
open Go.RowKit

theorem Fr.of_only {b : Nat} {w w' : World} (h : Only [] w w') : Fr b w w' := ⟨[], h, by simp⟩
theorem Fr.trans {b : Nat} {w w' w2 : World} (h : Fr b w w') (k : Fr b w' w2) : Fr b w w2 := by
  obtain ⟨l, h1, h2⟩ := h
  obtain ⟨m, k1, k2⟩ := k
  refine ⟨(l ++ m).filter (fun x => decide (x < w.heap.size)), ?_, ?_⟩
  · refine ((h1.mono (l' := l ++ m) (by intro x hx; exact .inl (List.mem_append_left _ hx))).trans (k1.mono (by intro x hx; exact .inl (List.mem_append_right _ hx)))).mono ?_
    intro x hx
    by_cases hlt : x < w.heap.size
    · exact .inl (List.mem_filter.2 ⟨hx, by simpa using hlt⟩)
    · exact .inr (by omega)
  · intro x hx
    obtain ⟨hx, hlt⟩ := List.mem_filter.1 hx
    have hlt := of_decide_eq_true hlt
    by_cases hl : x ∈ l
    · exact h2 x hl
    · rcases List.mem_append.1 hx with hx | hx
      · exact absurd hx hl
      · rcases k2 x hx with e | ⟨e, cs, hb⟩
        · exact .inl e
        · exact .inr ⟨e, cs, by unfold Blk at hb ⊢; rw [← h1.block x hlt hl]; exact hb⟩

/-- the first i bytes -/
def pre_ (s : ByteArray) (i : Nat) : ByteArray := s.extract 0 i
theorem pre_size (s : ByteArray) (i : Nat) (h : i ≤ s.size) : (pre_ s i).size = i := by unfold pre_; simp [ByteArray.size_extract]; omega
theorem pre_list (s : ByteArray) (i : Nat) : (pre_ s i).data.toList = s.data.toList.take i := by
  unfold pre_; rw [ByteArray.data_extract, Array.toList_extract]; simp
theorem pre_all (s : ByteArray) : pre_ s s.size = s := by
  apply ByteArray.ext; apply Array.toList_inj.1; rw [pre_list, Lib.size_eq]; exact List.take_length
theorem pre_next (s : ByteArray) (i : Nat) (h : i < s.size) : (pre_ s (i + 1)).data.toList = (pre_ s i).data.toList ++ [s.get! i] := by
  rw [pre_list, pre_list, List.take_add_one]
  have e : s.data.toList[i]? = some (s.get! i) := by
    rw [Utf8W.get!_of_lt s i h]
    have hl : i < s.data.toList.length := by rw [← Lib.size_eq]; exact h
    rw [List.getElem?_eq_getElem hl]; rfl
  rw [e]; rfl
theorem byteAt_list (s : ByteArray) (i : Nat) : byteAt s i = (s.data.toList.getD i 0).toNat := by
  unfold byteAt; rw [Lib.getD_get!']
theorem goes_of_append {s t : ByteArray} {l : List UInt8} (h : t.data.toList = s.data.toList ++ l) : Goes s t := by
  refine ⟨by rw [Lib.size_eq t, h, List.length_append, ← Lib.size_eq]; omega, fun i hi => ?_⟩
  rw [byteAt_list, byteAt_list, h, List.getD_eq_getElem?_getD, List.getD_eq_getElem?_getD, List.getElem?_append_left (by rw [← Lib.size_eq]; exact hi)]
theorem compl_items_at (s : ByteArray) : ∀ (f p : Nat), p ≤ s.size → ∀ x ∈ (complF s f p).1, x.at_ ≤ s.size
  | 0, p, _, x, hx => by simp [complF] at hx
  | f + 1, p, hp, x, hx => by
    rw [complF] at hx
    by_cases h1 : p < s.size
    · rw [if_pos h1] at hx
      by_cases h2 : widthS s p ≠ 0
      · rw [if_pos h2] at hx
        rcases List.mem_cons.1 hx with rfl | hx
        · exact hp
        · exact compl_items_at s f _ (widthS_fits s p h1 h2).1 x hx
      · rw [if_neg h2] at hx
        by_cases h3 : beginsS s p = s.size - p
        · rw [if_pos h3] at hx; simp at hx
        · rw [if_neg h3] at hx
          rcases List.mem_cons.1 hx with rfl | hx
          · exact hp
          · exact compl_items_at s f _ (by omega) x hx
    · rw [if_neg h1] at hx; simp at hx

theorem slice_str_to (P : Program) (ty : TypeId) (hu : P.underlying ty = some .string) (s : ByteArray) (k : Nat) (x : Int) (hx : x = (k : Int)) (hk : k ≤ s.size) (W : World) :
    (Instr.slice ty (.string s) none (some (.int .i64 x)) none).run P W = .ok (.string (pre_ s k)) W := by
  subst hx
  simp [Instr.slice, run_underlying hu, Instr.sliceBounds, run_sliceBound, hk, pre_]
noncomputable def unblock : Code → Code | .block _ c => c | c => c
noncomputable def unloop : Code → Code | .loop c => c | c => c
noncomputable def scA7 : Code := sq2 (sq2 (sq2 (sq2 (sq2 (sq2 (sq2 (Tryd.f10.body.getD .skip)))))))
noncomputable def scB1 : Code := unloop (unblock (sq2 (sq1 scA7)))
noncomputable def scX : Code := unblock (sq1 (sq2 scB1))
noncomputable def scL2 : Code := sq2 (sq1 (sq2 scX))
noncomputable def scR21 : Code := sq1 (sq2 (sq2 scX))
noncomputable def scR23 : Code := sq2 (sq2 (sq2 scX))

set_option maxRecDepth 100000 in
set_option maxHeartbeats 4000000 in
theorem sc_inner (W : World) (b g d q : Nat) (S : ByteArray) (u0 u1 u2 u3 u4 u11 u12 u13 u14 u15 u16 u17 u18 u19 u20 u21 u22 u23 u24 u25 u26 u27 u28 u29 u30 u31 u32 u33 u34 u35 u36 u37 u38 u39 u40 u41 u42 u43 u44 u45 u46 u47 u48 u49 u50 u51 u52 u53 u54 u55 u56 u57 u58 u59 u60 u61 u62 u63 u64 u65 u66 u67 u68 u69 u70 u71 u72 u73 u74 u75 u76 u77 u78 u79 u80 u81 u82 u83 u84 u85 u86 u87 u88 u89 u90 u91 u92 u93 u94 u95 u96 u97 u98 u99 u100 u101 u102 u103 u104 u105 u106 u107 u108 u109 u110 u111 u112 u113 u114 u115 u116 u117 u118 u119 u120 u121 u122 u123 u124 u125 u126 u127 u128 : Value) (hS4 : S.size ≤ 400) (hd : d ≤ 400) (hq : q < 2) (hT : Tabs W) (h2 : 2 ≤ b) (hbg : g ≠ b) (s0 s1 : ByteArray) (hg : Blk W g 9 [.string s0, .string s1]) (hSq : S = if q = 0 then s0 else s1)
    (hS : ScanAt W b [] d) (K : Act → World → Prop) (Q : Exit → Act → World → Prop) (hK : ∀ (v4 v10 v11 v12 v13 v14 v35 v36 v37 v38 v39 v40 v41 v42 v43 v44 v45 v46 v47 v48 v49 v50 v51 v52 v53 v54 v55 v56 v57 v58 v59 v60 v61 v62 v63 v64 v65 v66 v67 v68 v69 v70 v71 v72 v73 v74 v75 v76 v77 v78 v79 v80 v81 v82 v83 v84 v85 v86 v87 v88 v89 v90 v91 v92 v93 v94 v95 v96 : Value) (W' : World), Fr b W W' → ScanAt W' b (from_ S (complS S).2) (d + S.size) → K { tmps := #[u0, u1, u2, u3, v4, .pointer (some ⟨b, 0, none⟩), .slice (some ⟨g, 0, none⟩) 2 2, .int .i64 (d : Int), .int .i64 (q : Int), .int .i64 ((complS S).1.length : Int), v10, v11, v12, v13, v14, u15, u16, u17, u18, u19, u20, u21, u22, u23, u24, u25, u26, u27, u28, u29, u30, u31, u32, u33, u34, v35, v36, v37, v38, v39, v40, v41, v42, v43, v44, v45, v46, v47, v48, v49, v50, v51, v52, v53, v54, v55, v56, v57, v58, v59, v60, v61, v62, v63, v64, v65, v66, v67, v68, v69, v70, v71, v72, v73, v74, v75, v76, v77, v78, v79, v80, v81, v82, v83, v84, v85, v86, v87, v88, v89, v90, v91, v92, v93, v94, v95, v96, u97, u98, u99, u100, u101, u102, u103, u104, u105, u106, u107, u108, u109, u110, u111, u112, u113, u114, u115, u116, u117, u118, u119, u120, u121, u122, u123, u124, u125, u126, u127, u128], defers := [] } W') :
    scL2.wp Tryd.prog (Exit.then K Q) { tmps := #[u0, u1, u2, u3, u4, .pointer (some ⟨b, 0, none⟩), .slice (some ⟨g, 0, none⟩) 2 2, .int .i64 (d : Int), .int .i64 (q : Int), .int .i64 0, .int .i64 0, u11, u12, u13, u14, u15, u16, u17, u18, u19, u20, u21, u22, u23, u24, u25, u26, u27, u28, u29, u30, u31, u32, u33, u34, u35, u36, u37, u38, u39, u40, u41, u42, u43, u44, u45, u46, u47, u48, u49, u50, u51, u52, u53, u54, u55, u56, u57, u58, u59, u60, u61, u62, u63, u64, u65, u66, u67, u68, u69, u70, u71, u72, u73, u74, u75, u76, u77, u78, u79, u80, u81, u82, u83, u84, u85, u86, u87, u88, u89, u90, u91, u92, u93, u94, u95, u96, u97, u98, u99, u100, u101, u102, u103, u104, u105, u106, u107, u108, u109, u110, u111, u112, u113, u114, u115, u116, u117, u118, u119, u120, u121, u122, u123, u124, u125, u126, u127, u128], defers := [] } W := by
  have HK := Lib.hid hK
  have Hg := Lib.hid hg
  have hlk : ∀ W', Fr b W W' → W'.cell? ⟨g, q, none⟩ = some (.string S) := by
    intro W' hF
    have h := hF.blk Hg.out (by decide) hbg
    rw [hSq]
    rcases (show q = 0 ∨ q = 1 by omega) with rfl | rfl
    · exact h.cell 0
    · exact h.cell 1
  have Hlk := Lib.hid hlk
  obtain ⟨n, hn⟩ : ∃ n, n = S.size := ⟨_, rfl⟩
  have Hn := Lib.hid hn
  rw [← hn] at hS4
  clear hK hg hlk hSq hn
  show Code.wp Tryd.prog (Code.block 2 (Code.loop _)) _ _ _
  go_wp2_with (fail)
  go_loopw [9, 10, 11, 12, 13, 14] (fun v9 v10 _ _ _ _ wr => ∃ i : Nat, v10 = .int .i64 (i : Int) ∧ i ≤ n ∧ v9 = .int .i64 ((complS (pre_ S i)).1.length : Int) ∧ ScanAt wr b (from_ (pre_ S i) (complS (pre_ S i)).2) (d + i) ∧ Fr b W wr) (fun _ v10 _ _ _ _ _ => n - (intOf v10).toNat)
  case atStart =>
    refine ⟨0, rfl, by omega, ?_, ?_, .of_only (.refl _ _)⟩
    · have e : pre_ S 0 = ⟨#[]⟩ := by apply ByteArray.ext; apply Array.toList_inj.1; rw [pre_list]; rfl
      rw [e]; rfl
    · have e : pre_ S 0 = ⟨#[]⟩ := by apply ByteArray.ext; apply Array.toList_inj.1; rw [pre_list]; rfl
      rw [e]; exact hS
  case round =>
    obtain ⟨i, rfl, hi, rfl, hSc, hF⟩ := hrel
    have hsz := Hn.out
    have hc := Hlk.out _ hF
    have hq0 : (0 : Int) ≤ (q : Int) := by omega
    have hq2 : (q : Int) < 2 := by omega
    by_cases hlt : i < n
    · obtain ⟨s, hs⟩ : ∃ s, s = pre_ S i := ⟨_, rfl⟩
      obtain ⟨t, ht⟩ : ∃ t, t = pre_ S (i + 1) := ⟨_, rfl⟩
      obtain ⟨x, hx⟩ : ∃ x, x = S.get! i := ⟨_, rfl⟩
      have hst : t.data.toList = s.data.toList ++ [x] := by rw [hs, ht, hx]; exact pre_next S i (by omega)
      have hss : s.size = i := by rw [hs]; exact pre_size S i (by omega)
      have hts : t.size = i + 1 := by rw [ht]; exact pre_size S (i + 1) (by omega)
      have hgo := goes_of_append hst
      have hnx := compl_next hgo
      rw [← hs] at hSc
      obtain ⟨T, hTT⟩ : ∃ T, T = scanS false t (complS s).2 := ⟨_, rfl⟩
      obtain ⟨at_, hat⟩ : ∃ a, a = (complS s).2 := ⟨_, rfl⟩
      have hatl : at_ ≤ s.size := by rw [hat]; exact (complF_len s s.size 0 (by omega)).2
      rw [← hTT] at hnx
      rw [← hat] at hSc hTT
      rw [← hs]
      have hT1 := hF.tabs hT h2
      have hidx := idx_str (P := Tryd.prog) 9 Tryd.underlying9 S i (i : Int) rfl (by omega)
      rw [show byteAt S i = x.toNat from by rw [hx]; rfl] at hidx
      have hput := put_any wr b d s t x at_ hatl hst (by omega) (by omega) hT1 h2 (by rw [hss]; exact hSc)
      rw [← hTT] at hput
      have Hnx := Lib.hid hnx
      have Hput := Lib.hid hput
      have Hss := Lib.hid hss
      have Hts := Lib.hid hts
      have Hs := Lib.hid hs
      have Ht := Lib.hid ht
      have Hsz := Lib.hid hsz
      have HT := Lib.hid hTT
      have hls : decide (i < S.size) = true := decide_eq_true (by omega)
      obtain ⟨told, htold⟩ : ∃ told, told = (complS s).1.length := ⟨_, rfl⟩
      rw [← htold]
      have Htold := Lib.hid htold
      clear hnx hput hss hts hs ht hx hst hgo hat hTT hsz htold
      go_wp2_with (fail)
      refine Hput.out.mono ?_
      rintro e w1 ⟨v, rfl, o1, hS1, hF1⟩
      have hF := hF.trans hF1
      have hc := Hlk.out _ hF
      have hsl : (Instr.slice 9 (.string S) none (some (.int .i64 ((i : Int) + 1))) none).run Tryd.prog w1 = .ok (.string t) w1 := by
        rw [Ht.out]; exact slice_str_to Tryd.prog 9 Tryd.underlying9 S (i + 1) _ (by omega) (by have := Hsz.out; omega) w1
      clear hidx hls
      go_wp2_with (fail)
      refine (complete_any t (by have := Hts.out; omega) w1).mono ?_
      rintro e w2 ⟨v2, rfl, o2, hO2, hcl⟩
      have hF := hF.trans (.of_only hO2)
      have hc := Hlk.out _ hF
      have o1 := own_only o1 hO2 (by simp)
      have hS1 := scanAt_only hS1 hO2
      obtain ⟨A2, c2, rfl, hn2, r2, -⟩ := own_slice o2
      have hlen : (complS t).1.length = told + T.1.length := by rw [Hnx.out, Htold.out]; simp
      have hdrop : ((complS t).1.flatMap It.enc).drop (told * 4) = T.1.flatMap It.enc := by
        rw [Hnx.out, List.flatMap_append, List.drop_left' (by rw [encs_length, Htold.out])]
      have hat2 : (complS t).2 = T.2 := by rw [Hnx.out]
      obtain ⟨al, hal⟩ : ∃ a, a = (complS t).1.length := ⟨_, rfl⟩
      obtain ⟨A3, hsl3, r3, -⟩ := r2.slice_lb (P := Tryd.prog) (t := 22) (e := 34) Tryd.underlying22 (by kernel_rfl) (k := told) (c := c2) rfl (by omega) hn2
      have hsl3 := hsl3 .i64 w2
      rw [hdrop, show (complS t).1.length - told = T.1.length by omega] at r3
      rw [show (complS t).1.length - told = T.1.length by omega] at hsl3
      rw [← hal] at hsl3 ⊢
      rw [hat2]
      have hT2l : T.2 ≤ t.size := by rw [← hat2]; exact hcl
      have hTl : T.1.length ≤ 400 := by
        have := scanS_le false t at_ (by have := Hts.out; have := Hss.out; omega)
        rw [← HT.out] at this
        have := Hts.out; omega
      have hTa : ∀ x ∈ T.1, x.at_ ≤ 140737488355328 := by
        intro x hx
        have h := compl_items_at t t.size 0 (by omega) x (by
          have e : (complF t t.size 0).1 = (complS s).1 ++ T.1 := congrArg Prod.fst Hnx.out
          rw [e]; exact List.mem_append_right _ hx)
        have := Hts.out; omega
      have Hal := Lib.hid hal
      have Hlen := Lib.hid hlen
      have Hat2 := Lib.hid hat2
      have HTa := Lib.hid hTa
      clear hal hlen hdrop hat2 o2 r2 hsl hTa hcl hO2 hF1
      go_wp2_with (fail)
      refine (moved_any w2 d T.1 A3 T.1.length (c2 - told) rfl (r3.more (by omega)) (by omega) (by omega) HTa.out).mono ?_
      rintro e w3 ⟨v3, rfl, o3, hO3⟩
      have hF := hF.trans (.of_only hO3)
      have hc := Hlk.out _ hF
      have o1 := own_only o1 hO3 (by simp)
      have hS1 := scanAt_only hS1 hO3
      clear r3 hsl3 hO3
      obtain ⟨A1, c1, rfl, hn1, r1, -⟩ := own_slice o1
      obtain ⟨A4, c4, rfl, hn4, r4, -⟩ := own_slice o3
      have hml : (movedL d T.1).length = T.1.length := by unfold movedL; simp
      rw [hml] at r1 r4 ⊢
      have Hml := Lib.hid hml
      clear o1 o3 hn1 hn4 hml
      go_wp2_with (fail)
      refine (same_any w3 c1 c4 (movedL d T.1) (movedL d T.1) Hml.out Hml.out r1 r4 (by omega) (by omega)).mono ?_
      rintro e w4 ⟨rfl, hO4⟩
      rw [decide_eq_true rfl]
      have hF := hF.trans (.of_only hO4)
      have hc := Hlk.out _ hF
      have hS1 := scanAt_only hS1 hO4
      clear r1 r4 hO4
      go_wp2_with (fail)
      refine (held_any w4 b _ _ hS1).mono ?_
      rintro e w5 ⟨rfl, rfl⟩
      rw [from_len, Hts.out]
      obtain ⟨a2, ha2⟩ : ∃ a2, a2 = T.2 := ⟨_, rfl⟩
      have hh3 : i + 1 - a2 ≤ 3 := by
        rw [ha2, ← Hat2.out, ← Hts.out]
        rcases compl_held t with e | e
        · rw [e]; omega
        · exact e.cont.1
      have ha2l : a2 ≤ i + 1 := by rw [ha2]; have := Hts.out; omega
      rw [← ha2]
      obtain ⟨hh, hhe⟩ : ∃ h, h = i + 1 - a2 := ⟨_, rfl⟩
      rw [← hhe] at hh3 ⊢
      have hhi : (i : Int) + 1 - (a2 : Int) = (hh : Int) := by omega
      have Ha2 := Lib.hid ha2
      have Hhe := Lib.hid hhe
      clear ha2 hhe
      go_wp2_with (fail)
      refine (count_any w4 b _ _ hS1).mono ?_
      rintro e w5 ⟨rfl, rfl⟩
      obtain ⟨N, hN⟩ : ∃ N, N = d + t.size := ⟨_, rfl⟩
      rw [← hN]
      have hdi : (d : Int) + (i : Int) + 1 = (N : Int) := by have := Hts.out; omega
      have HN := Lib.hid hN
      clear hN
      go_wp2_with (fail)
      refine (held_any w4 b _ _ hS1).mono ?_
      rintro e w5 ⟨rfl, rfl⟩
      rw [from_len, Hts.out, ← Ha2.out, ← Hhe.out]
      clear hdi hhi
      go_wp2_with (fail)
      go_roundw
      case rel =>
        refine ⟨i + 1, by go_num, by omega, ?_, ?_, hF⟩
        · rw [Hal.out, Ht.out]
        · rw [← Ht.out, Hat2.out, ← Hts.out]; exact hS1
      case measure => simp [intOf]; omega
    · obtain rfl : i = n := by omega
      have hpa : pre_ S i = S := by rw [hsz]; exact pre_all S
      rw [hpa] at hSc ⊢
      clear hpa
      go_wp2_with (fail)
      rw [hsz] at hSc
      exact HK.out _ _ _ _ _ _ _ _ _ _ _ _ _ _ _ _ _ _ _ _ _ _ _ _ _ _ _ _ _ _ _ _ _ _ _ _ _ _ _ _ _ _ _ _ _ _ _ _ _ _ _ _ _ _ _ _ _ _ _ _ _ _ _ _ _ _ _ _ _ hF hSc
end Go.Proofs.YteadcibbpbbehaaDoor
