/- The document's answer for chapter 5: a word; an id that is made; the longest; a merge. -/
import Derived.Test.YtfnhdkabfkjodaaMd7
set_option linter.unusedVariables false
set_option linter.unusedSimpArgs false
namespace Go.Proofs.Ytfnhdkabfkjodaa
open Go.RowKit

section
variable (w : World) (v0 v1 v2 v3 v4 : Value) (ws : List ByteArray) (ms : List Mg) (a b d : List Sp) (hR : Rd5 w v0 v1 v2 v3 v4 ws ms a b d)
include hR
set_option maxRecDepth 100000 in
set_option maxHeartbeats 4000000 in
theorem word5_any (s0 : ws.length ≤ 17592186043904) (id : Int) (hid : i64ok id) :
    Calls Try.prog 31 #[.agg #[v0, v1, v2, v3, v4], .int .i64 id] w fun e w' => e = .returned (.tuple #[.string (wordB ws id), .bool (isWord ws id)]) ∧ Only [] w w' := by
  obtain ⟨h, hh⟩ : ∃ h, h = w.heap.size := ⟨_, rfl⟩
  obtain ⟨W1, hW1⟩ : ∃ W1, W1 = w.alloc (.cells #[v0, v1, v2, v3, v4] 26) := ⟨_, rfl⟩
  have hb : Blk W1 h 26 [v0, v1, v2, v3, v4] := by rw [hW1]; exact Blk.new' _ _ _ hh.symm rfl
  have hO : Only [] w W1 := by rw [hW1]; exact (Only.refl _ _).alloc _
  have hR1 := hR.only hO
  obtain ⟨⟨A, c, rfl, -, r0⟩, -⟩ := hR1
  obtain ⟨n, hn⟩ : ∃ n, n = ws.length := ⟨_, rfl⟩
  have c0 : W1.cell? ⟨h, 0, none⟩ = some (.slice A n c) := by rw [hn]; exact hb.cell 0
  rw [← hn] at r0
  have hwb : wordB ws id = if 0 ≤ id ∧ id < 256 then str [UInt8.ofNat id.toNat] else if 256 ≤ id ∧ id < 256 + n then ws.getD (id - 256).toNat ⟨#[]⟩ else ⟨#[]⟩ := by rw [hn]; rfl
  have hiw : isWord ws id = decide (0 ≤ id ∧ id < 256 + (n : Int)) := by rw [hn]; rfl
  obtain ⟨V, hV⟩ : ∃ V, V = wordB ws id := ⟨_, rfl⟩
  obtain ⟨I, hI⟩ : ∃ I, I = isWord ws id := ⟨_, rfl⟩
  rw [← hV, ← hI]
  rw [hwb] at hV
  rw [hiw] at hI
  rw [← hn] at s0
  unfold i64ok at hid
  have HV := Lib.hid hV
  have HI := Lib.hid hI
  have Hn := Lib.hid hn
  have HR := Lib.hid r0
  have Hh := Lib.hid hh
  have HW := Lib.hid hW1
  clear hb hR hwb hiw hn r0 hV hI hh hW1
  go_enter Try.func31, Try.ntmps31
  go_upto_region 1 with (fail)
  rw [← Hh.out, ← HW.out]
  by_cases h0 : id < 0
  · have h1 : ¬ 0 ≤ id := by omega
    have h2 : ¬ 256 ≤ id := by omega
    go_wp2_with (fail)
    go_ret2
    exact ⟨by rw [HV.out, HI.out, if_neg (by omega), if_neg (by omega), decide_eq_false (by omega)]; rfl, hO⟩
  · have h1 : 0 ≤ id := by omega
    clear h0
    by_cases h2 : id < 256
    · obtain ⟨k, hk⟩ : ∃ k : Nat, id = (k : Int) := ⟨id.toNat, by omega⟩
      subst hk
      have hbl : Blk (W1.alloc (.cells #[.int .u8 (k : Int)] 5)) W1.heap.size 5 (bvs [UInt8.ofNat k]) := Blk.new' _ _ _ rfl (by simp [bvs, bv]; omega)
      have hcv := run_string_rd (P := Try.prog) 80 9 5 (by kernel_rfl) (by kernel_rfl) (by kernel_rfl) 1 (Rd.whole (t := 5) (n := 1) (size := 1) hbl rfl)
      have hmod : (k : Int) % 256 = (k : Int) := by omega
      clear hbl
      go_wp2_with (fail)
      go_ret2
      have e1 : V = str [UInt8.ofNat k] := by rw [HV.out, if_pos ⟨by omega, by omega⟩]; rfl
      have e2 : I = true := by rw [HI.out]; exact decide_eq_true ⟨by omega, by omega⟩
      exact ⟨by rw [e1, e2]; rfl, hO.alloc _⟩
    · obtain ⟨k, hk⟩ : ∃ k : Nat, id - 256 = (k : Int) := ⟨(id - 256).toNat, by omega⟩
      have h3 : 256 ≤ id := by omega
      by_cases hkn : k < n
      · obtain ⟨s, hs'⟩ : ∃ s, ws[k]? = some s := ⟨_, List.getElem?_eq_getElem (by rw [← Hn.out]; omega)⟩
        obtain ⟨g', o', rfl, _, q⟩ := HR.out.wd hs'
        have hgd : ws.getD k ⟨#[]⟩ = s := by rw [List.getD_eq_getElem?_getD, hs']; rfl
        have Hgd := Lib.hid hgd
        have Hk := Lib.hid hk
        clear hs' hgd
        go_wp2_with (fail)
        go_ret2
        have e1 : V = s := by rw [HV.out, if_neg (by omega), if_pos ⟨by omega, by omega⟩, Hk.out, Int.toNat_natCast, Hgd.out]
        have e2 : I = true := by rw [HI.out]; exact decide_eq_true ⟨by omega, by omega⟩
        exact ⟨by rw [e1, e2]; rfl, hO⟩
      · go_wp2_with (fail)
        go_ret2
        exact ⟨by rw [HV.out, HI.out, if_neg (by omega), if_neg (by omega), decide_eq_false (by omega)]; rfl, hO⟩

set_option maxRecDepth 100000 in
set_option maxHeartbeats 4000000 in
theorem made5_any (s1 : ms.length ≤ 17592186043904) (k : Nat) (hk : k ≤ ms.length) (id : Int) (hid : i64ok id) :
    Calls Try.prog 69 #[.agg #[v0, v1, v2, v3, v4], .int .i64 (k : Int), .int .i64 id] w fun e w' => e = .returned (.bool (partB (idsOf (ms.take k)) id)) ∧ Only [] w w' := by
  obtain ⟨h, hh⟩ : ∃ h, h = w.heap.size := ⟨_, rfl⟩
  obtain ⟨W1, hW1⟩ : ∃ W1, W1 = w.alloc (.cells #[v0, v1, v2, v3, v4] 26) := ⟨_, rfl⟩
  have hb : Blk W1 h 26 [v0, v1, v2, v3, v4] := by rw [hW1]; exact Blk.new' _ _ _ hh.symm rfl
  have hO : Only [] w W1 := by rw [hW1]; exact (Only.refl _ _).alloc _
  have hR1 := hR.only hO
  obtain ⟨-, ⟨A, c, rfl, -, r1⟩, -⟩ := hR1
  obtain ⟨n, hn⟩ : ∃ n, n = ms.length := ⟨_, rfl⟩
  have c1 : W1.cell? ⟨h, 1, none⟩ = some (.slice A n c) := by rw [hn]; exact hb.cell 1
  rw [← hn] at r1 hk s1
  obtain ⟨T, hT⟩ : ∃ T, T = partB (idsOf (ms.take k)) id := ⟨_, rfl⟩
  rw [← hT]
  unfold partB at hT
  unfold i64ok at hid
  have HT := Lib.hid hT
  have Hn := Lib.hid hn
  have HR := Lib.hid r1
  have Hh := Lib.hid hh
  have HW := Lib.hid hW1
  clear hb hR hn r1 hT hh hW1
  go_enter Try.func69, Try.ntmps69
  go_upto_region 1 with (fail)
  rw [← Hh.out, ← HW.out]
  by_cases h1 : 0 ≤ id ∧ id < 256
  · obtain ⟨h2, h3⟩ := h1
    go_wp2_with (fail)
    go_ret
    exact ⟨ret_bool (by rw [HT.out, decide_eq_true ⟨h2, h3⟩]; rfl), hO⟩
  · have e1 : T = (decide (256 ≤ id) && (idsOf (ms.take k)).contains id) := by rw [HT.out, decide_eq_false h1, Bool.false_or]
    have E1 := Lib.hid e1
    have hc0 : (idsOf (ms.take 0)).contains id = false := by simp [idsOf]
    have HC0 := Lib.hid hc0
    clear e1 HT hc0
    have hg : (¬ 0 ≤ id) ∨ (0 ≤ id ∧ ¬ id < 256) := by omega
    rcases hg with h2 | ⟨h2, h3⟩
    all_goals
      go_wp2_with (fail)
      go_loop [7] (fun vi => ∃ i : Nat, vi = .int .i64 (i : Int) ∧ i ≤ k ∧ Hid ((idsOf (ms.take i)).contains id = false)) (fun vi => k - (intOf vi).toNat)
      case atStart => exact ⟨0, rfl, by omega, HC0⟩
      case round =>
        obtain ⟨i, rfl, hi, hno⟩ := hrel
        by_cases hlt : i < k
        · obtain ⟨m, hm⟩ : ∃ m, ms[i]? = some m := ⟨_, List.getElem?_eq_getElem (by rw [← Hn.out]; omega)⟩
          obtain ⟨g, o, rfl, hin, q0, q1, q2⟩ := HR.out.mg hm
          have hsn : idsOf (ms.take (i + 1)) = idsOf (ms.take i) ++ [m.id] := by rw [take_snoc' hm, idsOf_snoc]
          have Hsn := Lib.hid hsn
          have Hm := Lib.hid hm
          clear hsn hm
          by_cases he : m.id = id
          · have hin' : (idsOf (ms.take k)).contains id = true := by
              rw [List.contains_iff_mem, ← he]
              exact List.mem_map.2 ⟨m, List.mem_of_getElem? (i := i) (by rw [List.getElem?_take, if_pos hlt]; exact Hm.out), rfl⟩
            have e2 : T = decide (256 ≤ id) := by rw [E1.out, hin', Bool.and_true]
            have E2 := Lib.hid e2
            clear hin' e2
            go_wp2_with (fail)
            go_ret
            exact ⟨ret_bool (by rw [E2.out] <;> exact (decide_eq_true (by omega)).symm), hO⟩
          · have hno2 : (idsOf (ms.take (i + 1))).contains id = false := by
              rw [Hsn.out, Bool.eq_false_iff]
              intro hc
              rw [List.contains_iff_mem, List.mem_append] at hc
              rcases hc with hc | hc
              · rw [← List.contains_iff_mem, hno.out] at hc; cases hc
              · exact he (by simpa using hc : id = m.id).symm
            have Hno2 := Lib.hid hno2
            clear hno2
            go_wp2_with (fail)
            refine ⟨⟨i + 1, by go_num, by omega, Hno2⟩, by simp [intOf]; omega⟩
        · obtain rfl : i = k := by omega
          have e2 : T = false := by rw [E1.out, hno.out, Bool.and_false]
          have E2 := Lib.hid e2
          clear e2
          go_wp2_with (fail)
          go_ret
          exact ⟨ret_bool (by rw [E2.out] <;> exact (decide_eq_true (by omega)).symm), hO⟩

set_option maxRecDepth 100000 in
set_option maxHeartbeats 4000000 in
theorem longest5_any (s0 : ws.length ≤ 17592186043904) :
    Calls Try.prog 34 #[.agg #[v0, v1, v2, v3, v4]] w fun e w' => e = .returned (.int .i64 (lgF ws : Int)) ∧ Only [] w w' := by
  obtain ⟨h, hh⟩ : ∃ h, h = w.heap.size := ⟨_, rfl⟩
  obtain ⟨W1, hW1⟩ : ∃ W1, W1 = w.alloc (.cells #[v0, v1, v2, v3, v4] 26) := ⟨_, rfl⟩
  have hb : Blk W1 h 26 [v0, v1, v2, v3, v4] := by rw [hW1]; exact Blk.new' _ _ _ hh.symm rfl
  have hO : Only [] w W1 := by rw [hW1]; exact (Only.refl _ _).alloc _
  have hR1 := hR.only hO
  obtain ⟨⟨A, c, rfl, -, r0⟩, -⟩ := hR1
  obtain ⟨n, hn⟩ : ∃ n, n = ws.length := ⟨_, rfl⟩
  have c0 : W1.cell? ⟨h, 0, none⟩ = some (.slice A n c) := by rw [hn]; exact hb.cell 0
  rw [← hn] at r0 s0
  have Hn := Lib.hid hn
  have HR := Lib.hid r0
  have Hh := Lib.hid hh
  have HW := Lib.hid hW1
  clear hb hR hn r0 hh hW1
  go_enter Try.func34, Try.ntmps34
  go_upto_region 1 with (fail)
  rw [← Hh.out, ← HW.out]
  go_wp2_with (fail)
  go_loop [3, 4] (fun v3 v4 => ∃ i : Nat, v4 = .int .i64 (i : Int) ∧ i ≤ n ∧ v3 = .int .i64 (lgF (ws.take i) : Int)) (fun _ v4 => n - (intOf v4).toNat)
  case atStart => exact ⟨0, rfl, by omega, rfl⟩
  case round =>
    obtain ⟨i, rfl, hi, rfl⟩ := hrel
    by_cases hlt : i < n
    · obtain ⟨s, hs⟩ : ∃ s, ws[i]? = some s := ⟨_, List.getElem?_eq_getElem (by rw [← Hn.out]; omega)⟩
      obtain ⟨g, o, rfl, hin, q⟩ := HR.out.wd hs
      have hsn : lgF (ws.take (i + 1)) = max (lgF (ws.take i)) s.size := by rw [take_snoc' hs, lgF_snoc]
      have Hsn := Lib.hid hsn
      obtain ⟨lg, hlg⟩ : ∃ lg, lg = lgF (ws.take i) := ⟨_, rfl⟩
      rw [← hlg]
      have Hlg := Lib.hid hlg
      clear hsn hs hlg
      by_cases hgt : lg < s.size
      · have hgt' : decide (lg < s.size) = true := decide_eq_true hgt
        go_wp2_with (fail)
        refine ⟨⟨i + 1, by go_num, by omega, by rw [Hsn.out, ← Hlg.out, Nat.max_eq_right (by omega)]⟩, by simp [intOf]; omega⟩
      · have hgt' : decide (lg < s.size) = false := decide_eq_false hgt
        go_wp2_with (fail)
        refine ⟨⟨i + 1, by go_num, by omega, by rw [Hsn.out, ← Hlg.out, Nat.max_eq_left (by omega)]⟩, by simp [intOf]; omega⟩
    · obtain rfl : i = n := by omega
      have htk : ws.take i = ws := List.take_of_length_le (by rw [← Hn.out]; exact Nat.le_refl _)
      have Htk := Lib.hid htk
      clear htk
      go_wp2_with (fail)
      go_ret
      exact ⟨by rw [Htk.out]; rfl, hO⟩

set_option maxRecDepth 100000 in
set_option maxHeartbeats 4000000 in
theorem merge5_any (s1 : ms.length ≤ 17592186043904) (l r : Int) (hl : i64ok l) (hr : i64ok r) :
    Calls Try.prog 32 #[.agg #[v0, v1, v2, v3, v4], .int .i64 l, .int .i64 r] w fun e w' => e = .returned (.tuple #[.int .i64 (((lookM 0 ms (l, r)).getD (0, 0)).1 : Int), .int .i64 ((lookM 0 ms (l, r)).getD (0, 0)).2, .bool (lookM 0 ms (l, r)).isSome]) ∧ Only [] w w' := by
  obtain ⟨h, hh⟩ : ∃ h, h = w.heap.size := ⟨_, rfl⟩
  obtain ⟨W1, hW1⟩ : ∃ W1, W1 = w.alloc (.cells #[v0, v1, v2, v3, v4] 26) := ⟨_, rfl⟩
  have hb : Blk W1 h 26 [v0, v1, v2, v3, v4] := by rw [hW1]; exact Blk.new' _ _ _ hh.symm rfl
  have hO : Only [] w W1 := by rw [hW1]; exact (Only.refl _ _).alloc _
  have hR1 := hR.only hO
  obtain ⟨-, ⟨A, c, rfl, -, r1⟩, -⟩ := hR1
  obtain ⟨n, hn⟩ : ∃ n, n = ms.length := ⟨_, rfl⟩
  have c1 : W1.cell? ⟨h, 1, none⟩ = some (.slice A n c) := by rw [hn]; exact hb.cell 1
  rw [← hn] at r1 s1
  obtain ⟨T, hT⟩ : ∃ T, T = lookM 0 ms (l, r) := ⟨_, rfl⟩
  rw [← hT]
  unfold i64ok at hl hr
  have h0 : lookM 0 (ms.drop 0) (l, r) = T := by rw [hT]; rfl
  have H0 := Lib.hid h0
  have Hn := Lib.hid hn
  have HR := Lib.hid r1
  have Hh := Lib.hid hh
  have HW := Lib.hid hW1
  clear hb hR hn r1 hT hh hW1 h0
  go_enter Try.func32, Try.ntmps32
  go_upto_region 1 with (fail)
  rw [← Hh.out, ← HW.out]
  go_wp2_with (fail)
  go_loop [9] (fun vi => ∃ i : Nat, vi = .int .i64 (i : Int) ∧ i ≤ n ∧ Hid (lookM i (ms.drop i) (l, r) = T)) (fun vi => n - (intOf vi).toNat)
  case atStart => exact ⟨0, rfl, by omega, H0⟩
  case round =>
    obtain ⟨i, rfl, hi, hlk⟩ := hrel
    by_cases hlt : i < n
    · obtain ⟨m, hm⟩ : ∃ m, ms[i]? = some m := ⟨_, List.getElem?_eq_getElem (by rw [← Hn.out]; omega)⟩
      obtain ⟨g, o, rfl, hin, q0, q1, q2⟩ := HR.out.mg hm
      have hd := hlk.out
      rw [drop_cons' hm, lookM] at hd
      have Hd := Lib.hid hd
      clear hd hm hlk
      by_cases e1 : m.l = l
      · by_cases e2 : m.r = r
        · have hT2 : T = some (i, m.id) := by rw [← Hd.out, if_pos (by rw [e1, e2])]
          have HT2 := Lib.hid hT2
          clear hT2
          go_wp2_with (fail)
          go_quiet (fail)
          go_wp2_with (fail)
          go_ret3
          exact ⟨by rw [HT2.out]; rfl, hO.drewN _⟩
        · have hT2 : lookM (i + 1) (ms.drop (i + 1)) (l, r) = T := by rw [← Hd.out, if_neg (by rw [Prod.mk.injEq]; exact fun h => e2 h.2)]
          have HT2 := Lib.hid hT2
          clear hT2
          go_wp2_with (fail)
          refine ⟨⟨i + 1, by go_num, by omega, HT2⟩, by simp [intOf]; omega⟩
      · have hT2 : lookM (i + 1) (ms.drop (i + 1)) (l, r) = T := by rw [← Hd.out, if_neg (by rw [Prod.mk.injEq]; exact fun h => e1 h.1)]
        have HT2 := Lib.hid hT2
        clear hT2
        go_wp2_with (fail)
        refine ⟨⟨i + 1, by go_num, by omega, HT2⟩, by simp [intOf]; omega⟩
    · obtain rfl : i = n := by omega
      have hdr : ms.drop i = [] := List.drop_of_length_le (by rw [← Hn.out]; exact Nat.le_refl _)
      have hd := hlk.out
      rw [hdr, lookM] at hd
      have Hd := Lib.hid hd
      clear hd hlk hdr
      go_wp2_with (fail)
      go_ret3
      exact ⟨by rw [← Hd.out]; rfl, hO⟩
end
end Go.Proofs.Ytfnhdkabfkjodaa
