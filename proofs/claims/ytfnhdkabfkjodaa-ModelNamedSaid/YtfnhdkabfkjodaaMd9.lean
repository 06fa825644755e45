/- The document's answer for chapter 5: what is wrong with a word. -/
import Derived.Test.YtfnhdkabfkjodaaMd8
set_option linter.unusedVariables false
set_option linter.unusedSimpArgs false
namespace Go.Proofs.Ytfnhdkabfkjodaa
open Go.RowKit

theorem loadF5 {w : World} {h0 : Nat} {v0 v1 v2 : Value} (hb : Blk w h0 89 [v0, v1, v2]) :
    (((asAddr (.pointer (some ⟨h0, 0, none⟩))).run Try.prog w).andThen fun a w₁ => (loadVar 89 a).run Try.prog w₁) = Result.ok (Value.agg #[v0, v1, v2]) w := by
  have c0 : w.cell? ⟨h0, 0, none⟩ = some v0 := hb.cell 0
  have c1 : w.cell? ⟨h0, 1, none⟩ = some v1 := hb.cell 1
  have c2 : w.cell? ⟨h0, 2, none⟩ = some v2 := hb.cell 2
  go_simp
/-- what is wrong with the words, as a fault -/
def wordsF (ws : List ByteArray) : Wr := if (wordsAt [] 0 ws).2 ≠ 0 then ((wordsAt [] 0 ws).2, 4, (wordsAt [] 0 ws).1) else (0, 0, 0)
def faultV (t : Wr) : Value := .agg #[.int .i64 (t.1 : Int), .int .i64 (t.2.1 : Int), .int .i64 (t.2.2 : Int)]

set_option maxRecDepth 100000 in
set_option maxHeartbeats 8000000 in
theorem words5_any (w : World) (v0 v1 v2 v3 v4 : Value) (ws : List ByteArray) (ms : List Mg) (a b d : List Sp) (hR : Rd5 w v0 v1 v2 v3 v4 ws ms a b d) (s0 : ws.length ≤ 17592186043904) (hws : ∀ s ∈ ws, s.size ≤ maxLen) :
    Calls Try.prog 57 #[.agg #[v0, v1, v2, v3, v4]] w fun e w' => e = .returned (faultV (wordsF ws)) ∧ Only [] w w' := by
  obtain ⟨T, hT⟩ : ∃ T, T = wordsF ws := ⟨_, rfl⟩
  rw [← hT]
  obtain ⟨P, hP⟩ : ∃ P, P = wordsAt [] 0 ws := ⟨_, rfl⟩
  unfold wordsF at hT
  rw [← hP] at hT
  have hP0 : wordsAt (ws.take 0) 0 (ws.drop 0) = P := by rw [hP]; rfl
  obtain ⟨h, hh⟩ : ∃ h, h = w.heap.size := ⟨_, rfl⟩
  obtain ⟨W1, hW1⟩ : ∃ W1, W1 = (w.alloc (.cells #[v0, v1, v2, v3, v4] 26)).alloc (.cells #[.int .i64 0, .int .i64 0, .int .i64 0] 89) := ⟨_, rfl⟩
  have hb : Blk W1 h 26 [v0, v1, v2, v3, v4] := by rw [hW1]; exact (Blk.new' _ _ _ hh.symm rfl).alloc _
  have hb2 : Blk W1 (h + 1) 89 [.int .i64 0, .int .i64 0, .int .i64 0] := by rw [hW1]; exact Blk.new' _ _ _ (by simp; omega) rfl
  have hO : Only [] w W1 := by rw [hW1]; exact ((Only.refl _ _).alloc _).alloc _
  have hwh : w.heap.size ≤ h := by omega
  have hR1 := hR.only hO
  obtain ⟨⟨A, c, rfl, -, r0⟩, -⟩ := hR1
  obtain ⟨n, hn⟩ : ∃ n, n = ws.length := ⟨_, rfl⟩
  have c0 : W1.cell? ⟨h, 0, none⟩ = some (.slice A n c) := by rw [hn]; exact hb.cell 0
  rw [← hn] at r0 s0
  have HT := Lib.hid hT
  have HP0 := Lib.hid hP0
  have Hn := Lib.hid hn
  have HR := Lib.hid r0
  have Hh := Lib.hid hh
  have HW := Lib.hid hW1
  have Hb := Lib.hid hb
  have Hb2 := Lib.hid hb2
  have Hws := Lib.hid hws
  /- how it is left -/
  have hout : ∀ (W : World) (x y z : Nat), Only [] W1 W → T = (x, y, z) → Only [] w (((W.setCell ⟨h + 1, 0, none⟩ (.int .i64 (x : Int))).setCell ⟨h + 1, 1, none⟩ (.int .i64 (y : Int))).setCell ⟨h + 1, 2, none⟩ (.int .i64 (z : Int))) ∧
      Blk (((W.setCell ⟨h + 1, 0, none⟩ (.int .i64 (x : Int))).setCell ⟨h + 1, 1, none⟩ (.int .i64 (y : Int))).setCell ⟨h + 1, 2, none⟩ (.int .i64 (z : Int))) (h + 1) 89 [.int .i64 (T.1 : Int), .int .i64 (T.2.1 : Int), .int .i64 (T.2.2 : Int)] := by
    intro W x y z hw hTx
    have hg : w.heap.size ≤ h + 1 := by omega
    refine ⟨(((hO.trans hw).setCell (p := ⟨h + 1, 0, none⟩) (.inr hg) _).setCell (p := ⟨h + 1, 1, none⟩) (.inr hg) _).setCell (p := ⟨h + 1, 2, none⟩) (.inr hg) _, ?_⟩
    rw [hTx]
    exact (((hb2.only hw (by simp)).set 0 _).set 1 _).set 2 _
  have Hout := Lib.hid hout
  clear hT hh hW1 hn hb hb2 hR hws hout r0 hP0 hP
  go_enter Try.func57, Try.ntmps57
  go_upto_region 1 with (fail)
  rw [← Hh.out, ← HW.out]
  go_wp2_with (fail)
  go_loopw [3] (fun vi wr => ∃ i : Nat, vi = .int .i64 (i : Int) ∧ i ≤ n ∧ Only [] W1 wr ∧ Hid (wordsAt (ws.take i) i (ws.drop i) = P)) (fun vi _ => n - (intOf vi).toNat)
  case atStart => exact ⟨0, rfl, by omega, .refl _ _, HP0⟩
  case round =>
    obtain ⟨i, rfl, hi, hOw, hPi⟩ := hrel
    have c0 : wr.cell? ⟨h, 0, none⟩ = some (.slice A n c) := hOw.cellv c0 (by simp)
    by_cases hlt : i < n
    · obtain ⟨s, hsi⟩ : ∃ s, ws[i]? = some s := ⟨_, List.getElem?_eq_getElem (by rw [← Hn.out]; exact hlt)⟩
      obtain ⟨gw, ow, rfl, _, q⟩ := (HR.out.only hOw (by simp)).wd hsi
      have hsz := Hws.out s (List.mem_of_getElem? hsi)
      have hdr := drop_cons' hsi
      have htk := take_snoc' hsi
      have hw := hPi.out
      rw [hdr, wordsAt] at hw
      unfold maxLen at hsz
      have Hw := Lib.hid hw
      have Hsi := Lib.hid hsi
      have Htk := Lib.hid htk
      have q0 : wr.cell? ⟨h + 1, 0, none⟩ = some (.int .i64 0) := (Hb2.out.only hOw (by simp)).cell 0
      have q1 : wr.cell? ⟨h + 1, 1, none⟩ = some (.int .i64 0) := (Hb2.out.only hOw (by simp)).cell 1
      have q2 : wr.cell? ⟨h + 1, 2, none⟩ = some (.int .i64 0) := (Hb2.out.only hOw (by simp)).cell 2
      have z0 := (Hb2.out.only hOw (by simp)).frozen 0
      have z1 := (Hb2.out.only hOw (by simp)).frozen 1
      have z2 := (Hb2.out.only hOw (by simp)).frozen 2
      clear hw hsi hdr htk hPi
      by_cases h2 : s.size < 2 ∨ 256 < s.size
      · have hT2 : T = (21, 4, i) := by rw [HT.out, ← Hw.out, if_pos h2, if_pos (by simp)]
        obtain ⟨hOn, hbn⟩ := Hout.out wr 21 4 i hOw hT2
        have HT2 := Lib.hid hT2
        have Hbn := Lib.hid hbn
        clear hT2 hbn
        rcases h2 with h2 | h2
        · have h2' : decide (s.size < 2) = true := decide_eq_true h2
          go_wp2_with (fail)
          (try simp only [Exit.inBlock, Exit.then])
          refine bodyPost_ret (v := faultV T) ?_ rfl ⟨rfl, hOn⟩
          rw [results_cellD rfl]
          exact loadF5 Hbn.out
        · have h2' : decide (s.size < 2) = false := decide_eq_false (by omega)
          have h3' : decide (256 < s.size) = true := decide_eq_true h2
          go_wp2_with (fail)
          (try simp only [Exit.inBlock, Exit.then])
          refine bodyPost_ret (v := faultV T) ?_ rfl ⟨rfl, hOn⟩
          rw [results_cellD rfl]
          exact loadF5 Hbn.out
      · have h2' : decide (s.size < 2) = false := decide_eq_false (by omega)
        have h3' : decide (256 < s.size) = false := decide_eq_false (by omega)
        have hw2 : (if inB s (ws.take i) = true then (i, 22) else wordsAt (ws.take i ++ [s]) (i + 1) (ws.drop (i + 1))) = P := by rw [← Hw.out, if_neg h2]
        have Hw2 := Lib.hid hw2
        have hi0 : inB s (ws.take 0) = false := by rfl
        have Hi0 := Lib.hid hi0
        clear hw2 Hw hi0
        go_wp2_with (fail)
        go_loopw [4] (fun vj wx => ∃ j : Nat, vj = .int .i64 (j : Int) ∧ j ≤ i ∧ Only [] W1 wx ∧ Hid (inB s (ws.take j) = false)) (fun vj _ => i - (intOf vj).toNat)
        case atStart => exact ⟨0, rfl, by omega, hOw, Hi0⟩
        case round =>
          obtain ⟨j, rfl, hj, hOx, hno⟩ := hrel
          have cx : wr.cell? ⟨h, 0, none⟩ = some (.slice (some ⟨gw, ow, none⟩) n c) := by rw [Hn.out]; exact (Hb.out.only hOx (by simp)).cell 0
          have q0 : wr.cell? ⟨h + 1, 0, none⟩ = some (.int .i64 0) := (Hb2.out.only hOx (by simp)).cell 0
          have q1 : wr.cell? ⟨h + 1, 1, none⟩ = some (.int .i64 0) := (Hb2.out.only hOx (by simp)).cell 1
          have q2 : wr.cell? ⟨h + 1, 2, none⟩ = some (.int .i64 0) := (Hb2.out.only hOx (by simp)).cell 2
          have z0 := (Hb2.out.only hOx (by simp)).frozen 0
          have z1 := (Hb2.out.only hOx (by simp)).frozen 1
          have z2 := (Hb2.out.only hOx (by simp)).frozen 2
          by_cases hjl : j < i
          · obtain ⟨t, htj⟩ : ∃ t, ws[j]? = some t := ⟨_, List.getElem?_eq_getElem (by rw [← Hn.out]; omega)⟩
            obtain ⟨_, _, he, _, qt⟩ := (HR.out.only hOx (by simp)).wd htj
            obtain ⟨_, _, he2, _, qs⟩ := (HR.out.only hOx (by simp)).wd Hsi.out
            cases he
            cases he2
            have htk2 := take_snoc' htj
            have hin : inB s (ws.take (j + 1)) = (decide (s.data.toList = t.data.toList)) := by rw [htk2, inB_snoc, hno.out, Bool.false_or]
            have hjn : j < n := by omega
            by_cases hts : t = s
            · have hii : inB s (ws.take i) = true := by
                rw [inB_iff, ← hts]
                exact List.mem_of_getElem? (i := j) (by rw [List.getElem?_take, if_pos hjl]; exact htj)
              have hT2 : T = (22, 4, i) := by rw [HT.out, ← Hw2.out, if_pos hii, if_pos (by simp)]
              have hbn := fun k => Hout.out (wr.drewN k) 22 4 i (hOx.drewN k) hT2
              subst hts
              have hse : (t.toList == t.toList) = true := beq_self_eq_true _
              have HT2 := Lib.hid hT2
              have Hbn := Lib.hid hbn
              clear hT2 hbn hin htk2 htj hii
              go_wp2_with (fail)
              go_quiet (fail)
              go_wp2_with (fail)
              (try simp only [Exit.inBlock, Exit.then])
              refine bodyPost_ret (v := faultV T) ?_ rfl ⟨rfl, (Hbn.out _).1⟩
              rw [results_cellD rfl]
              exact loadF5 (Hbn.out _).2
            · have hse : (t.toList == s.toList) = false := by
                rw [Lib.toList_data, Lib.toList_data, beq_eq_false_iff_ne]
                intro h; exact hts (by apply ByteArray.ext; exact Array.toList_inj.1 h)
              have hno2 : inB s (ws.take (j + 1)) = false := by
                rw [hin, decide_eq_false_iff_not]
                intro h; exact hts (by apply ByteArray.ext; exact (Array.toList_inj.1 h).symm)
              have Hno2 := Lib.hid hno2
              clear hno2 hin htk2 htj
              go_wp2_with (fail)
              go_quiet (fail)
              go_wp2_with (fail)
              refine ⟨⟨j + 1, by go_num, by omega, hOx.drewN _, Hno2⟩, by simp [intOf]; omega⟩
          · obtain rfl : j = i := by omega
            have hw3 := Hw2.out
            rw [if_neg (by rw [hno.out]; simp), ← Htk.out] at hw3
            have Hw3 := Lib.hid hw3
            clear hw3
            go_wp2_with (fail)
            refine ⟨⟨j + 1, by go_num, by omega, hOx, Hw3⟩, by simp [intOf]; omega⟩
    · obtain rfl : i = n := by omega
      have hdr : ws.drop i = [] := List.drop_of_length_le (by rw [← Hn.out]; exact Nat.le_refl _)
      have hw := hPi.out
      rw [hdr, wordsAt] at hw
      have hT2 : T = (0, 0, 0) := by rw [HT.out, ← hw]; rfl
      obtain ⟨hOn, hbn⟩ := Hout.out wr 0 0 0 hOw hT2
      have q0 : wr.cell? ⟨h + 1, 0, none⟩ = some (.int .i64 0) := (Hb2.out.only hOw (by simp)).cell 0
      have q1 : wr.cell? ⟨h + 1, 1, none⟩ = some (.int .i64 0) := (Hb2.out.only hOw (by simp)).cell 1
      have q2 : wr.cell? ⟨h + 1, 2, none⟩ = some (.int .i64 0) := (Hb2.out.only hOw (by simp)).cell 2
      have z0 := (Hb2.out.only hOw (by simp)).frozen 0
      have z1 := (Hb2.out.only hOw (by simp)).frozen 1
      have z2 := (Hb2.out.only hOw (by simp)).frozen 2
      have HT2 := Lib.hid hT2
      have Hbn := Lib.hid hbn
      clear hT2 hw hdr hbn
      go_wp2_with (fail)
      (try simp only [Exit.inBlock, Exit.then])
      refine bodyPost_ret (v := faultV T) ?_ rfl ⟨rfl, hOn⟩
      rw [results_cellD rfl]
      exact loadF5 Hbn.out
end Go.Proofs.Ytfnhdkabfkjodaa
