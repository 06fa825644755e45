/- the reference's Replace: the walk. -/
import Derived.Test.YtemnanhoiacphaaDoorPk6
set_option linter.unusedVariables false
set_option linter.unusedSimpArgs false
namespace Go.Proofs.YtemnanhoiacphaaDoor
open Go.RowKit

theorem app3 (P : Program) (t e : TypeId) (ht : P.underlying t = some (.slice e)) (hinfo : (P.info? e).map (fun i => (i.zero, i.size, i.bytes)) = some (some (.int .u8 0), 1, 1))
    {w : World} {base : Nat} {v : Value} {l : List UInt8} (hown : w.ownsRow base e 1 v l.length (bvs l)) (hb : base ≤ w.heap.size) (hl : l.length + 3 ≤ 500000000) :
    ∃ v' w', (Builtin.append_ #[t, t] t #[v, .slice (some ⟨w.heap.size, 0, none⟩) 3 3]).run P (w.alloc (.cells #[.int .u8 239, .int .u8 191, .int .u8 189] e)) = .ok v' w' ∧
      w'.ownsRow base e 1 v' (l ++ [239, 191, 189]).length (bvs (l ++ [239, 191, 189])) ∧ Only v.ownBlock.toList w w' := by
  have hO := (Only.refl [] w).alloc (.cells #[.int .u8 239, .int .u8 191, .int .u8 189] e)
  have hown2 := own_only hown hO (by simp)
  have hy : Rd (w.alloc (.cells #[.int .u8 239, .int .u8 191, .int .u8 189] e)) (w.heap.size + 1) 1 (some ⟨w.heap.size, 0, none⟩) 3 (bvs [239, 191, 189]) := Rd.whole (t := e) (Blk.new' _ _ _ rfl rfl) rfl
  obtain ⟨v', w', hrun, hown', hO', hat, _⟩ := run_append_row (P := P) base t t e (.int .u8 0) 1 1 ht hinfo rfl (by omega) hown2 3 hy (bvs_one _) (by simp only [maxLen]; omega) (by omega) (by simp; omega)
  refine ⟨v', w', hrun, ?_, ((Only.refl v.ownBlock.toList w).alloc _).trans hO'⟩
  rw [List.length_append, ← bvs_append]
  exact hown'

set_option maxRecDepth 100000 in
set_option maxHeartbeats 4000000 in
theorem refReplace_any (s : ByteArray) (hs : s.size ≤ 1048576) (w : World) :
    Calls Tryd.prog 73 #[.string s] w fun e w' => e = .returned (.string ⟨(replS s).toArray⟩) ∧ Only [] w w' := by
  obtain ⟨R, hR⟩ : ∃ R, R = replS s := ⟨_, rfl⟩
  rw [← hR]
  have HR := Lib.hid hR
  clear hR
  go_enter Tryd.func73, Tryd.ntmps73
  go_wp2_with (fail)
  go_loopw [4, 3] (fun vp v wr => ∃ (p : Nat) (l : List UInt8), vp = .int .i64 (p : Int) ∧ p ≤ s.size ∧ l.length ≤ 4 * p ∧ wr.ownsRow w.heap.size 5 1 v l.length (bvs l) ∧ l ++ replF s (s.size - p) p = replS s ∧ Only [] w wr) (fun vp _ _ => s.size - (intOf vp).toNat)
  case atStart => exact ⟨0, [], rfl, by omega, by simp, ⟨rfl, .inl ⟨rfl, rfl⟩⟩, rfl, .refl _ _⟩
  case round =>
    obtain ⟨p, l, rfl, hp, hlp, hown, hq, hO⟩ := hrel
    have Hq := Lib.hid hq
    clear hq
    by_cases hlt : p < s.size
    · have hstep := replF_step hlt
      have hsl := skip_le s p hlt
      have hsp := skip_pos s p
      have hol := out_le s p
      have Hstep := Lib.hid hstep
      clear hstep
      go_wp2_with (fail)
      refine (width_any s p hlt (by omega) _).mono ?_
      rintro e w2 ⟨rfl, rfl⟩
      have hwf := widthS_fits s p hlt
      obtain ⟨k, hk⟩ : ∃ k, k = widthS s p := ⟨_, rfl⟩
      rw [← hk] at hwf ⊢
      have Hk := Lib.hid hk
      clear hk
      by_cases h0 : k = 0
      · subst h0
        clear hwf
        have hout : outS s p = [239, 191, 189] := by unfold outS; rw [if_neg (by rw [← Hk.out]; simp)]
        have hskip : skipS s p = if beginsS s p = 0 then 1 else beginsS s p := by unfold skipS; rw [if_neg (by rw [← Hk.out]; simp)]
        obtain ⟨v', w', hrun, hown', hO'⟩ := app3 Tryd.prog 41 5 Tryd.underlying41 (by kernel_rfl) hown hO.size (by omega)
        have hOw : Only [] w w' := hO.trans' hO' (by intro x hx; exact .inr (own_lt hown (by simpa using hx)).1)
        have Hrun := Lib.hid hrun
        have Hown := Lib.hid hown'
        have Hout := Lib.hid hout
        have Hskip := Lib.hid hskip
        clear hrun hown' hO' hown hout hskip
        go_wp2_with (fail)
        refine (begins_any s p hlt (by omega) _).mono ?_
        rintro e w3 ⟨rfl, rfl⟩
        obtain ⟨b, hb⟩ : ∃ b, b = beginsS s p := ⟨_, rfl⟩
        rw [← hb]
        have Hb := Lib.hid hb
        clear hb
        by_cases hh : b = 0
        · subst hh
          have hsk1 : skipS s p = 1 := by rw [Hskip.out, ← Hb.out]; rfl
          have Hsk1 := Lib.hid hsk1
          clear hsk1
          go_wp2_with ((at_builtin; refine wpList_append_run (o := ⟨some 33, _, _, _, _, _⟩) (by rfl) (.tmp 31) (.tmp 32) 41 41 (by rfl) (by rfl) (by rfl) Hrun.out ?_))
          go_roundw
          case rel => exact ⟨p + 1, l ++ [239, 191, 189], by go_num, by omega, by simp; omega, Hown.out, by rw [← Hq.out, Hstep.out, Hout.out, Hsk1.out, List.append_assoc], hOw⟩
          case measure => simp [intOf]; omega
        · have hsk1 : skipS s p = b := by rw [Hskip.out, ← Hb.out, if_neg hh]
          have Hsk1 := Lib.hid hsk1
          have ht : ((b : Int) == 0) = false := by simp; omega
          have hbs : p + b ≤ s.size := by omega
          clear hsk1
          go_wp2_with ((at_builtin; refine wpList_append_run (o := ⟨some 33, _, _, _, _, _⟩) (by rfl) (.tmp 31) (.tmp 32) 41 41 (by rfl) (by rfl) (by rfl) Hrun.out ?_))
          go_roundw
          case rel => exact ⟨p + b, l ++ [239, 191, 189], by go_num, by omega, by simp; omega, Hown.out, by rw [← Hq.out, Hstep.out, Hout.out, Hsk1.out, List.append_assoc], hOw⟩
          case measure => simp [intOf]; omega
      · obtain ⟨f1, f2, f3⟩ := hwf h0
        have h0' : (0 : Int) < (k : Int) := by omega
        clear hwf
        have hsk1 : skipS s p = k := by unfold skipS; rw [← Hk.out, if_pos h0]
        have hsz : (s.extract p (p + k)).size = k := by simp [ByteArray.size_extract]; omega
        have hout : outS s p = (s.extract p (p + k)).data.toList := by
          unfold outS; rw [← Hk.out, if_pos h0, ByteArray.data_extract, Array.toList_extract]
          show _ = ((s.data.toList).drop p).take (p + k - p)
          rw [Nat.add_sub_cancel_left]
        obtain ⟨v', w', hrun, hown', hO', _⟩ := run_append_row_str (P := Tryd.prog) (w := wr) w.heap.size 41 9 41 5 Tryd.underlying41 Tryd.underlying9 (by kernel_rfl) hown (s.extract p (p + k)) (by omega) hO.size
        have hlen : l.length + (s.extract p (p + k)).size = (l ++ outS s p).length := by rw [List.length_append, hout, ← Lib.size_eq]
        rw [hlen, ← hout] at hown'
        have hll : (l ++ outS s p).length ≤ 4 * (p + k) := by rw [List.length_append]; omega
        have hOw : Only [] w w' := hO.trans' hO' (by intro x hx; exact .inr (own_lt hown (by simpa using hx)).1)
        have Hrun := Lib.hid hrun
        have Hown := Lib.hid hown'
        have Hsk1 := Lib.hid hsk1
        have Hll := Lib.hid hll
        clear hrun hown' hO' hown hsk1 hout hlen hll hsz
        go_wp2_with ((at_builtin; refine wpList_append_run (o := ⟨some 22, _, _, _, _, _⟩) (by rfl) (.tmp 15) (.tmp 21) 41 9 (by rfl) (by rfl) (by rfl) Hrun.out ?_))
        go_roundw
        case rel => exact ⟨p + k, l ++ outS s p, by go_num, by omega, Hll.out, Hown.out, by rw [← Hq.out, Hstep.out, Hsk1.out, List.append_assoc], hOw⟩
        case measure => simp [intOf]; omega
    · obtain rfl : p = s.size := by omega
      have hl : l = replS s := by
        have h0 : replF s (s.size - s.size) s.size = [] := by rw [Nat.sub_self]; rfl
        have := Hq.out
        rw [h0, List.append_nil] at this
        exact this
      obtain ⟨A, c, rfl, _, hrd, _⟩ := own_slice hown
      have hcv := run_string_rd (P := Tryd.prog) 41 9 5 Tryd.underlying41 (by kernel_rfl) Tryd.underlying9 c hrd
      have Hl := Lib.hid hl
      clear hl
      go_wp2_with (fail)
      go_ret
      exact ⟨by rw [HR.out, ← Hl.out]; rfl, hO⟩
end Go.Proofs.YtemnanhoiacphaaDoor
