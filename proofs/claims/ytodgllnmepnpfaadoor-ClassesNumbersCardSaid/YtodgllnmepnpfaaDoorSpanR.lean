/- spans.Right, the reference's Right. -/
import Derived.Test.YtodgllnmepnpfaaDoorSpanIn
import Derived.Deep.QuietTactic
import Derived.BigQuiet
import Derived.Deep.DeepBigQuietO
set_option linter.unusedVariables false
set_option linter.unusedSimpArgs false
namespace Go.Proofs.YtodgllnmepnpfaaDoor
open Go.RowKit

/-- the first row that may not be, and why -/
def rightFrom : Option Int → Nat → List Sp → Nat × Nat
  | _, _, [] => (0, 0)
  | prev, i, p :: l => if (validRune p.1 && validRune p.2) = false then (i, 14) else if p.2 < p.1 ∨ (∃ h, prev = some h ∧ p.1 ≤ h) then (i, 15) else rightFrom (some p.2) (i + 1) l
def prevAt (l : List Sp) (k : Nat) : Option Int := if k = 0 then none else (l[k - 1]?).map (·.2)
theorem right_step {l : List Sp} {k : Nat} {p : Sp} (hp : l[k]? = some p) : rightFrom (prevAt l k) k (l.drop k) = (if (validRune p.1 && validRune p.2) = false then (k, 14) else if p.2 < p.1 ∨ (∃ h, prevAt l k = some h ∧ p.1 ≤ h) then (k, 15) else rightFrom (prevAt l (k + 1)) (k + 1) (l.drop (k + 1))) := by
  have hk := (List.getElem?_eq_some_iff.1 hp).1
  have e : l.drop k = p :: l.drop (k + 1) := by
    rw [List.drop_eq_getElem_cons hk]; congr 1; exact (List.getElem?_eq_some_iff.1 hp).2
  have e2 : prevAt l (k + 1) = some p.2 := by unfold prevAt; rw [if_neg (by omega), Nat.add_sub_cancel, hp]; rfl
  rw [e, rightFrom, e2]
theorem right_end (l : List Sp) (k : Nat) (h : l.length ≤ k) : rightFrom (prevAt l k) k (l.drop k) = (0, 0) := by
  rw [List.drop_eq_nil_of_le h]; rfl

set_option maxRecDepth 100000 in
set_option maxHeartbeats 2000000 in
theorem refRight_any (n c : Nat) (A : Option Addr) (l : List Sp) (w : World) (B : Nat) (hr : Rd w B 2 A n (ses l)) (hl : l.length = n) (hn : n ≤ 140737488351232) :
    Calls Tryd.prog 32 #[.slice A n c] w fun e w' => e = .returned (.tuple #[.int .i64 ((rightFrom none 0 l).1 : Int), .int .i64 ((rightFrom none 0 l).2 : Int)]) ∧ ∃ k, w' = w.drewN k := by
  have Hl := Lib.hid hl
  clear hl
  go_enter Tryd.func32, Tryd.ntmps32
  go_wp2_with (fail)
  go_loopw [4] (fun vi wr => ∃ i k : Nat, vi = .int .i64 (i : Int) ∧ i ≤ n ∧ rightFrom (prevAt l i) i (l.drop i) = rightFrom none 0 l ∧ wr = w.drewN k) (fun vi _ => n - (intOf vi).toNat)
  case atStart => exact ⟨0, 0, rfl, by omega, rfl, rfl⟩
  case round =>
    obtain ⟨i, k, rfl, hi, hq, hw⟩ := hrel
    have Hq := Lib.hid hq
    have Hw := Lib.hid hw
    clear hq hw
    by_cases hlt : i < n
    · obtain ⟨p, hp⟩ : ∃ p, l[i]? = some p := ⟨_, List.getElem?_eq_getElem (by rw [Hl.out]; exact hlt)⟩
      have hst := right_step hp
      rw [Hq.out] at hst
      obtain ⟨g, o, rfl, _, c0, c1⟩ := (show Rd wr B 2 A n (ses l) by rw [Hw.out]; exact hr).span hlt hp
      have Hst := Lib.hid hst
      have Hp := Lib.hid hp
      clear hst hp
      go_wp2_with (fail)
      refine (refRune_any p.1 _).mono ?_
      rintro e w2 ⟨rfl, rfl⟩
      obtain ⟨b1, hb1⟩ : ∃ b, b = validRune p.1 := ⟨_, rfl⟩
      obtain ⟨b2, hb2⟩ : ∃ b, b = validRune p.2 := ⟨_, rfl⟩
      rw [← hb1]
      have Hb1 := Lib.hid hb1
      have Hb2 := Lib.hid hb2
      clear hb1 hb2
      cases b1 with
      | false =>
        go_wp2_with (fail)
        go_ret2
        exact ⟨by rw [Hst.out, ← Hb1.out, if_pos (by simp)]; rfl, _, Hw.out⟩
      | true =>
        go_wp2_with (fail)
        refine (refRune_any p.2 _).mono ?_
        rintro e w2 ⟨rfl, rfl⟩
        rw [← Hb2.out]
        cases b2 with
        | false =>
          go_wp2_with (fail)
          go_ret2
          exact ⟨by rw [Hst.out, ← Hb1.out, ← Hb2.out, if_pos (by simp)]; rfl, _, Hw.out⟩
        | true =>
          by_cases hA : p.2 < p.1
          · go_upto_region 6 with (fail)
            go_quiet (fail)
            go_wp2_with (fail)
            go_ret2
            exact ⟨by rw [Hst.out, ← Hb1.out, ← Hb2.out, if_neg (by simp), if_pos (.inl hA)]; rfl, _, by rw [Hw.out, World.drewN_drewN]⟩
          · have dA : decide (p.2 < p.1) = false := decide_eq_false hA
            by_cases h0 : 0 < (i : Int)
            · obtain ⟨q, hq⟩ : ∃ q, l[i - 1]? = some q := ⟨_, List.getElem?_eq_getElem (by rw [Hl.out]; omega)⟩
              obtain ⟨_, _, e0, _, d0, d1⟩ := (show Rd wr B 2 (some ⟨g, o, none⟩) n (ses l) by rw [Hw.out]; exact hr).span (show i - 1 < n by omega) hq
              cases e0
              have hsub : ((i : Int) - 1) = ((i - 1 : Nat) : Int) := by omega
              obtain ⟨m, hm⟩ : ∃ m, m = i - 1 := ⟨_, rfl⟩
              rw [← hm] at hsub d0 d1 hq
              have Hm := Lib.hid hm
              have Hq2 := Lib.hid hq
              clear hm hq
              have hpv : prevAt l i = some q.2 := by unfold prevAt; rw [if_neg (by omega), ← Hm.out, Hq2.out]; rfl
              have Hpv := Lib.hid hpv
              clear hpv
              have d0 : decide (0 < i) = true := decide_eq_true (by omega)
              by_cases hB : p.1 ≤ q.2
              · go_upto_region 6 with (fail)
                go_quiet (fail)
                go_wp2_with (fail)
                go_ret2
                exact ⟨by rw [Hst.out, ← Hb1.out, ← Hb2.out, if_neg (by simp), if_pos (.inr ⟨_, Hpv.out, hB⟩)]; rfl, _, by rw [Hw.out, World.drewN_drewN]⟩
              · have dB : decide (p.1 ≤ q.2) = false := decide_eq_false hB
                go_upto_region 6 with (fail)
                go_quiet (fail)
                go_wp2_with (fail)
                go_roundw
                case rel => exact ⟨i + 1, _, by go_num, by omega, by rw [Hst.out, ← Hb1.out, ← Hb2.out, if_neg (by simp), if_neg (by rintro (h | ⟨h, e, h2⟩) <;> first | omega | (rw [Hpv.out] at e; cases e; omega))], by rw [Hw.out, World.drewN_drewN]⟩
                case measure => simp [intOf]; omega
            · have d0 : decide (0 < i) = false := decide_eq_false (by omega)
              have Hi0 : RowKit.Hid (i = 0) := Lib.hid (by omega)
              clear h0
              go_upto_region 6 with (fail)
              go_quiet (fail)
              go_wp2_with (fail)
              go_roundw
              case rel => exact ⟨i + 1, _, by go_num, by omega, by rw [Hst.out, ← Hb1.out, ← Hb2.out, if_neg (by simp), if_neg (by rintro (h | ⟨h, e, _⟩) <;> first | omega | (simp [prevAt, Hi0.out] at e))], by rw [Hw.out, World.drewN_drewN]⟩
              case measure => simp [intOf]; omega
    · obtain rfl : i = n := by omega
      go_wp2_with (fail)
      go_ret2
      exact ⟨by rw [← Hq.out, right_end l i (by rw [Hl.out]; omega)]; rfl, _, Hw.out⟩
end Go.Proofs.YtodgllnmepnpfaaDoor
