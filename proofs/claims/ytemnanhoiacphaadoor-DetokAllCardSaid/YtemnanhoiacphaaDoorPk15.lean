/- Several texts in one: A detokeniser, told in plain words; its small methods.; detok: emit, settle, Read, Flush.; detok: settle, Read, Flush.; detok: Feed, New. -/
import Derived.Test.YtemnanhoiacphaaDoorRingK
import Derived.Test.YtemnanhoiacphaaDoorPk6
import Derived.Test.YtemnanhoiacphaaDoorPk4
import Derived.Test.YtemnanhoiacphaaDoorPk14
import Derived.Lib.ConvBytes
set_option linter.unusedVariables false
set_option linter.unusedSimpArgs false
set_option maxRecDepth 100000
namespace Go.Proofs.YtemnanhoiacphaaDoor
open Go.RowKit

/-- what a detokeniser holds -/
structure DkS where
  held : ByteArray
  ring : List UInt8
  met : Bool
  flushed : Bool
  deriving DecidableEq
/-- what is emitted of a text -/
def emS (rep : Bool) (s : ByteArray) : List UInt8 := if rep then replS s else s.data.toList
def modeV (rep : Bool) : Value := .iface (if rep then 94 else 89) (.agg #[])
structure DecAt (w W0 : World) (g gr g2 gm : Nat) (rep : Bool) (R : Nat) (x : DkS) : Prop where
  blk : Blk w g 93 [.pointer (some ⟨gm, 0, none⟩), .pointer (some ⟨gr, 0, none⟩), modeV rep, .string x.held, .bool x.met, .bool x.flushed]
  ring : ∃ at_ arr, RingAt w gr g2 R at_ arr x.ring
  new : Only [] W0 w
  ge : W0.heap.size ≤ g ∧ W0.heap.size ≤ gr ∧ W0.heap.size ≤ g2
  h3 : x.held.size ≤ 3
section
variable {w w' W0 : World} {g gr g2 gm : Nat} {rep : Bool} {R : Nat} {x : DkS}
theorem RingAt.ne {at_ : Nat} {arr q : List UInt8} (h : RingAt w gr g2 R at_ arr q) : gr ≠ g2 := h.1.ne h.2.1 (by decide)
theorem RingAt.only {at_ : Nat} {arr q : List UInt8} (h : RingAt w gr g2 R at_ arr q) {l : List Nat} (hO : Only l w w') (h1 : gr ∉ l) (h2 : g2 ∉ l) : RingAt w' gr g2 R at_ arr q :=
  ⟨h.1.only hO h1, h.2.1.only hO h2, h.2.2⟩
theorem DecAt.ne (h : DecAt w W0 g gr g2 gm rep R x) : g ≠ gr ∧ g ≠ g2 ∧ gr ≠ g2 := by
  obtain ⟨at_, arr, hr⟩ := h.ring
  exact ⟨h.blk.ne hr.1 (by decide), h.blk.ne hr.2.1 (by decide), hr.ne⟩
theorem DecAt.only (h : DecAt w W0 g gr g2 gm rep R x) {l : List Nat} (hO : Only l w w') (h1 : g ∉ l) (h2 : gr ∉ l) (h3 : g2 ∉ l) (h4 : ∀ y ∈ l, W0.heap.size ≤ y) : DecAt w' W0 g gr g2 gm rep R x := by
  obtain ⟨at_, arr, hr⟩ := h.ring
  exact ⟨h.blk.only hO h1, ⟨at_, arr, hr.only hO h2 h3⟩, h.new.trans' hO (fun y hy => .inr (h4 y hy)), h.ge, h.h3⟩
theorem DecAt.only0 (h : DecAt w W0 g gr g2 gm rep R x) (hO : Only [] w w') : DecAt w' W0 g gr g2 gm rep R x := h.only hO (by simp) (by simp) (by simp) (by simp)
end
section
variable (w W0 : World) (g gr g2 gm : Nat) (rep : Bool) (R : Nat) (x : DkS) (hD : DecAt w W0 g gr g2 gm rep R x)
include hD
set_option maxHeartbeats 1000000 in
theorem dkHeld_any : Calls Tryd.prog 25 #[.pointer (some ⟨g, 0, none⟩)] w fun e w' => e = .returned (.int .i64 (x.held.size : Int)) ∧ w = w' := by
  have c3 : w.cell? ⟨g, 3, none⟩ = some (.string x.held) := hD.blk.cell 3
  go_enter Tryd.func25, Tryd.ntmps25
  go_wp2_with (fail)
  go_ret
  exact ⟨rfl, rfl⟩
set_option maxHeartbeats 1000000 in
theorem dkWait_any : Calls Tryd.prog 20 #[.pointer (some ⟨g, 0, none⟩)] w fun e w' => e = .returned (.int .i64 (x.ring.length : Int)) ∧ w = w' := by
  have c1 : w.cell? ⟨g, 1, none⟩ = some (.pointer (some ⟨gr, 0, none⟩)) := hD.blk.cell 1
  obtain ⟨at_, arr, hr⟩ := hD.ring
  have r2 : w.cell? ⟨gr, 2, none⟩ = some (.int .i64 (x.ring.length : Int)) := hr.1.cell 2
  go_enter Tryd.func20, Tryd.ntmps20
  go_wp2_with (fail)
  refine (ringLen_any gr _ w r2).mono ?_
  rintro e w1 ⟨rfl, rfl⟩
  go_wp2_with (fail)
  go_ret
  exact ⟨rfl, rfl⟩
/-- 3: an unknown id; 1: done; 0: it goes on -/
def statS (x : DkS) : Nat := if x.met then 3 else if x.flushed = true ∧ x.held = .empty ∧ x.ring = [] then 1 else 0
set_option maxHeartbeats 2000000 in
theorem dkStatus_any : Calls Tryd.prog 22 #[.pointer (some ⟨g, 0, none⟩)] w fun e w' => e = .returned (.int .i64 (statS x : Int)) ∧ w = w' := by
  have c1 : w.cell? ⟨g, 1, none⟩ = some (.pointer (some ⟨gr, 0, none⟩)) := hD.blk.cell 1
  have c3 : w.cell? ⟨g, 3, none⟩ = some (.string x.held) := hD.blk.cell 3
  have c4 : w.cell? ⟨g, 4, none⟩ = some (.bool x.met) := hD.blk.cell 4
  have c5 : w.cell? ⟨g, 5, none⟩ = some (.bool x.flushed) := hD.blk.cell 5
  obtain ⟨at_, arr, hr⟩ := hD.ring
  have r2 : w.cell? ⟨gr, 2, none⟩ = some (.int .i64 (x.ring.length : Int)) := hr.1.cell 2
  obtain ⟨held, ring, met, flushed⟩ := x
  simp only at c3 c4 c5 r2 ⊢
  unfold statS
  simp only
  clear hr hD
  go_enter Tryd.func22, Tryd.ntmps22
  cases met
  · cases flushed
    · go_wp2_with (fail)
      go_ret
      exact ⟨by simp, rfl⟩
    · by_cases hh : held = .empty
      · subst hh
        go_wp2_with (fail)
        refine (ringLen_any gr _ w r2).mono ?_
        rintro e w1 ⟨rfl, rfl⟩
        by_cases hq : ring = []
        · subst hq
          go_wp2_with (fail)
          go_ret
          exact ⟨by simp, rfl⟩
        · have hl : ¬ ((ring.length : Int) = 0) := by
            have := List.length_pos_iff.2 hq; omega
          go_wp2_with (fail)
          go_ret
          exact ⟨by simp [hq], rfl⟩
      · have hne : ¬ held.toList = [] := by
          rw [Lib.toList_data]
          intro h
          exact hh (ByteArray.ext (Array.toList_inj.1 h))
        go_wp2_with (fail)
        go_ret
        exact ⟨by simp [hh], rfl⟩
  · go_wp2_with (fail)
    go_ret
    exact ⟨by simp, rfl⟩
end
end Go.Proofs.YtemnanhoiacphaaDoor

set_option linter.unusedVariables false
set_option linter.unusedSimpArgs false
set_option maxRecDepth 100000
namespace Go.Proofs.YtemnanhoiacphaaDoor
open Go.RowKit

theorem conv_only (w : World) (e : TypeId) (s : ByteArray) : Only [] w (Lib.bytesWorld w e s) :=
  ⟨rfl, rfl, rfl, by rw [Lib.bytesWorld_size]; omega, fun k hk _ => Lib.bytesWorld_at_old w e s k hk⟩
theorem conv_rd (w : World) (e : TypeId) (s : ByteArray) : Rd (Lib.bytesWorld w e s) (w.heap.size + 1) 1 (some ⟨w.heap.size, 0, none⟩) s.size (bvs s.data.toList) := by
  refine ⟨by rw [bvs_length, ← Lib.size_eq, Nat.mul_one], fun _ => ⟨⟨w.heap.size, 0, none⟩, rfl, by simp, by rw [Lib.bytesWorld_size]; simp, rfl, fun j u hj => ?_⟩⟩
  have hjs : j < s.size := by
    have := (List.getElem?_eq_some_iff.1 hj).1
    rw [bvs_length, ← Lib.size_eq] at this; exact this
  have h := Lib.bytesWorld_cell w e s j hjs
  have ha : (⟨w.heap.size, 0, none⟩ : Addr).add j = ⟨w.heap.size, j, none⟩ := by
    simp only [Addr.add]
    split
    · rename_i h0; rw [h0]
    · simp
  rw [ha, h, ← hj]
  simp only [bvs, List.getElem?_map, bv]
  have hl : j < s.data.toList.length := by rw [← Lib.size_eq]; exact hjs
  rw [List.getElem?_eq_getElem hl]
  simp [List.getD, List.getElem?_eq_getElem hl, bv]
theorem meth_exact (w : World) : (method 293 89 (.agg #[]) "tessera/detok.emitted").run Tryd.prog w = .ok (118, .agg #[]) w := by kernel_rfl
theorem meth_clean (w : World) : (method 293 94 (.agg #[]) "tessera/detok.emitted").run Tryd.prog w = .ok (119, .agg #[]) w := by kernel_rfl
/-- more bytes in the ring -/
def putS (x : DkS) (e : List UInt8) : DkS := { x with ring := x.ring ++ e }
theorem replF_le (s : ByteArray) : ∀ (f p : Nat), (replF s f p).length ≤ 4 * f
  | 0, p => by simp [replF]
  | f + 1, p => by
    unfold replF
    split
    · rw [List.length_append]
      have h1 := out_le s p
      have h2 := replF_le s f (p + skipS s p)
      omega
    · simp
theorem emS_len (rep : Bool) (s : ByteArray) (hs : s.size ≤ 1000) : (emS rep s).length ≤ 4000 := by
  unfold emS
  split
  · have := replF_le s s.size 0
    unfold replS; omega
  · rw [← Lib.size_eq]; omega
set_option maxHeartbeats 1000000 in
theorem exact_any (s : ByteArray) (w : World) : Calls Tryd.prog 118 #[.agg #[], .string s] w fun e w' => e = .returned (.string ⟨(emS false s).toArray⟩) ∧ Only [] w w' := by
  have e1 : (⟨(emS false s).toArray⟩ : ByteArray) = s := by apply ByteArray.ext; simp [emS]
  rw [e1]
  go_enter Tryd.func118, Tryd.ntmps118
  go_wp2_with (fail)
  go_ret
  exact ⟨rfl, (Only.refl _ _).alloc _⟩
set_option maxHeartbeats 1000000 in
theorem clean_any (s : ByteArray) (hs : s.size ≤ 1000) (w : World) (hT : Tabs w) : Calls Tryd.prog 119 #[.agg #[], .string s] w fun e w' => e = .returned (.string ⟨(emS true s).toArray⟩) ∧ Only [] w w' := by
  have e1 : emS true s = replS s := rfl
  rw [e1]
  obtain ⟨W1, hW1⟩ : ∃ W1, W1 = w.alloc (.cells #[] 94) := ⟨_, rfl⟩
  have hO : Only [] w W1 := by rw [hW1]; exact (Only.refl _ _).alloc _
  have hT1 := hT.only hO (by simp) (by simp)
  have HW := Lib.hid hW1
  clear hW1
  go_enter Tryd.func119, Tryd.ntmps119
  go_wp2_with (fail)
  rw [← HW.out]
  refine (replace_any' s (by omega) W1 hT1).mono ?_
  rintro e w2 ⟨rfl, hO2⟩
  go_wp2_with (fail)
  go_ret
  exact ⟨rfl, hO.trans hO2⟩
section
variable (w W0 : World) (g gr g2 gm : Nat) (rep : Bool) (R : Nat) (x : DkS) (hD : DecAt w W0 g gr g2 gm rep R x) (hT : Tabs W0)
include hD hT
theorem DecAt.tabs : Tabs w := hT.only hD.new (by simp) (by simp)
set_option maxHeartbeats 4000000 in
theorem emit_any' (s : ByteArray) (hs : s.size ≤ 1000) : Calls Tryd.prog 40 #[.pointer (some ⟨g, 0, none⟩), .string s] w fun e w' => Only [gr, g2] w w' ∧
    (((emS rep s).length ≤ R - x.ring.length ∧ e = .returned (.bool true) ∧ DecAt w' W0 g gr g2 gm rep R (putS x (emS rep s))) ∨ (¬ (emS rep s).length ≤ R - x.ring.length ∧ e = .returned (.bool false) ∧ DecAt w' W0 g gr g2 gm rep R x)) := by
  have hTw : Tabs w := hT.only hD.new (by simp) (by simp)
  have c1 : w.cell? ⟨g, 1, none⟩ = some (.pointer (some ⟨gr, 0, none⟩)) := hD.blk.cell 1
  have c2 : w.cell? ⟨g, 2, none⟩ = some (modeV rep) := hD.blk.cell 2
  have hel := emS_len rep s hs
  -- what is emitted, and the world behind it
  obtain ⟨E, hE⟩ : ∃ E : ByteArray, E = ⟨(emS rep s).toArray⟩ := ⟨_, rfl⟩
  have hEl : E.data.toList = emS rep s := by rw [hE]
  have hEs : E.size = (emS rep s).length := by rw [Lib.size_eq, hEl]
  unfold modeV at c2
  go_enter Tryd.func40, Tryd.ntmps40
  obtain ⟨at_, arr, hr⟩ := hD.ring
  obtain ⟨ql, hql⟩ : ∃ n, n = x.ring.length := ⟨_, rfl⟩
  have hrR := hr.2.2.2.2.1
  have hqR : ql ≤ R := by rw [hql]; exact hr.2.2.2.2.2.2.1
  obtain ⟨el, hel'⟩ : ∃ n, n = (emS rep s).length := ⟨_, rfl⟩
  rw [← hel'] at hEs hel
  rw [← hel', ← hql]
  have Hel := Lib.hid hel'
  have Hql := Lib.hid hql
  have HEl := Lib.hid hEl
  have HR := Lib.hid hr
  have HD := Lib.hid hD
  have HE := Lib.hid hE
  have HT := Lib.hid hTw
  clear hr hql hel' hEl hD hTw hE
  have hcall : ∀ K, (∀ w1, Only [] w w1 → K (.returned (.string E)) w1) → (rep = false → Calls Tryd.prog 118 #[.agg #[], .string s] w K) ∧ (rep = true → Calls Tryd.prog 119 #[.agg #[], .string s] w K) := by
    intro K hK
    constructor
    · rintro rfl
      refine (exact_any s w).mono ?_
      rintro e w1 ⟨rfl, hO1⟩
      rw [← HE.out]; exact hK w1 hO1
    · rintro rfl
      refine (clean_any s hs w HT.out).mono ?_
      rintro e w1 ⟨rfl, hO1⟩
      rw [← HE.out]; exact hK w1 hO1
  have Hcall := Lib.hid hcall
  clear hcall
  have c2' : (rep = false ∧ w.cell? ⟨g, 2, none⟩ = some (.iface 89 (.agg #[]))) ∨ (rep = true ∧ w.cell? ⟨g, 2, none⟩ = some (.iface 94 (.agg #[]))) := by
    cases rep
    · exact .inl ⟨rfl, c2⟩
    · exact .inr ⟨rfl, c2⟩
  clear c2
  rcases c2' with ⟨hrep, c2⟩ | ⟨hrep, c2⟩
  all_goals
   have Hrep := Lib.hid hrep
   clear hrep
   go_wp2_with (fail)
   first | rw [meth_exact] | rw [meth_clean]
   go_wp2_with (fail)
   first | refine (Hcall.out _ ?_).1 Hrep.out | refine (Hcall.out _ ?_).2 Hrep.out
   intro w1 hO1
   have hD1 := HD.out.only0 hO1
   have hr1 := HR.out.only hO1 (by simp) (by simp)
   have b0 : w1.cell? ⟨gr, 0, none⟩ = some (.slice (some ⟨g2, 0, none⟩) R R) := hr1.1.cell 0
   have b2 : w1.cell? ⟨gr, 2, none⟩ = some (.int .i64 (ql : Int)) := by rw [Hql.out]; exact hr1.1.cell 2
   have c1' : w1.cell? ⟨g, 1, none⟩ = some (.pointer (some ⟨gr, 0, none⟩)) := hD1.blk.cell 1
   have HD1 := Lib.hid hD1
   have HR1 := Lib.hid hr1
   clear c2 hD1 hr1 c1
   go_wp2_with (fail)
   refine (ringRoom_any gr _ R R ql w1 b0 b2 hrR hqR).mono ?_
   rintro e w2 ⟨rfl, k, hw2⟩
   have hO2 : Only [] w1 w2 := by rw [hw2]; exact (Only.refl _ _).drewN _
   clear hw2
   have c1 : w2.cell? ⟨g, 1, none⟩ = some (.pointer (some ⟨gr, 0, none⟩)) := hO2.cellv c1' (by simp)
   have HO12 := Lib.hid (hO1.trans hO2)
   have HD2 := Lib.hid (HD1.out.only0 hO2)
   have HR2 := Lib.hid (HR1.out.only hO2 (by simp) (by simp))
   clear b0 b2 c1' hO1 hO2
   by_cases hfit : el ≤ R - ql
   · have hfi : ¬ ((R - ql : Nat) : Int) < (el : Int) := by omega
     have hcv := Lib.run_convert_string_bytes (P := Tryd.prog) w2 9 41 5 E Tryd.underlying9 Tryd.underlying41 Tryd.underlying5
     rw [hEs] at hcv
     have hrd := conv_rd w2 5 E
     rw [hEs, HEl.out] at hrd
     have hco := conv_only w2 5 E
     obtain ⟨cp, hcp⟩ : ∃ c, c = grownCap w2 el 0 5 := ⟨_, rfl⟩
     have hcp' : el ≤ cp := by rw [hcp]; exact grownCap_ge _ _ _ _
     obtain ⟨W3, hW3⟩ : ∃ W, W = Lib.bytesWorld w2 5 E := ⟨_, rfl⟩
     rw [← hW3] at hcv hrd hco
     rw [← hcp] at hcv
     have HW3 := Lib.hid hW3
     have Hcp := Lib.hid hcp
     clear hW3 hcp
     have hmd : ∀ (ad : Addr), some (⟨w2.heap.size, 0, none⟩ : Addr) = some ad → 0 < el → ad.block ≠ g2 := by
       intro ad e1 _
       injection e1 with e1
       subst e1
       have := HR2.out.2.1.lt
       simp only; omega
     have hput := ringPut_any gr g2 R at_ el cp (some ⟨w2.heap.size, 0, none⟩) arr x.ring (emS rep s) W3 (HR2.out.only hco (by simp) (by simp)) _ hrd hmd hcp' (by omega)
     have Hput := Lib.hid hput
     have c1'' : W3.cell? ⟨g, 1, none⟩ = some (.pointer (some ⟨gr, 0, none⟩)) := hco.cellv c1 (by simp)
     have HD3 := Lib.hid (HD2.out.only0 hco)
     have HO3 := Lib.hid (HO12.out.trans hco)
     clear hput hrd hco hmd
     go_wp2_with (fail)
     refine Hput.out.mono ?_
     rintro e w4 ⟨arr', rfl, hR4, hO4⟩
     rw [List.take_of_length_le (by rw [← Hel.out, ← Hql.out]; exact hfit)] at hR4
     have hD3 := HD3.out
     have hne := hD3.ne
     have hD4 : DecAt w4 W0 g gr g2 gm rep R (putS x (emS rep s)) :=
       ⟨hD3.blk.only hO4 (by simp; exact ⟨hne.1, hne.2.1⟩), ⟨_, _, hR4⟩, hD3.new.trans' hO4 (by intro y hy; simp at hy; rcases hy with rfl | rfl <;> exact .inr (by have := hD3.ge; omega)), hD3.ge, hD3.h3⟩
     clear c1''
     go_wp2_with (fail)
     go_ret
     exact ⟨(HO3.out.mono (by simp)).trans hO4, .inl ⟨hfit, rfl, hD4⟩⟩
   · have hfi : ((R - ql : Nat) : Int) < (el : Int) := by omega
     go_wp2_with (fail)
     go_ret
     exact ⟨HO12.out.mono (by simp), .inr ⟨hfit, rfl, HD2.out⟩⟩
theorem emit_any (s : ByteArray) (hs : s.size ≤ 1000) : Calls Tryd.prog 40 #[.pointer (some ⟨g, 0, none⟩), .string s] w fun e w' => e = .returned (.bool (decide ((emS rep s).length ≤ R - x.ring.length))) ∧
    DecAt w' W0 g gr g2 gm rep R (if (emS rep s).length ≤ R - x.ring.length then putS x (emS rep s) else x) ∧ Only [gr, g2] w w' := by
  refine (emit_any' w W0 g gr g2 gm rep R x hD hT s hs).mono ?_
  rintro e w' ⟨hO, ⟨h, rfl, hd⟩ | ⟨h, rfl, hd⟩⟩
  · exact ⟨by rw [decide_eq_true h], by rw [if_pos h]; exact hd, hO⟩
  · exact ⟨by rw [decide_eq_false h], by rw [if_neg h]; exact hd, hO⟩
end
end Go.Proofs.YtemnanhoiacphaaDoor

set_option linter.unusedVariables false
set_option linter.unusedSimpArgs false
set_option maxRecDepth 100000
namespace Go.Proofs.YtemnanhoiacphaaDoor
open Go.RowKit

/-- what is held goes into the ring behind Flush, if there is room -/
def settleS (R : Nat) (rep : Bool) (x : DkS) : DkS := if x.flushed = true ∧ (emS rep x.held).length ≤ R - x.ring.length then ⟨.empty, x.ring ++ emS rep x.held, x.met, x.flushed⟩ else x
section
variable {w w' W0 : World} {g gr g2 gm : Nat} {rep : Bool} {R : Nat} {x : DkS}
/-- a cell of the detokeniser written -/
theorem DecAt.poke (h : DecAt w W0 g gr g2 gm rep R x) {y : DkS} (hO : Only [g] w w') (hb : Blk w' g 93 [.pointer (some ⟨gm, 0, none⟩), .pointer (some ⟨gr, 0, none⟩), modeV rep, .string y.held, .bool y.met, .bool y.flushed]) (hr : y.ring = x.ring) (h3 : y.held.size ≤ 3) : DecAt w' W0 g gr g2 gm rep R y := by
  obtain ⟨at_, arr, hR⟩ := h.ring
  have hne := h.ne
  exact ⟨hb, ⟨at_, arr, by rw [hr]; exact hR.only hO (by simp; exact Ne.symm hne.1) (by simp; exact Ne.symm hne.2.1)⟩, h.new.trans' hO (fun y hy => by simp at hy; subst hy; exact .inr h.ge.1), h.ge, h3⟩
end
section
variable (w W0 : World) (g gr g2 gm : Nat) (rep : Bool) (R : Nat) (x : DkS) (hD : DecAt w W0 g gr g2 gm rep R x) (hT : Tabs W0)
include hD hT
set_option maxHeartbeats 4000000 in
theorem settle_any : Calls Tryd.prog 42 #[.pointer (some ⟨g, 0, none⟩)] w fun e w' => e = .returned (.tuple #[]) ∧ DecAt w' W0 g gr g2 gm rep R (settleS R rep x) ∧ Only [g, gr, g2] w w' := by
  have c3 : w.cell? ⟨g, 3, none⟩ = some (.string x.held) := hD.blk.cell 3
  have c5 : w.cell? ⟨g, 5, none⟩ = some (.bool x.flushed) := hD.blk.cell 5
  have hem := emit_any' w W0 g gr g2 gm rep R x hD hT x.held (by have := hD.h3; omega)
  obtain ⟨y, hy⟩ : ∃ y, y = settleS R rep x := ⟨_, rfl⟩
  rw [← hy]
  have Hy := Lib.hid hy
  have HD := Lib.hid hD
  have Hem := Lib.hid hem
  clear hy
  obtain ⟨held, ring, met, flushed⟩ := x
  simp only at c3 c5 Hem
  clear hD hem
  go_enter Tryd.func42, Tryd.ntmps42
  cases flushed
  · go_wp2_with (fail)
    go_end0
    refine ⟨rfl, ?_, .refl _ _⟩
    rw [Hy.out]; unfold settleS; rw [if_neg (by simp)]; exact HD.out
  · go_wp2_with (fail)
    refine Hem.out.mono ?_
    rintro e w1 ⟨hO1, ⟨hf, rfl, hD1⟩ | ⟨hf, rfl, hD1⟩⟩
    · have f3 : w1.frozen? ⟨g, 3, none⟩ = false := hD1.blk.frozen 3
      have c3' : w1.cell? ⟨g, 3, none⟩ = some (.string held) := hD1.blk.cell 3
      have hS := fun u => (Only.refl [g] w1).setCell (p := ⟨g, 3, none⟩) (.inl (by simp)) u
      have hD2 := hD1.poke (y := ⟨.empty, ring ++ emS rep held, met, true⟩) (hS _) (hD1.blk.set 3 (.string .empty)) rfl (by simp)
      have hO2 := (hO1.mono (l' := [g, gr, g2]) (by intro y hy; simp at hy ⊢; omega)).trans ((hS (.string .empty)).mono (l' := [g, gr, g2]) (by simp))
      have HD2 := Lib.hid hD2
      have HO2 := Lib.hid hO2
      clear hD2 hO2 hS hD1
      go_wp2_with (fail)
      go_end0
      refine ⟨rfl, ?_, HO2.out⟩
      rw [Hy.out]; unfold settleS; rw [if_pos ⟨rfl, hf⟩]; exact HD2.out
    · clear c3
      go_wp2_with (fail)
      go_end0
      refine ⟨rfl, ?_, hO1.mono (by intro y hy; simp at hy ⊢; omega)⟩
      rw [Hy.out]; unfold settleS; rw [if_neg (fun h => hf h.2)]; exact hD1

/-- what a Read leaves -/
def dkReadS (R : Nat) (rep : Bool) (k : Int) (x : DkS) : DkS := settleS R rep { x with ring := x.ring.drop (min k.toNat x.ring.length) }
set_option maxHeartbeats 4000000 in
theorem dkRead_any (k : Int) : Calls Tryd.prog 13 #[.pointer (some ⟨g, 0, none⟩), .int .i64 k] w fun e w' => ∃ o, e = .returned (.tuple #[.slice (some ⟨o, 0, none⟩) (min k.toNat x.ring.length) (min k.toNat x.ring.length), .int .i64 (statS (dkReadS R rep k x) : Int)]) ∧
    w.heap.size ≤ o ∧ Blk w' o 5 (bvs (x.ring.take (min k.toNat x.ring.length))) ∧ DecAt w' W0 g gr g2 gm rep R (dkReadS R rep k x) ∧ Only [g, gr, g2] w w' := by
  have c1 : w.cell? ⟨g, 1, none⟩ = some (.pointer (some ⟨gr, 0, none⟩)) := hD.blk.cell 1
  obtain ⟨at_, arr, hR⟩ := hD.ring
  obtain ⟨m, hm⟩ : ∃ m, m = min k.toNat x.ring.length := ⟨_, rfl⟩
  have htk := ringTake_any gr g2 R at_ k arr x.ring w hR m hm
  obtain ⟨y, hy⟩ : ∃ y, y = dkReadS R rep k x := ⟨_, rfl⟩
  rw [← hm, ← hy]
  have hy2 : y = settleS R rep { x with ring := x.ring.drop m } := by rw [hy, hm]; rfl
  have Hy := Lib.hid hy2
  have HD := Lib.hid hD
  clear hy hy2
  have Htk := Lib.hid htk
  have hlt := hD.blk.lt
  have hlt1 := hR.1.lt
  have hlt2 := hR.2.1.lt
  clear hD htk hR hm
  go_enter Tryd.func13, Tryd.ntmps13
  go_wp2_with (fail)
  refine Htk.out.mono ?_
  rintro e w1 ⟨o, at', rfl, hwo, hbo, hR1, hO1⟩
  have hne := HD.out.ne
  have hD1 : DecAt w1 W0 g gr g2 gm rep R { x with ring := x.ring.drop m } :=
    ⟨HD.out.blk.only hO1 (by simp; exact hne.1), ⟨_, _, hR1⟩, HD.out.new.trans' hO1 (by intro y hy; simp at hy; subst hy; exact .inr HD.out.ge.2.1), HD.out.ge, HD.out.h3⟩
  clear c1
  go_wp2_with (fail)
  refine (settle_any w1 W0 g gr g2 gm rep R _ hD1 hT).mono ?_
  rintro e w2 ⟨rfl, hD2, hO2⟩
  rw [← Hy.out] at hD2
  have hbo2 := hbo.only hO2 (by simp; omega)
  go_wp2_with (fail)
  refine (dkStatus_any w2 W0 g gr g2 gm rep R _ hD2).mono ?_
  rintro e w3 ⟨rfl, rfl⟩
  go_wp2_with (fail)
  go_ret2
  exact ⟨o, rfl, hwo, hbo2, hD2, (hO1.mono (by intro y hy; simp at hy ⊢; omega)).trans hO2⟩

/-- what a Flush leaves -/
def dkFlushS (R : Nat) (rep : Bool) (x : DkS) : DkS := if x.flushed then x else settleS R rep { x with flushed := true }
set_option maxHeartbeats 4000000 in
theorem dkFlush_any : Calls Tryd.prog 23 #[.pointer (some ⟨g, 0, none⟩)] w fun e w' => e = .returned (.int .i64 (if x.flushed then 40 else 0)) ∧ DecAt w' W0 g gr g2 gm rep R (dkFlushS R rep x) ∧ Only [g, gr, g2] w w' := by
  have c5 : w.cell? ⟨g, 5, none⟩ = some (.bool x.flushed) := hD.blk.cell 5
  have f5 : w.frozen? ⟨g, 5, none⟩ = false := hD.blk.frozen 5
  obtain ⟨y, hy⟩ : ∃ y, y = dkFlushS R rep x := ⟨_, rfl⟩
  rw [← hy]
  have Hy := Lib.hid hy
  have HD := Lib.hid hD
  clear hy
  obtain ⟨held, ring, met, flushed⟩ := x
  simp only at c5
  clear hD
  go_enter Tryd.func23, Tryd.ntmps23
  cases flushed
  · have hS := fun u => (Only.refl [g] w).setCell (p := ⟨g, 5, none⟩) (.inl (by simp)) u
    have hD1 := HD.out.poke (y := ⟨held, ring, met, true⟩) (hS _) (HD.out.blk.set 5 (.bool true)) rfl HD.out.h3
    have HD1 := Lib.hid hD1
    have HO1 := Lib.hid (hS (.bool true))
    clear hD1 hS
    go_wp2_with (fail)
    refine (settle_any _ W0 g gr g2 gm rep R _ HD1.out hT).mono ?_
    rintro e w2 ⟨rfl, hD2, hO2⟩
    go_wp2_with (fail)
    go_ret
    exact ⟨by simp, by rw [Hy.out]; simpa [dkFlushS] using hD2, (HO1.out.mono (by simp)).trans hO2⟩
  · go_wp2_with (fail)
    go_ret
    exact ⟨by simp, by rw [Hy.out]; simpa [dkFlushS] using HD.out, .refl _ _⟩
end
end Go.Proofs.YtemnanhoiacphaaDoor

set_option linter.unusedVariables false
set_option linter.unusedSimpArgs false
set_option maxRecDepth 100000
namespace Go.Proofs.YtemnanhoiacphaaDoor
open Go.RowKit

def cutS (s : ByteArray) : Nat := s.size - tailU s
theorem tailFrom_le (s : ByteArray) : ∀ n, tailFrom s n ≤ n
  | 0 => by simp [tailFrom]
  | n + 1 => by
    unfold tailFrom
    split
    · omega
    · have := tailFrom_le s n; omega
theorem tailU_le (s : ByteArray) : tailU s ≤ 3 ∧ tailU s ≤ s.size := by
  have := tailFrom_le s (min 3 s.size)
  unfold tailU; omega
/-- one id more: nothing of it, where there is no room -/
def stepS (ws : List ByteArray) (rep : Bool) (R : Nat) (id : Int) (x : DkS) : Option DkS :=
  let s := x.held ++ wordB ws id
  let e := emS rep (s.extract 0 (cutS s))
  if e.length ≤ R - x.ring.length then some ⟨s.extract (cutS s) s.size, x.ring ++ e, x.met, x.flushed⟩ else none
/-- how many ids are taken, and what is then -/
def feedS (ws : List ByteArray) (rep : Bool) (R : Nat) : List Int → DkS → Nat × DkS
  | [], x => (0, x)
  | id :: l, x => if x.met = true ∨ isWord ws id = false then (0, { x with met := true }) else match stepS ws rep R id x with
    | none => (0, x)
    | some y => ((feedS ws rep R l y).1 + 1, (feedS ws rep R l y).2)
theorem slice_to (P : Program) (ty : TypeId) (hu : P.underlying ty = some .string) (s : ByteArray) (k : Nat) (hk : k ≤ s.size) (W : World) :
    (Instr.slice ty (.string s) none (some (.int .i64 (k : Int))) none).run P W = .ok (.string (s.extract 0 k)) W := by
  simp [Instr.slice, run_underlying hu, Instr.sliceBounds, run_sliceBound, hk]
theorem slice_from (P : Program) (ty : TypeId) (hu : P.underlying ty = some .string) (s : ByteArray) (k : Nat) (hk : k ≤ s.size) (W : World) :
    (Instr.slice ty (.string s) (some (.int .i64 (k : Int))) none none).run P W = .ok (.string (s.extract k s.size)) W := by
  simp [Instr.slice, run_underlying hu, Instr.sliceBounds, run_sliceBound, hk]
section
variable (w W0 : World) (g gr g2 gm : Nat) (rep : Bool) (R : Nat) (x : DkS) (hD : DecAt w W0 g gr g2 gm rep R x) (hT : Tabs W0)
variable (base : Nat) (ws : List ByteArray) (ms : List Mg) (a b d : List Sp) (N : Nat) (f : Int × Int → Option (Nat × Int)) (lg : Nat) (hM : MdAt W0 base gm ws ms a b d N f lg) (hw : ∀ s ∈ ws, s.size ≤ 256)
include hD hT hM hw
set_option maxHeartbeats 8000000 in
theorem dkFeed_any (A : Option Addr) (n c B : Nat) (l : List Int) (hl : l.length = n) (hn : n ≤ 9223372036854775807) (hR : Rd w B 1 A n (l.map (Value.int .i64))) (hB : B ≤ W0.heap.size ∨ ∀ ad, A = some ad → ad.block ≠ g ∧ ad.block ≠ gr ∧ ad.block ≠ g2) (h64 : ∀ i ∈ l, i64ok i) :
    Calls Tryd.prog 12 #[.pointer (some ⟨g, 0, none⟩), .slice A n c] w fun e w' => e = .returned (.tuple #[.int .i64 ((if x.flushed then 0 else (feedS ws rep R l x).1 : Nat) : Int), .int .i64 (if x.flushed then 40 else 0)]) ∧ DecAt w' W0 g gr g2 gm rep R (if x.flushed then x else (feedS ws rep R l x).2) ∧ Only [g, gr, g2] w w' := by
  have c5 : w.cell? ⟨g, 5, none⟩ = some (.bool x.flushed) := hD.blk.cell 5
  obtain ⟨FS, hFS⟩ : ∃ z, z = feedS ws rep R l x := ⟨_, rfl⟩
  rw [← hFS]
  have HFS := Lib.hid hFS
  clear hFS
  cases hfl : x.flushed with
  | true =>
    rw [hfl] at c5
    clear hR hM hT
    go_enter Tryd.func12, Tryd.ntmps12
    go_wp2_with (fail)
    go_ret2
    exact ⟨by simp, by simpa using hD, .refl _ _⟩
  | false =>
    rw [hfl] at c5
    have hsl : ∀ W, Only [g, gr, g2] w W → Rd W B 1 A n (l.map (Value.int .i64)) := by
      intro W hW
      rcases hB with h | h
      · exact hR.only hW (by intro y hy; simp at hy; have := hD.ge; omega)
      · refine ⟨hR.1, fun h0 => ?_⟩
        obtain ⟨ad, e1, e2, e3, e4, e5⟩ := hR.2 h0
        have := h ad e1
        refine ⟨ad, e1, e2, Nat.lt_of_lt_of_le e3 hW.size, e4, fun j u hj => hW.cellv (e5 j u hj) ?_⟩
        have hbl : (ad.add j).block = ad.block := by simp [Addr.add]; split <;> rfl
        rw [hbl]; simp; exact this
    have HSL := Lib.hid hsl
    have HL := Lib.hid hl
    have H64 := Lib.hid h64
    have HM := Lib.hid hM
    have HT := Lib.hid hT
    have Hw := Lib.hid hw
    have Hfl := Lib.hid hfl
    clear hsl hl h64 hM hT hw hfl hR hB
    go_enter Tryd.func12, Tryd.ntmps12
    go_wp2_with (fail)
    go_loopw [18] (fun vi wr => ∃ (k : Nat) (y : DkS), vi = .int .i64 (k : Int) ∧ k ≤ n ∧ FS = ((feedS ws rep R (l.drop k) y).1 + k, (feedS ws rep R (l.drop k) y).2) ∧ DecAt wr W0 g gr g2 gm rep R y ∧ Only [g, gr, g2] w wr) (fun vi _ => n - (intOf vi).toNat)
    case atStart => exact ⟨0, x, rfl, by omega, by rw [HFS.out]; rfl, hD, .refl _ _⟩
    case round =>
      clear hD c5
      obtain ⟨k, y, rfl, hk, hF, hD, hO⟩ := hrel
      have HF := Lib.hid hF
      have HO := Lib.hid hO
      have HD := Lib.hid hD
      clear hF hO
      by_cases hlt : k < n
      · obtain ⟨id, hid⟩ : ∃ id, l[k]? = some id := ⟨_, List.getElem?_eq_getElem (by rw [HL.out]; exact hlt)⟩
        obtain ⟨ga, oa, ua, rfl, _, hua, hca⟩ := (HSL.out _ HO.out).at1 hlt
        rw [List.getElem?_map, hid, Option.map_some] at hua
        obtain rfl : Value.int .i64 id = ua := by injection hua
        have hid64 := H64.out id (List.mem_of_getElem? hid)
        have hdr : l.drop k = id :: l.drop (k + 1) := drop_cons' hid
        have Hdr := Lib.hid hdr
        have c0 : wr.cell? ⟨g, 0, none⟩ = some (.pointer (some ⟨gm, 0, none⟩)) := hD.blk.cell 0
        have hk0 : (0 : Int) ≤ (k : Int) := by omega
        have hk1 : (k : Int) < (n : Int) := by omega
        clear hua hid hdr hD
        go_wp2_with (fail)
        refine (word_any wr base gm ws ms a b d N f lg (HM.out.only0 HD.out.new) id hid64).mono ?_
        rintro e w1 ⟨rfl, hO1⟩
        have hD1 := HD.out.only0 hO1
        have HD1 := Lib.hid hD1
        have c4 : w1.cell? ⟨g, 4, none⟩ = some (.bool y.met) := hD1.blk.cell 4
        have f4 : w1.frozen? ⟨g, 4, none⟩ = false := hD1.blk.frozen 4
        have HO1 := Lib.hid (HO.out.trans0 hO1)
        obtain ⟨wd, hwd⟩ : ∃ b, b = wordB ws id := ⟨_, rfl⟩
        have hwl : wd.size ≤ 256 := by rw [hwd]; exact wordB_size Hw.out id
        rw [← hwd]
        have Hwd := Lib.hid hwd
        clear hD1 hO1 c0 hca hwd
        by_cases hbad : y.met = true ∨ isWord ws id = false
        · have hS := (Only.refl [g] w1).setCell (p := ⟨g, 4, none⟩) (.inl (by simp)) (.bool true)
          have hD2 := HD1.out.poke (y := { y with met := true }) hS (HD1.out.blk.set 4 (.bool true)) rfl HD1.out.h3
          have HO2 := Lib.hid (HO1.out.trans (hS.mono (l' := [g, gr, g2]) (by simp)))
          have HD2 := Lib.hid hD2
          have hfs : FS = (k, { y with met := true }) := by
            rw [HF.out, Hdr.out]
            simp only [feedS, if_pos hbad, Nat.zero_add]
          have Hfs := Lib.hid hfs
          clear hS hD2 hfs
          by_cases hm : y.met = true
          · rw [hm] at c4
            clear hbad hm
            go_wp2_with (fail)
            go_ret2
            exact ⟨by rw [Hfs.out]; simp, by rw [Hfs.out]; simpa using HD2.out, HO2.out⟩
          · have hi : isWord ws id = false := by rcases hbad with h | h; exact absurd h hm; exact h
            have hm' : y.met = false := by simpa using hm
            rw [hm'] at c4
            rw [hi]
            clear hbad hm hm' hi
            go_wp2_with (fail)
            go_ret2
            exact ⟨by rw [Hfs.out]; simp, by rw [Hfs.out]; simpa using HD2.out, HO2.out⟩
        · have hm : y.met = false := by
            cases h : y.met with
            | true => exact absurd (.inl h) hbad
            | false => rfl
          have hi : isWord ws id = true := by
            cases h : isWord ws id with
            | true => rfl
            | false => exact absurd (.inr h) hbad
          have hS := (Only.refl [g] w1).setCell (p := ⟨g, 4, none⟩) (.inl (by simp)) (.bool false)
          have hD2 := HD1.out.poke (y := y) hS (by rw [hm]; exact HD1.out.blk.set 4 (.bool false)) rfl HD1.out.h3
          have hO2 := HO1.out.trans (hS.mono (l' := [g, gr, g2]) (by simp))
          obtain ⟨W2, hW2⟩ : ∃ W, W = w1.setCell ⟨g, 4, none⟩ (.bool false) := ⟨_, rfl⟩
          rw [← hW2] at hD2 hO2
          have c3 : W2.cell? ⟨g, 3, none⟩ = some (.string y.held) := hD2.blk.cell 3
          have HO2 := Lib.hid hO2
          have HD2 := Lib.hid hD2
          have h3 := hD2.h3
          have HW2 := Lib.hid hW2
          obtain ⟨s, hs⟩ : ∃ s, s = y.held ++ wd := ⟨_, rfl⟩
          have hsz : s.size ≤ 300 := by rw [hs, ByteArray.size_append]; omega
          have Hs := Lib.hid hs
          have hW2T : Tabs W2 := HT.out.only HD2.out.new (by simp) (by simp)
          have htl := tail_any s (by omega) W2 hW2T
          obtain ⟨t, ht⟩ : ∃ t, t = tailU s := ⟨_, rfl⟩
          have htle := tailU_le s
          rw [← ht] at htl htle
          have Ht := Lib.hid ht
          have Htl := Lib.hid htl
          have hfs : FS = match stepS ws rep R id y with | none => (k, y) | some z => ((feedS ws rep R (l.drop (k + 1)) z).1 + 1 + k, (feedS ws rep R (l.drop (k + 1)) z).2) := by
            rw [HF.out, Hdr.out]
            simp only [feedS, if_neg hbad]
            cases stepS ws rep R id y <;> simp
          have Hfs := Lib.hid hfs
          have Hm := Lib.hid hm
          rw [hm] at c4
          rw [hi]
          clear hO2 hS hD2 hfs hbad hi hm hs hW2 hW2T htl ht
          go_upto_region 10 with (fail)
          rw [← HW2.out]
          clear c4 f4
          go_upto_region 11 with (fail)
          rw [← Hs.out]
          clear c3
          go_wp2_with (fail)
          refine Htl.out.mono ?_
          rintro e w3 ⟨rfl, hO3⟩
          obtain ⟨q, hq⟩ : ∃ q, q = s.size - t := ⟨_, rfl⟩
          have hcut : cutS s = q := by rw [hq, Ht.out]; rfl
          have hwr : IntKind.i64.wrap ((s.size : Int) - (t : Int)) = (q : Int) := by rw [IntWalk.i64_in _ (by omega)]; omega
          have hD3 := HD2.out.only0 hO3
          obtain ⟨s1, hs1⟩ : ∃ z, z = s.extract 0 q := ⟨_, rfl⟩
          have hs1z : s1.size ≤ 1000 := by rw [hs1, ByteArray.size_extract]; omega
          have hsl1 := slice_to Tryd.prog 9 Tryd.underlying9 s q (by omega)
          rw [← hs1] at hsl1
          have hem := emit_any' w3 W0 g gr g2 gm rep R y hD3 HT.out s1 hs1z
          have Hem := Lib.hid hem
          have HD3 := Lib.hid hD3
          have HO3 := Lib.hid (HO2.out.trans0 hO3)
          have Hcut := Lib.hid hcut
          have Hs1 := Lib.hid hs1
          have Hq := Lib.hid hq
          clear hem hD3 hO3 hcut hs1 hq
          go_wp2_with (fail)
          refine Hem.out.mono ?_
          rintro e w4 ⟨hO4, ⟨hf, rfl, hD4⟩ | ⟨hf, rfl, hD4⟩⟩
          · have c3 : w4.cell? ⟨g, 3, none⟩ = some (.string y.held) := hD4.blk.cell 3
            have f3 : w4.frozen? ⟨g, 3, none⟩ = false := hD4.blk.frozen 3
            obtain ⟨s2, hs2⟩ : ∃ z, z = s.extract q s.size := ⟨_, rfl⟩
            have hsl2 := slice_from Tryd.prog 9 Tryd.underlying9 s q (by rw [Hq.out]; omega)
            rw [← hs2] at hsl2
            have hs2z : s2.size ≤ 3 := by rw [hs2, ByteArray.size_extract, Hq.out]; omega
            have hst : stepS ws rep R id y = some ⟨s2, y.ring ++ emS rep s1, y.met, y.flushed⟩ := by
              unfold stepS
              simp only
              rw [← Hwd.out, ← Hs.out, Hcut.out, ← Hs1.out, if_pos hf, hs2]
            have hS := (Only.refl [g] w4).setCell (p := ⟨g, 3, none⟩) (.inl (by simp)) (.string s2)
            have hD5 := hD4.poke (y := ⟨s2, y.ring ++ emS rep s1, y.met, y.flushed⟩) hS (hD4.blk.set 3 (.string s2)) rfl hs2z
            have HD5 := Lib.hid hD5
            have HO5 := Lib.hid (((HO3.out.trans (hO4.mono (l' := [g, gr, g2]) (by intro z hz; simp at hz ⊢; omega)))).trans (hS.mono (l' := [g, gr, g2]) (by simp)))
            have Hst := Lib.hid hst
            clear hs2 hst hS hD5 hD4 hO4 hsl1
            go_wp2_with (fail)
            go_roundw
            case rel =>
              refine ⟨k + 1, _, by go_num, by omega, ?_, HD5.out, HO5.out⟩
              rw [Hfs.out, Hst.out]
              simp only [Prod.mk.injEq, and_true]; omega
            case measure => simp [intOf]; omega
          · have hst : stepS ws rep R id y = none := by
              unfold stepS
              simp only
              rw [← Hwd.out, ← Hs.out, Hcut.out, ← Hs1.out, if_neg hf]
            have hfs2 : FS = (k, y) := by rw [Hfs.out, hst]
            have Hfs2 := Lib.hid hfs2
            clear hst hfs2 hsl1
            go_wp2_with (fail)
            go_ret2
            exact ⟨by rw [Hfs2.out]; simp, by rw [Hfs2.out]; simpa using hD4, HO3.out.trans (hO4.mono (l' := [g, gr, g2]) (by intro z hz; simp at hz ⊢; omega))⟩
      · obtain rfl : k = n := by omega
        have hfs : FS = (k, y) := by
          rw [HF.out, List.drop_eq_nil_of_le (by rw [HL.out]; exact Nat.le_refl _)]
          simp [feedS]
        have Hfs := Lib.hid hfs
        clear hfs hD
        go_wp2_with (fail)
        go_ret2
        exact ⟨by rw [Hfs.out]; simp, by rw [Hfs.out]; simpa using HD.out, HO.out⟩
end
end Go.Proofs.YtemnanhoiacphaaDoor
