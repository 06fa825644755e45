/- Chapter 6: the law's bare, known. -/
import Derived.Test.YtgohinklnglgeaaDoorPk13
import Derived.Test.YtgohinklnglgeaaDoorFi19K
import Derived.Test.YtgohinklnglgeaaDoorFi2K
import Derived.Test.YtgohinklnglgeaaDoorPk18
import Derived.Test.YtgohinklnglgeaaDoorLaidGK
set_option linter.unusedVariables false
set_option linter.unusedSimpArgs false
namespace Go.Proofs.YtgohinklnglgeaaDoor
open Go.RowKit
attribute [local go_sem] Oper.semAt_some

def blankF : List Sp := [(32, 32)]
def bareF : List UInt8 := saveF [] [] [] [] blankF
theorem bareF_fault : faultW [] [] [] [] blankF = (0, 0, 0) := by decide
theorem bareF_ok : OkD [] [] [] [] blankF := fault_ok (by rw [bareF_fault])
theorem bareF_length : bareF.length = 32 := by
  unfold bareF saveF bodyF
  simp only [List.length_append, be4_length, List.length_cons, List.length_nil]
  rfl
theorem bareF_load : loadE bareF = none ∧ pWs bareF = [] ∧ pMs bareF = [] ∧ pAs bareF = [] ∧ pBs bareF = [] ∧ pDs bareF = blankF :=
  load_save (by rw [bareF_fault]) (by have := bareF_length; unfold bareF at this; omega)
set_option maxRecDepth 100000 in
set_option maxHeartbeats 4000000 in
theorem fiBare_any (w : World) : Calls Tryd.prog 9 #[] w fun e w' => Ex fun v => e = .returned v ∧ BRow w.heap.size w' v bareF ∧ Only [] w w' := by
  obtain ⟨h, hh⟩ : ∃ h, h = w.heap.size := ⟨_, rfl⟩
  obtain ⟨W1, hW1⟩ : ∃ W1, W1 = w.alloc (.cells #[.int .i32 32, .int .i32 32] 70) := ⟨_, rfl⟩
  have hs : Blk W1 h 70 (ses blankF) := by rw [hW1]; exact Blk.new' _ _ _ hh.symm rfl
  have hO : Only [] w W1 := by rw [hW1]; exact (Only.refl _ _).alloc _
  have hbr := bare_any W1 none none (some ⟨h, 0, none⟩) 0 0 1 [] [] blankF (Nat.le_refl _) (Nat.le_refl _) (Nat.le_refl _) (Rd.zero _ _ _ _) (Rd.zero _ _ _ _) ((Rd.whole (t := 70) hs rfl).more hs.lt) (by decide) (by decide) (by decide)
  unfold NewPost at hbr
  rw [bareF_fault] at hbr
  simp only [List.length_nil, show blankF.length = 1 from rfl] at hbr
  have Hbr := Lib.hid hbr
  have Hh := Lib.hid hh
  have HW := Lib.hid hW1
  have HO := Lib.hid hO
  clear hbr hh hW1 hs hO
  go_enter Tryd.func9, Tryd.ntmps9
  go_wp2_with (fail)
  rw [← Hh.out, ← HW.out]
  refine Hbr.out.mono ?_
  rintro e W2 ⟨v, rfl, hO2, ⟨-, gm, base, hb, rfl, hM⟩ | ⟨h0, -⟩⟩
  · obtain ⟨W3, hW3⟩ : ∃ W3, W3 = W2.alloc (.cells #[.int .i64 0, .int .i64 0, .int .i64 0] 66) := ⟨_, rfl⟩
    have hO3 : Only [] W2 W3 := by rw [hW3]; exact (Only.refl _ _).alloc _
    have Hsv := Lib.hid (save_any W3 base gm [] [] [] [] blankF _ _ _ (hM.only0 hO3) bareF_ok)
    have HW3 := Lib.hid hW3
    have HO3 := Lib.hid ((HO.out.trans hO2).trans hO3)
    clear hW3 hM hO2 hO3 hb
    simp only
    go_wp2_with (fail)
    rw [← HW3.out]
    refine Hsv.out.mono ?_
    rintro e W4 ⟨v4, rfl, hB, hO4⟩
    have H4 := Lib.hid (And.intro hB hO4)
    clear hB hO4
    go_wp2_with (fail)
    go_ret
    exact ⟨_, rfl, own_base H4.out.1 HO3.out.size, HO3.out.trans H4.out.2⟩
  · exact absurd rfl h0
def bpx : List UInt8 := [66, 80, 88, 49]
theorem bpx_load : loadE bpx = some (2, 11) := loadE_magic (by simp [bpx]) (by decide)
theorem nilEq (w : World) : (binOp .eql 27 .nilIface .nilIface).run Tryd.prog w = .ok (.bool true) w := by
  have h : ∀ d : Nat, (Op.equalIn (d + 1) 27 .nilIface .nilIface).run Tryd.prog w = .ok true w := fun d => by simp [Op.equalIn, run_underlying Tryd.underlying27]
  have h2 : (Op.equal 27 .nilIface .nilIface).run Tryd.prog w = .ok true w := h 9999
  simp [binOp, h2]
theorem nilNe (w : World) : (binOp .neq 27 .nilIface .nilIface).run Tryd.prog w = .ok (.bool false) w := by
  have h : ∀ d : Nat, (Op.equalIn (d + 1) 27 .nilIface .nilIface).run Tryd.prog w = .ok true w := fun d => by simp [Op.equalIn, run_underlying Tryd.underlying27]
  have h2 : (Op.equal 27 .nilIface .nilIface).run Tryd.prog w = .ok true w := h 9999
  simp [binOp, h2]
theorem refEq (t : TypeId) (v : Value) (w : World) : (binOp .eql 27 (.iface t v) .nilIface).run Tryd.prog w = .ok (.bool false) w := by
  have h : ∀ d : Nat, (Op.equalIn (d + 1) 27 (.iface t v) .nilIface).run Tryd.prog w = .ok false w := fun d => by simp [Op.equalIn, run_underlying Tryd.underlying27]
  have h2 : (Op.equal 27 (.iface t v) .nilIface).run Tryd.prog w = .ok false w := h 9999
  simp [binOp, h2]
theorem refNe (t : TypeId) (v : Value) (w : World) : (binOp .neq 27 (.iface t v) .nilIface).run Tryd.prog w = .ok (.bool true) w := by
  have h : ∀ d : Nat, (Op.equalIn (d + 1) 27 (.iface t v) .nilIface).run Tryd.prog w = .ok false w := fun d => by simp [Op.equalIn, run_underlying Tryd.underlying27]
  have h2 : (Op.equal 27 (.iface t v) .nilIface).run Tryd.prog w = .ok false w := h 9999
  simp [binOp, h2]
set_option maxRecDepth 100000 in
set_option maxHeartbeats 8000000 in
theorem known6_any (w : World) (hT : Tabs w) : Calls Tryd.prog 13 #[] w fun e w' => e = .returned (.bool true) ∧ Only [] w w' := by
  have kc := fun (w : World) (C : Array Value) (n c : Nat) => Lib.run_convert_bytes_const (P := Tryd.prog) w 22 5 C n c Tryd.underlying22 Tryd.underlying5
  have HT := Lib.hid hT
  clear hT
  go_enter Tryd.func13, Tryd.ntmps13
  go_wp2_with (fail)
  refine (fiBare_any w).mono ?_
  rintro e w1 ⟨v, rfl, hB, hO1⟩
  have hlen := bareF_length
  unfold BRow at hB
  rw [hlen] at hB
  obtain ⟨A, c, rfl, hc, hR, -⟩ := own_slice hB
  have Hl := Lib.hid (load_any w1 A 32 c bareF hlen hR (by omega) hc)
  have HO1 := Lib.hid hO1
  clear hB hlen hR hO1
  go_wp2_with (fail)
  refine Hl.out.mono ?_
  intro e w2 hpost
  obtain ⟨hO2, ⟨a, y, b, h0, -⟩ | ⟨-, g, base, hbase, rfl, hM⟩⟩ := hpost
  · rw [bareF_load.1] at h0; cases h0
  · obtain ⟨-, e1, e2, e3, e4, e5⟩ := bareF_load
    rw [e1, e2, e3, e4, e5] at hM
    have HM := Lib.hid hM
    have HO2 := Lib.hid (HO1.out.trans hO2)
    obtain ⟨gz, hgz⟩ : ∃ z, z = w2.heap.size := ⟨_, rfl⟩
    have Hl2 := Lib.hid (fun m => load_any (w2.alloc (.cells #[.int .u8 66, .int .u8 80, .int .u8 88, .int .u8 49] 5 m)) (some ⟨gz, 0, none⟩) 4 4 bpx rfl (by exact rd_lit w2 5 bpx m gz hgz.symm _ rfl _ (by simp [hgz])) (by omega) (by omega))
    have Hgz := Lib.hid hgz
    clear e1 e2 e3 e4 e5 hM hO2 Hl hbase hgz
    go_wp2_with (fail)
    rw [← Hgz.out]
    refine (Hl2.out _).mono ?_
    intro e w3 hpost
    obtain ⟨hO3, ⟨a, y, b, h0, hb, rfl, hBk⟩ | ⟨h0, -⟩⟩ := hpost
    · rw [bpx_load] at h0
      have ha : a = 2 := by simpa using (congrArg (fun z => (z.getD (0,0)).1) h0).symm
      have hy : y = 11 := by simpa using (congrArg (fun z => (z.getD (0,0)).2) h0).symm
      subst ha hy
      have hO23 : Only [] w2 w3 := ((Only.refl [] w2).alloc _).trans hO3
      have hO03 := HO2.out.trans hO23
      have Hsz := Lib.hid (size_any w3 base g [] [] [] [] blankF _ _ _ (HM.out.only0 hO23))
      have Hrf := Lib.hid (refused_some b 2 11 (by omega) (by omega) (by omega) w3 hBk (fun W hW => HT.out.only (hO03.trans hW)))
      have HO3 := Lib.hid hO03
      have hne := nilEq
      clear h0 hO3 hO23 hO03 hBk hb kc Hl2
      go_wp2_with (fail)
      refine Hsz.out.mono ?_
      rintro e w4 ⟨rfl, rfl⟩
      go_wp2_with (fail)
      refine Hrf.out.mono ?_
      rintro e w5 ⟨rfl, hO5⟩
      have HO5 := Lib.hid hO5
      clear hO5
      go_wp2_with (fail)
      go_ret
      exact ⟨rfl, HO3.out.trans HO5.out⟩
    · rw [bpx_load] at h0; cases h0
end Go.Proofs.YtgohinklnglgeaaDoor
