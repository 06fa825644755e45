/- Several texts in one: The document's detokeniser (tesseraref17.World).; The document's Feed. -/
import Derived.Test.YtemnanhoiacphaaDoorPk17
import Derived.Test.YtemnanhoiacphaaDoorUtfZK
import Derived.Test.YtemnanhoiacphaaDoorPk4
import Derived.Test.YtemnanhoiacphaaDoorPk14
set_option linter.unusedVariables false
set_option linter.unusedSimpArgs false
set_option maxRecDepth 100000
namespace Go.Proofs.YtemnanhoiacphaaDoor
open Go.RowKit

structure RefAt (w : World) (q : Nat) (v0 v1 v2 v3 v4 : Value) (rep : Bool) (R : Nat) (x : DkS) : Prop where
  blk : Blk w q 66 [v0, v1, v2, v3, v4, .int .i64 (R : Int), .bool rep, .string x.held, .string (str x.ring), .bool x.met, .bool x.flushed]
  h3 : x.held.size ≤ 3
  le : x.ring.length ≤ R
  hR : R ≤ 1048576

theorem str_app (a b : List UInt8) : str a ++ str b = str (a ++ b) := by
  apply ByteArray.ext
  rw [ByteArray.data_append]
  simp [str]
theorem str_em (s : ByteArray) : str (emS false s) = s := by apply ByteArray.ext; simp [emS, str]
section
variable {w w' : World} {q : Nat} {v0 v1 v2 v3 v4 : Value} {rep : Bool} {R : Nat} {x : DkS}
theorem RefAt.only (h : RefAt w q v0 v1 v2 v3 v4 rep R x) {l : List Nat} (hO : Only l w w') (hq : q ∉ l) : RefAt w' q v0 v1 v2 v3 v4 rep R x := ⟨h.blk.only hO hq, h.h3, h.le, h.hR⟩
end
section
variable (w : World) (q : Nat) (v0 v1 v2 v3 v4 : Value) (rep : Bool) (R : Nat) (x : DkS) (hD : RefAt w q v0 v1 v2 v3 v4 rep R x)
include hD
set_option maxHeartbeats 2000000 in
theorem refOut_any (s : ByteArray) (hs : s.size ≤ 1048576) : Calls Tryd.prog 56 #[.pointer (some ⟨q, 0, none⟩), .string s] w fun e w' => e = .returned (.string (str (emS rep s))) ∧ Only [] w w' := by
  have c6 : w.cell? ⟨q, 6, none⟩ = some (.bool rep) := hD.blk.cell 6
  clear hD
  cases rep
  · rw [str_em]
    go_enter Tryd.func56, Tryd.ntmps56
    go_wp2_with (fail)
    go_ret
    exact ⟨rfl, .refl _ _⟩
  · have e : str (emS true s) = (⟨(replS s).toArray⟩ : ByteArray) := rfl
    rw [e]
    go_enter Tryd.func56, Tryd.ntmps56
    go_wp2_with (fail)
    refine (refReplace_any s hs w).mono ?_
    rintro e w1 ⟨rfl, hO⟩
    go_wp2_with (fail)
    go_ret
    exact ⟨rfl, hO⟩
set_option maxHeartbeats 4000000 in
theorem refLet_any : Calls Tryd.prog 57 #[.pointer (some ⟨q, 0, none⟩)] w fun e w' => e = .returned (.tuple #[]) ∧ RefAt w' q v0 v1 v2 v3 v4 rep R (settleS R rep x) ∧ Only [q] w w' := by
  have c7 : w.cell? ⟨q, 7, none⟩ = some (.string x.held) := hD.blk.cell 7
  have hou := refOut_any w q v0 v1 v2 v3 v4 rep R x hD x.held (by have := hD.h3; omega)
  have hle := hD.le
  have hRR := hD.hR
  have hel := emS_len rep x.held (by have := hD.h3; omega)
  obtain ⟨y, hy⟩ : ∃ y, y = settleS R rep x := ⟨_, rfl⟩
  rw [← hy]
  have Hy := Lib.hid hy
  have HD := Lib.hid hD
  have Hou := Lib.hid hou
  obtain ⟨E, hE⟩ : ∃ E, E = emS rep x.held := ⟨_, rfl⟩
  rw [← hE] at Hou hel
  have HE := Lib.hid hE
  clear hy hou hD hE
  obtain ⟨held, ring, met, flushed⟩ := x
  simp only at c7 hle Hou
  go_enter Tryd.func57, Tryd.ntmps57
  go_wp2_with (fail)
  refine Hou.out.mono ?_
  rintro e w1 ⟨rfl, hO1⟩
  have hD1 := HD.out.only hO1 (by simp)
  have HD1 := Lib.hid hD1
  have c5 : w1.cell? ⟨q, 5, none⟩ = some (.int .i64 (R : Int)) := hD1.blk.cell 5
  have c8 : w1.cell? ⟨q, 8, none⟩ = some (.string (str ring)) := hD1.blk.cell 8
  have c10 : w1.cell? ⟨q, 10, none⟩ = some (.bool flushed) := hD1.blk.cell 10
  have z1 : (str ring).size = ring.length := str_size _
  have z2 : (str E).size = E.length := str_size _
  obtain ⟨rl, hrl⟩ : ∃ n, n = ring.length := ⟨_, rfl⟩
  obtain ⟨el, hell⟩ : ∃ n, n = E.length := ⟨_, rfl⟩
  rw [← hrl] at z1 hle
  rw [← hell] at z2 hel
  have hsub : IntKind.i64.wrap ((R : Int) - (rl : Int)) = ((R - rl : Nat) : Int) := by rw [IntWalk.i64_in _ (by omega)]; omega
  have Hrl := Lib.hid hrl
  have Hel := Lib.hid hell
  clear hD1 c7 hrl hell
  cases flushed
  · go_wp2_with (fail)
    go_quiet (fail)
    go_wp2_with (fail)
    go_end0
    refine ⟨rfl, ?_, (hO1.mono (by simp)).drewN _⟩
    rw [Hy.out]; unfold settleS; rw [if_neg (by simp)]; exact HD1.out.only ((Only.refl [] _).drewN _) (by simp)
  · by_cases hf : el ≤ R - rl
    · have hfi : (el : Int) ≤ ((R - rl : Nat) : Int) := by omega
      go_wp2_with (fail)
      go_quiet (fail)
      have hD2 := HD1.out.only ((Only.refl [] w1).drewN nq) (by simp)
      have f8 : (w1.drewN nq).frozen? ⟨q, 8, none⟩ = false := hD2.blk.frozen 8
      have f7 : (w1.drewN nq).frozen? ⟨q, 7, none⟩ = false := hD2.blk.frozen 7
      have c8' : (w1.drewN nq).cell? ⟨q, 8, none⟩ = some (.string (str ring)) := hD2.blk.cell 8
      have c7' : (w1.drewN nq).cell? ⟨q, 7, none⟩ = some (.string held) := hD2.blk.cell 7
      have hb := (hD2.blk.set 8 (.string (str ring ++ str E))).set 7 (.string .empty)
      rw [str_app] at hb
      have Hb := Lib.hid hb
      have hsum : ¬ 9223372036854775807 < (str ring).size + (str E).size := by rw [z1, z2]; omega
      clear hD2 c8 c5 c10 hb
      go_wp2_with (fail)
      go_end0
      have hO3 := ((hO1.mono (l' := [q]) (by simp)).drewN nq)
      refine ⟨rfl, ?_, ?_⟩
      · rw [Hy.out]; unfold settleS
        rw [if_pos ⟨rfl, by rw [← HE.out, ← Hel.out, ← Hrl.out]; exact hf⟩, ← HE.out]
        refine ⟨?_, by simp, by simp only [List.length_append]; rw [← Hrl.out, ← Hel.out]; omega, hRR⟩
        have h := Hb.out
        rw [← str_app] at h
        exact h
      · exact (hO3.setCell (.inl (by simp)) _).setCell (.inl (by simp)) _
    · have hfi : ¬ (el : Int) ≤ ((R - rl : Nat) : Int) := by omega
      go_wp2_with (fail)
      go_quiet (fail)
      go_wp2_with (fail)
      go_end0
      refine ⟨rfl, ?_, (hO1.mono (by simp)).drewN _⟩
      rw [Hy.out]; unfold settleS
      rw [if_neg (fun h => hf (by rw [Hel.out, Hrl.out, HE.out]; exact h.2))]; exact HD1.out.only ((Only.refl [] _).drewN _) (by simp)
set_option maxHeartbeats 4000000 in
theorem refFlush_any : Calls Tryd.prog 32 #[.pointer (some ⟨q, 0, none⟩)] w fun e w' => e = .returned (.tuple #[]) ∧ RefAt w' q v0 v1 v2 v3 v4 rep R (settleS R rep { x with flushed := true }) ∧ Only [q] w w' := by
  have c10 : w.cell? ⟨q, 10, none⟩ = some (.bool x.flushed) := hD.blk.cell 10
  have f10 : w.frozen? ⟨q, 10, none⟩ = false := hD.blk.frozen 10
  have hS := (Only.refl [q] w).setCell (p := ⟨q, 10, none⟩) (.inl (by simp)) (.bool true)
  have hD1 : RefAt (w.setCell ⟨q, 10, none⟩ (.bool true)) q v0 v1 v2 v3 v4 rep R { x with flushed := true } := ⟨hD.blk.set 10 (.bool true), hD.h3, hD.le, hD.hR⟩
  have HD1 := Lib.hid hD1
  have HS := Lib.hid hS
  clear hD hD1 hS
  go_enter Tryd.func32, Tryd.ntmps32
  go_wp2_with (fail)
  refine (refLet_any _ q v0 v1 v2 v3 v4 rep R _ HD1.out).mono ?_
  rintro e w1 ⟨rfl, hD2, hO2⟩
  go_wp2_with (fail)
  go_end0
  exact ⟨rfl, hD2, HS.out.trans hO2⟩
set_option maxHeartbeats 4000000 in
theorem refStatus_any : Calls Tryd.prog 31 #[.pointer (some ⟨q, 0, none⟩)] w fun e w' => e = .returned (.int .i64 (statS x : Int)) ∧ w = w' := by
  have c7 : w.cell? ⟨q, 7, none⟩ = some (.string x.held) := hD.blk.cell 7
  have c8 : w.cell? ⟨q, 8, none⟩ = some (.string (str x.ring)) := hD.blk.cell 8
  have c9 : w.cell? ⟨q, 9, none⟩ = some (.bool x.met) := hD.blk.cell 9
  have c10 : w.cell? ⟨q, 10, none⟩ = some (.bool x.flushed) := hD.blk.cell 10
  obtain ⟨held, ring, met, flushed⟩ := x
  simp only at c7 c8 c9 c10 ⊢
  unfold statS
  simp only
  clear hD
  go_enter Tryd.func31, Tryd.ntmps31
  cases met
  · cases flushed
    · go_wp2_with (fail)
      go_ret
      exact ⟨by simp, rfl⟩
    · by_cases hh : held = .empty
      · subst hh
        by_cases hq : ring = []
        · subst hq
          have he : (str []).toList = [] := by rw [Lib.toList_data]; rfl
          go_wp2_with (fail)
          go_ret
          exact ⟨by simp, rfl⟩
        · have hne : ¬ (str ring).toList = [] := by
            rw [Lib.toList_data]
            simpa [str] using hq
          generalize str ring = t at c8 hne
          have hne2 : t.toList.isEmpty = false := by
            cases h : t.toList with
            | nil => exact absurd h hne
            | cons a l => rfl
          go_wp2_with (fail)
          go_ret
          exact ⟨by simp [hq], rfl⟩
      · have hne : ¬ held.toList = [] := by
          rw [Lib.toList_data]
          intro h
          exact hh (ByteArray.ext (Array.toList_inj.1 h))
        go_wp2_with (fail)
        go_ret
        exact ⟨by simp [hh], rfl⟩
  · go_wp2_with (fail)
    go_ret
    exact ⟨by simp, rfl⟩
set_option maxHeartbeats 4000000 in
theorem refRead_any (k : Int) (hk : i64ok k) : Calls Tryd.prog 30 #[.pointer (some ⟨q, 0, none⟩), .int .i64 k] w fun e w' => e = .returned (.string (str (x.ring.take (min k.toNat x.ring.length)))) ∧ RefAt w' q v0 v1 v2 v3 v4 rep R (dkReadS R rep k x) ∧ Only [q] w w' := by
  have c8 : w.cell? ⟨q, 8, none⟩ = some (.string (str x.ring)) := hD.blk.cell 8
  have f8 : w.frozen? ⟨q, 8, none⟩ = false := hD.blk.frozen 8
  obtain ⟨m, hm⟩ : ∃ m, m = min k.toNat x.ring.length := ⟨_, rfl⟩
  obtain ⟨y, hy⟩ : ∃ y, y = dkReadS R rep k x := ⟨_, rfl⟩
  rw [← hm, ← hy]
  have hy2 : y = settleS R rep { x with ring := x.ring.drop m } := by rw [hy, hm]; rfl
  have Hy := Lib.hid hy2
  obtain ⟨S, hS⟩ : ∃ S, S = str x.ring := ⟨_, rfl⟩
  have hSz : S.size = x.ring.length := by rw [hS]; exact str_size _
  obtain ⟨rl, hrl⟩ : ∃ n, n = x.ring.length := ⟨_, rfl⟩
  rw [← hrl] at hm hSz
  rw [← hS] at c8
  have hml : m ≤ rl := by omega
  have hle := hD.le
  have hRR := hD.hR
  rw [← hrl] at hle
  have hs1 := slice_to Tryd.prog 9 Tryd.underlying9 S m (by omega)
  have hs2 := slice_from Tryd.prog 9 Tryd.underlying9 S m (by omega)
  have e1 : S.extract 0 m = str (x.ring.take m) := by
    rw [hS]; apply ByteArray.ext; simp [str, ByteArray.data_extract]
  have e2 : S.extract m S.size = str (x.ring.drop m) := by
    rw [hSz, hrl, hS]; apply ByteArray.ext; apply Array.toList_inj.1
    rw [ByteArray.data_extract, Array.toList_extract, List.extract_eq_take_drop]
    simp only [str]
    rw [List.take_of_length_le (by rw [List.length_drop]; omega)]
  have E1 := Lib.hid e1
  have E2 := Lib.hid e2
  rw [e1] at hs1
  rw [e2] at hs2
  have hW := (Only.refl [q] w).setCell (p := ⟨q, 8, none⟩) (.inl (by simp)) (.string (str (x.ring.drop m)))
  have hD1 : RefAt (w.setCell ⟨q, 8, none⟩ (.string (str (x.ring.drop m)))) q v0 v1 v2 v3 v4 rep R { x with ring := x.ring.drop m } := ⟨hD.blk.set 8 _, hD.h3, by simp only [List.length_drop]; omega, hD.hR⟩
  have hlet := refLet_any _ q v0 v1 v2 v3 v4 rep R _ hD1
  rw [← hy2] at hlet
  have Hlet := Lib.hid hlet
  have HW := Lib.hid hW
  have Hm := Lib.hid hm
  clear hy hy2 hS e1 e2 hD1 hD hlet hW hm hrl
  obtain ⟨t1, ht1⟩ : ∃ t, t = str (x.ring.take m) := ⟨_, rfl⟩
  obtain ⟨t2, ht2⟩ : ∃ t, t = str (x.ring.drop m) := ⟨_, rfl⟩
  rw [← ht1] at hs1 E1
  rw [← ht2] at hs2 Hlet HW E2
  rw [← ht1]
  clear ht1 ht2
  obtain ⟨hk1, hk2⟩ := hk
  go_enter Tryd.func30, Tryd.ntmps30
  by_cases hneg : k < 0
  · have hm0 : m = 0 := by rw [Hm.out]; omega
    subst hm0
    have hz : ¬ ((rl : Int) < 0) := by omega
    have E3 := E2.out
    rw [hSz] at E3
    have E4 : ByteArray.empty = t1 := by rw [← E1.out]; apply ByteArray.ext; simp
    go_wp2_with (fail)
    try rw [E3]
    refine Hlet.out.mono ?_
    rintro e w1 ⟨rfl, hD2, hO2⟩
    go_wp2_with (fail)
    go_ret
    exact ⟨rfl, hD2, HW.out.trans hO2⟩
  · by_cases hbig : (rl : Int) < k
    · have hmr : m = rl := by rw [Hm.out]; omega
      subst hmr
      go_wp2_with (fail)
      refine Hlet.out.mono ?_
      rintro e w1 ⟨rfl, hD2, hO2⟩
      go_wp2_with (fail)
      go_ret
      exact ⟨rfl, hD2, HW.out.trans hO2⟩
    · have hmk : k = (m : Int) := by rw [Hm.out]; omega
      subst hmk
      go_wp2_with (fail)
      refine Hlet.out.mono ?_
      rintro e w1 ⟨rfl, hD2, hO2⟩
      go_wp2_with (fail)
      go_ret
      exact ⟨rfl, hD2, HW.out.trans hO2⟩
end
end Go.Proofs.YtemnanhoiacphaaDoor

set_option linter.unusedVariables false
set_option linter.unusedSimpArgs false
set_option maxRecDepth 100000
namespace Go.Proofs.YtemnanhoiacphaaDoor
open Go.RowKit

section
variable (w : World) (q : Nat) (v0 v1 v2 v3 v4 : Value) (rep : Bool) (R : Nat) (x : DkS) (hD : RefAt w q v0 v1 v2 v3 v4 rep R x)
variable (ws : List ByteArray) (ms : List Mg) (a b d : List Sp) (hR5 : Rd5 w v0 v1 v2 v3 v4 ws ms a b d) (s0 : ws.length ≤ 17592186043904) (hw : ∀ s ∈ ws, s.size ≤ 256) (W0 : World) (hW0 : Only [] W0 w) (hq0 : W0.heap.size ≤ q) (hR50 : Rd5 W0 v0 v1 v2 v3 v4 ws ms a b d)
include hD s0 hw hW0 hq0 hR50
set_option maxHeartbeats 8000000 in
theorem refFeed_any (A : Option Addr) (n c B : Nat) (l : List Int) (hl : l.length = n) (hn : n ≤ 9223372036854775807) (hR : Rd W0 B 1 A n (l.map (Value.int .i64))) (h64 : ∀ i ∈ l, i64ok i) :
    Calls Tryd.prog 29 #[.pointer (some ⟨q, 0, none⟩), .slice A n c] w fun e w' => e = .returned (.int .i64 ((feedS ws rep R l x).1 : Int)) ∧ RefAt w' q v0 v1 v2 v3 v4 rep R (feedS ws rep R l x).2 ∧ Only [q] w w' := by
  obtain ⟨FS, hFS⟩ : ∃ z, z = feedS ws rep R l x := ⟨_, rfl⟩
  rw [← hFS]
  have HFS := Lib.hid hFS
  have HL := Lib.hid hl
  have H64 := Lib.hid h64
  have HR5 := Lib.hid hR50
  have HR := Lib.hid hR
  have Hw := Lib.hid hw
  have HW0 := Lib.hid hW0
  have HRR := Lib.hid hD.hR
  obtain ⟨⟨A0, d0, e0, -⟩, ⟨A1, d1, e1, -⟩, ⟨A2, d2, e2, -⟩, ⟨A3, d3, e3, -⟩, ⟨A4, d4, e4, -⟩⟩ := hR50
  subst e0 e1 e2 e3 e4
  clear hFS hl h64 hR hw hW0
  go_enter Tryd.func29, Tryd.ntmps29
  go_wp2_with (fail)
  go_loopw [5] (fun vi wr => ∃ (k : Nat) (y : DkS), vi = .int .i64 (k : Int) ∧ k ≤ n ∧ FS = ((feedS ws rep R (l.drop k) y).1 + k, (feedS ws rep R (l.drop k) y).2) ∧ RefAt wr q _ _ _ _ _ rep R y ∧ Only [q] w wr) (fun vi _ => n - (intOf vi).toNat)
  case atStart => exact ⟨0, x, rfl, by omega, by rw [HFS.out]; rfl, hD, .refl _ _⟩
  case round =>
    clear hD
    obtain ⟨k, y, rfl, hk, hF, hD, hO⟩ := hrel
    have hOW : Only [] W0 wr := HW0.out.trans' hO (by intro z hz; simp at hz; subst hz; exact .inr hq0)
    have HF := Lib.hid hF
    have HO := Lib.hid hO
    have HD := Lib.hid hD
    have HOW := Lib.hid hOW
    have c9 : wr.cell? ⟨q, 9, none⟩ = some (.bool y.met) := hD.blk.cell 9
    clear hF hO hOW
    by_cases hlt : k < n
    · obtain ⟨id, hid⟩ : ∃ id, l[k]? = some id := ⟨_, List.getElem?_eq_getElem (by rw [HL.out]; exact hlt)⟩
      obtain ⟨ga, oa, ua, rfl, _, hua, hca⟩ := (HR.out.only HOW.out (by simp)).at1 hlt
      rw [List.getElem?_map, hid, Option.map_some] at hua
      obtain rfl : Value.int .i64 id = ua := by injection hua
      have hid64 := H64.out id (List.mem_of_getElem? hid)
      have hdr : l.drop k = id :: l.drop (k + 1) := drop_cons' hid
      have Hdr := Lib.hid hdr
      have hk0 : (0 : Int) ≤ (k : Int) := by omega
      have hk1 : (k : Int) < (n : Int) := by omega
      clear hua hid hdr
      by_cases hm : y.met = true
      · have hfs : FS = (k, y) := by
          rw [HF.out, Hdr.out, feed_met _ y hm]; simp
        have Hfs := Lib.hid hfs
        rw [hm] at c9
        clear hfs hca hD
        go_wp2_with (fail)
        go_ret
        exact ⟨by rw [Hfs.out]; rfl, by rw [Hfs.out]; exact HD.out, HO.out⟩
      · have hm' : y.met = false := by simpa using hm
        rw [hm'] at c9
        have k0 : wr.cell? ⟨q, 0, none⟩ = some _ := hD.blk.cell 0
        have k1 : wr.cell? ⟨q, 1, none⟩ = some _ := hD.blk.cell 1
        have k2 : wr.cell? ⟨q, 2, none⟩ = some _ := hD.blk.cell 2
        have k3 : wr.cell? ⟨q, 3, none⟩ = some _ := hD.blk.cell 3
        have k4 : wr.cell? ⟨q, 4, none⟩ = some _ := hD.blk.cell 4
        have hwd := fun W (hW : Only [] wr W) => word5_any W _ _ _ _ _ ws ms a b d (HR5.out.only (HOW.out.trans hW)) s0 id hid64
        have Hwd := Lib.hid hwd
        have kS : ∀ W, Only [] wr W → W.cell? ⟨q, 0, none⟩ = some (.slice A0 ws.length d0) ∧ W.cell? ⟨q, 1, none⟩ = some (.slice A1 ms.length d1) ∧ W.cell? ⟨q, 2, none⟩ = some (.slice A2 a.length d2) ∧ W.cell? ⟨q, 3, none⟩ = some (.slice A3 b.length d3) ∧ W.cell? ⟨q, 4, none⟩ = some (.slice A4 d.length d4) ∧ W.cell? ⟨ga, oa + k, none⟩ = some (.int .i64 id) ∧ Only [] wr W := fun W hW => by
          have hb := HD.out.blk.only hW (by simp)
          exact ⟨hb.cell 0, hb.cell 1, hb.cell 2, hb.cell 3, hb.cell 4, hW.cellv hca (by simp), hW⟩
        have KS := Lib.hid kS
        have Hm := Lib.hid hm'
        clear hwd kS hD hm hm'
        go_upto_region 6 with (fail)
        go_region_held3 (fun W => W.cell? ⟨q, 0, none⟩ = some (.slice A0 ws.length d0) ∧ W.cell? ⟨q, 1, none⟩ = some (.slice A1 ms.length d1) ∧ W.cell? ⟨q, 2, none⟩ = some (.slice A2 a.length d2) ∧ W.cell? ⟨q, 3, none⟩ = some (.slice A3 b.length d3) ∧ W.cell? ⟨q, 4, none⟩ = some (.slice A4 d.length d4) ∧ W.cell? ⟨ga, oa + k, none⟩ = some (.int .i64 id) ∧ Only [] wr W)
          (first | exact KS.out _ (Only.drew (Only.refl _ _)) | exact KS.out _ (by assumption))
          (first
            | (go_at_call 54
               obtain ⟨-, -, -, -, -, -, hcur⟩ := (by assumption : _ ∧ _ ∧ _ ∧ _ ∧ _ ∧ _ ∧ Only [] wr _)
               refine (Hwd.out _ hcur).mono ?_
               rintro e w1 ⟨rfl, hO1⟩
               replace hO1 := hcur.trans hO1
               clear hcur))
        all_goals
          obtain ⟨wd, hwd⟩ : ∃ b, b = wordB ws id := ⟨_, rfl⟩
          have hwl : wd.size ≤ 256 := by rw [hwd]; exact wordB_size Hw.out id
          rw [← hwd]
          have Hwdd := Lib.hid hwd
          have HD1 := Lib.hid (HD.out.only hO1 (by simp))
          have HO1 := Lib.hid (HO.out.trans0 hO1)
          clear c9 k0 k1 k2 k3 k4 hca hwd Hwd
          by_cases hi : isWord ws id = false
          · have c9 : w1.cell? ⟨q, 9, none⟩ = some (.bool y.met) := HD1.out.blk.cell 9
            have f9 : w1.frozen? ⟨q, 9, none⟩ = false := HD1.out.blk.frozen 9
            have hfs : FS = (k, { y with met := true }) := by
              rw [HF.out, Hdr.out, feed_bad hi]; simp
            have Hfs := Lib.hid hfs
            have hS := (Only.refl [q] w1).setCell (p := ⟨q, 9, none⟩) (.inl (by simp)) (.bool true)
            have hD2 : RefAt (w1.setCell ⟨q, 9, none⟩ (.bool true)) q (.slice A0 ws.length d0) (.slice A1 ms.length d1) (.slice A2 a.length d2) (.slice A3 b.length d3) (.slice A4 d.length d4) rep R { y with met := true } := ⟨HD1.out.blk.set 9 (.bool true), HD1.out.h3, HD1.out.le, HD1.out.hR⟩
            have HD2 := Lib.hid hD2
            have HO2 := Lib.hid (HO1.out.trans hS)
            rw [hi]
            clear hfs hS hD2 hi hO1
            go_wp2_with (fail)
            go_ret
            exact ⟨by rw [Hfs.out]; rfl, by rw [Hfs.out]; exact HD2.out, HO2.out⟩
          · have hi' : isWord ws id = true := by
              cases h : isWord ws id with
              | true => rfl
              | false => exact absurd h hi
            have c7 : w1.cell? ⟨q, 7, none⟩ = some (.string y.held) := HD1.out.blk.cell 7
            have h3 := HD1.out.h3
            obtain ⟨s, hs⟩ : ∃ s, s = y.held ++ wd := ⟨_, rfl⟩
            have hsz : s.size ≤ 300 := by rw [hs, ByteArray.size_append]; omega
            have Hs := Lib.hid hs
            have htl := refTail_any s (by omega) w1
            obtain ⟨t, ht⟩ : ∃ t, t = s.size - (complS s).2 := ⟨_, rfl⟩
            have ht2 : t = tailU s := by rw [ht, tailU_eq]
            have htle := tailU_le s
            rw [← ht2] at htle
            have Ht := Lib.hid ht2
            rw [← ht] at htl
            have Htl := Lib.hid htl
            obtain ⟨j, hj⟩ : ∃ j, j = s.size - t := ⟨_, rfl⟩
            have hcut : cutS s = j := by rw [hj, ht2]; rfl
            have hwr : IntKind.i64.wrap ((s.size : Int) - (t : Int)) = (j : Int) := by rw [IntWalk.i64_in _ (by omega)]; omega
            obtain ⟨s1, hs1⟩ : ∃ z, z = s.extract 0 j := ⟨_, rfl⟩
            have hs1z : s1.size ≤ 1000 := by rw [hs1, ByteArray.size_extract]; omega
            have hsl1 := slice_to Tryd.prog 9 Tryd.underlying9 s j (by omega)
            rw [← hs1] at hsl1
            obtain ⟨s2, hs2⟩ : ∃ z, z = s.extract j s.size := ⟨_, rfl⟩
            have hsl2 := slice_from Tryd.prog 9 Tryd.underlying9 s j (by omega)
            rw [← hs2] at hsl2
            have hs2z : s2.size ≤ 3 := by rw [hs2, ByteArray.size_extract]; omega
            obtain ⟨E, hE⟩ : ∃ E, E = emS rep s1 := ⟨_, rfl⟩
            have hel := emS_len rep s1 hs1z
            obtain ⟨el, hell⟩ : ∃ n, n = E.length := ⟨_, rfl⟩
            obtain ⟨rl, hrl⟩ : ∃ n, n = y.ring.length := ⟨_, rfl⟩
            have hle := HD1.out.le
            have hRR := HD1.out.hR
            rw [← hE, ← hell] at hel
            rw [← hrl] at hle
            have hstp : stepS ws rep R id y = if el ≤ R - rl then some ⟨s2, y.ring ++ E, y.met, y.flushed⟩ else none := by
              unfold stepS
              simp only
              rw [← Hwdd.out, ← Hs.out, hcut, ← hs1, ← hE, ← hell, ← hrl, ← hs2]
            have hfs : FS = match stepS ws rep R id y with | none => (k, y) | some z => ((feedS ws rep R (l.drop (k + 1)) z).1 + 1 + k, (feedS ws rep R (l.drop (k + 1)) z).2) := by
              rw [HF.out, Hdr.out]
              simp only [feedS, if_neg (show ¬ (y.met = true ∨ isWord ws id = false) by rw [Hm.out, hi']; simp)]
              cases stepS ws rep R id y <;> simp
            rw [hstp] at hfs
            have hou := fun W (hW : Only [] w1 W) => refOut_any W q _ _ _ _ _ rep R y (HD1.out.only hW (by simp)) s1 (by omega)
            rw [← hE] at hou
            have Hou := Lib.hid hou
            have Hfs := Lib.hid hfs
            have z1 : (str y.ring).size = rl := by rw [hrl]; exact str_size _
            have z2 : (str E).size = el := by rw [hell]; exact str_size _
            have hsub : IntKind.i64.wrap ((R : Int) - (rl : Int)) = ((R - rl : Nat) : Int) := by rw [IntWalk.i64_in _ (by omega)]; omega
            have Hrl := Lib.hid hrl
            have Hell := Lib.hid hell
            rw [hi']
            clear hs ht ht2 htl hj hcut hs1 hs2 hE hell hrl hstp hfs hou hi hi' hO1
            go_upto_region 11 with (fail)
            rw [← Hs.out]
            clear c7
            go_wp2_with (fail)
            refine Htl.out.mono ?_
            rintro e w2 ⟨rfl, hO2⟩
            go_wp2_with (fail)
            refine (Hou.out w2 hO2).mono ?_
            rintro e w3 ⟨rfl, hO3⟩
            have hO13 := hO2.trans hO3
            have hD3 := HD1.out.only hO13 (by simp)
            have c5 : w3.cell? ⟨q, 5, none⟩ = some (.int .i64 (R : Int)) := hD3.blk.cell 5
            have c8 : w3.cell? ⟨q, 8, none⟩ = some (.string (str y.ring)) := hD3.blk.cell 8
            have HD3 := Lib.hid hD3
            have HO3 := Lib.hid (HO1.out.trans0 hO13)
            clear hD3 hO13 hO2 hO3 Hou Htl hsl1
            by_cases hf : el ≤ R - rl
            · have hfi : ¬ ((R - rl : Nat) : Int) < (el : Int) := by omega
              go_wp2_with (fail)
              go_quiet (fail)
              have hD4 := HD3.out.only ((Only.refl [] w3).drewN nq) (by simp)
              have f8 : (w3.drewN nq).frozen? ⟨q, 8, none⟩ = false := hD4.blk.frozen 8
              have f7 : (w3.drewN nq).frozen? ⟨q, 7, none⟩ = false := hD4.blk.frozen 7
              have c8' : (w3.drewN nq).cell? ⟨q, 8, none⟩ = some (.string (str y.ring)) := hD4.blk.cell 8
              have c7' : (w3.drewN nq).cell? ⟨q, 7, none⟩ = some (.string y.held) := hD4.blk.cell 7
              have hb := (hD4.blk.set 8 (.string (str y.ring ++ str E))).set 7 (.string s2)
              have Hb := Lib.hid hb
              have hsum : ¬ 9223372036854775807 < (str y.ring).size + (str E).size := by rw [z1, z2]; omega
              have hO4 := (HO3.out.drewN nq)
              have HO4 := Lib.hid hO4
              clear hD4 c8 c5 hb hO4
              go_wp2_with (fail)
              go_roundw
              case rel =>
                refine ⟨k + 1, ⟨s2, y.ring ++ E, y.met, y.flushed⟩, by go_num, by omega, ?_, ⟨?_, hs2z, by simp only [List.length_append]; rw [← Hrl.out, ← Hell.out]; omega, hRR⟩, (HO4.out.setCell (.inl (by simp)) _).setCell (.inl (by simp)) _⟩
                · rw [Hfs.out, if_pos hf]
                  simp only [Prod.mk.injEq, and_true]; omega
                · have h := Hb.out
                  rw [str_app] at h
                  rw [str_app]
                  exact h
              case measure => simp [intOf]; omega
            · have hfi : ((R - rl : Nat) : Int) < (el : Int) := by omega
              have hfs2 : FS = (k, y) := by rw [Hfs.out, if_neg hf]
              have Hfs2 := Lib.hid hfs2
              clear hfs2
              go_wp2_with (fail)
              go_quiet (fail)
              go_wp2_with (fail)
              go_ret
              exact ⟨by rw [Hfs2.out]; rfl, by rw [Hfs2.out]; exact HD3.out.only ((Only.refl [] _).drewN _) (by simp), HO3.out.drewN _⟩
    · obtain rfl : k = n := by omega
      have hfs : FS = (k, y) := by
        rw [HF.out, List.drop_eq_nil_of_le (by rw [HL.out]; exact Nat.le_refl _)]
        simp [feedS]
      have Hfs := Lib.hid hfs
      clear hfs hD
      go_wp2_with (fail)
      go_ret
      exact ⟨by rw [Hfs.out]; rfl, by rw [Hfs.out]; exact HD.out, HO.out⟩
end
end Go.Proofs.YtemnanhoiacphaaDoor
