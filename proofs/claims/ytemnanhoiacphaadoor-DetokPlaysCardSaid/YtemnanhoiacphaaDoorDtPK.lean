/- DetokPlays. -/
import Derived.Test.YtemnanhoiacphaaDoorPk25
import Derived.Test.YtemnanhoiacphaaDoorDtIK
import Derived.Test.YtemnanhoiacphaaDoorOpenAsk17K
set_option linter.unusedVariables false
set_option linter.unusedSimpArgs false
set_option maxRecDepth 100000
namespace Go.Proofs.YtemnanhoiacphaaDoor
open Go.RowKit

theorem Rd.ask {w : World} {B n : Nat} {A : Option Addr} {l : List AskD} (h : Rd w B 3 A n (l.flatMap AskD.enc)) (hl : l.length = n) {i : Nat} {m : AskD} (hp : l[i]? = some m) :
    ∃ g o, A = some ⟨g, o, none⟩ ∧ w.cell? ⟨g, o + i * 3, none⟩ = some (.int .i64 m.k) ∧ w.cell? ⟨g, o + i * 3 + 1, none⟩ = some (.slice m.A m.n m.c) ∧ w.cell? ⟨g, o + i * 3 + 2, none⟩ = some (.int .i64 m.m) := by
  have hi : i < n := by have := (List.getElem?_eq_some_iff.1 hp).1; omega
  obtain ⟨g, o, rfl, _, _, hc⟩ := h.addr (by omega)
  have key : ∀ j, j < 3 → (l.flatMap AskD.enc)[i * 3 + j]? = m.enc[j]? := fun j hj => flatMap_cell (enc := AskD.enc) (size := 3) l (fun _ _ => rfl) i m j hp hj
  refine ⟨g, o, rfl, ?_, ?_, ?_⟩
  · rw [show o + i * 3 = o + (i * 3 + 0) by omega]; exact hc _ _ (key 0 (by omega))
  · rw [show o + i * 3 + 1 = o + (i * 3 + 1) by omega]; exact hc _ _ (key 1 (by omega))
  · rw [show o + i * 3 + 2 = o + (i * 3 + 2) by omega]; exact hc _ _ (key 2 (by omega))
set_option maxHeartbeats 8000000 in
theorem tells_any (w W0 : World) (g gr g2 gm q : Nat) (v0 v1 v2 v3 v4 : Value) (rep : Bool) (R : Nat) (x : DkS) (hD : DecAt w W0 g gr g2 gm rep R x) (hq : RefAt w q v0 v1 v2 v3 v4 rep R x) :
    Calls Tryd.prog 33 #[.pointer (some ⟨g, 0, none⟩), .pointer (some ⟨q, 0, none⟩)] w fun e w' => e = .returned (.bool true) ∧ Only [] w w' := by
  have kS : ∀ W, Only [] w W → W.cell? ⟨q, 7, none⟩ = some (.string x.held) ∧ W.cell? ⟨q, 8, none⟩ = some (.string (str x.ring)) := fun W hW => by
    have hb := hq.blk.only hW (by simp)
    exact ⟨hb.cell 7, hb.cell 8⟩
  have z1 : (str x.ring).size = x.ring.length := str_size _
  have HD := Lib.hid hD
  have HQ := Lib.hid hq
  have KS := Lib.hid kS
  obtain ⟨k7, k8⟩ := kS w (.refl _ _)
  obtain ⟨st, hst⟩ : ∃ s, s = statS x := ⟨_, rfl⟩
  have Hst := Lib.hid hst
  clear hD hq kS hst
  go_enter Tryd.func33, Tryd.ntmps33
  go_upto_region 1 with (fail)
  go_region_held3 (fun W => (W.cell? ⟨q, 7, none⟩ = some (.string x.held) ∧ W.cell? ⟨q, 8, none⟩ = some (.string (str x.ring))) ∧ Only [] w W)
    (first | exact ⟨KS.out _ ((Only.refl _ _).drew), (Only.refl _ _).drew⟩ | exact ⟨KS.out _ (by assumption), (by assumption)⟩)
    (first
      | (go_at_call 22
         obtain ⟨-, hF⟩ := (by assumption : _ ∧ Only [] w _)
         refine (dkStatus_any _ W0 g gr g2 gm rep R x (HD.out.only0 hF)).mono ?_
         rintro e w1 ⟨rfl, rfl⟩
         rw [← Hst.out]
         have hF1 := hF
         clear hF)
      | (go_at_call 31
         obtain ⟨-, hF⟩ := (by assumption : _ ∧ Only [] w _)
         refine (refStatus_any _ q v0 v1 v2 v3 v4 rep R x (HQ.out.only hF (by simp))).mono ?_
         rintro e w1 ⟨rfl, rfl⟩
         rw [← Hst.out]
         have hF2 := hF
         clear hF)
      | (go_at_call 25
         obtain ⟨-, hF⟩ := (by assumption : _ ∧ Only [] w _)
         refine (dkHeld_any _ W0 g gr g2 gm rep R x (HD.out.only0 hF)).mono ?_
         rintro e w1 ⟨rfl, rfl⟩
         have hF3 := hF
         clear hF)
      | (go_at_call 20
         obtain ⟨-, hF⟩ := (by assumption : _ ∧ Only [] w _)
         refine (dkWait_any _ W0 g gr g2 gm rep R x (HD.out.only0 hF)).mono ?_
         rintro e w1 ⟨rfl, rfl⟩
         have hF4 := hF
         clear hF))
  all_goals
    go_wp2_with (fail)
    go_ret
    exact ⟨rfl, by assumption⟩

set_option maxHeartbeats 4000000 in
theorem dkRight_any (w : World) (v0 v1 v2 v3 v4 : Value) (ws : List ByteArray) (ms : List Mg) (a b d : List Sp) (hR : Rd5 w v0 v1 v2 v3 v4 ws ms a b d) (s0 : ws.length ≤ 17592186043904) (hlg : lgF ws ≤ 1000) (r : Int) (hr : i64ok r) :
    Calls Tryd.prog 26 #[.agg #[v0, v1, v2, v3, v4], .int .i64 r] w fun e w' => Only [] w w' ∧ ((NewOk (lgF ws) r ∧ e = .returned (.bool true)) ∨ (¬ NewOk (lgF ws) r ∧ e = .returned (.bool false))) := by
  obtain ⟨h, hh⟩ : ∃ h, h = w.heap.size := ⟨_, rfl⟩
  obtain ⟨W1, hW1⟩ : ∃ W1, W1 = w.alloc (.cells #[v0, v1, v2, v3, v4] 26) := ⟨_, rfl⟩
  have hb : Blk W1 h 26 [v0, v1, v2, v3, v4] := by rw [hW1]; exact Blk.new' _ _ _ hh.symm rfl
  have hO : Only [] w W1 := by rw [hW1]; exact (Only.refl _ _).alloc _
  have hlo := longest5_any W1 v0 v1 v2 v3 v4 ws ms a b d (hR.only hO) s0
  obtain ⟨⟨A0, d0, e0, -⟩, ⟨A1, d1, e1, -⟩, ⟨A2, d2, e2, -⟩, ⟨A3, d3, e3, -⟩, ⟨A4, d4, e4, -⟩⟩ := hR
  subst e0 e1 e2 e3 e4
  have k0 : W1.cell? ⟨h, 0, none⟩ = some _ := hb.cell 0
  have k1 : W1.cell? ⟨h, 1, none⟩ = some _ := hb.cell 1
  have k2 : W1.cell? ⟨h, 2, none⟩ = some _ := hb.cell 2
  have k3 : W1.cell? ⟨h, 3, none⟩ = some _ := hb.cell 3
  have k4 : W1.cell? ⟨h, 4, none⟩ = some _ := hb.cell 4
  obtain ⟨lg, hlgd⟩ : ∃ z, z = lgF ws := ⟨_, rfl⟩
  rw [← hlgd] at hlg hlo ⊢
  have Hlo := Lib.hid hlo
  have Hh := Lib.hid hh
  have HW := Lib.hid hW1
  obtain ⟨hr1, hr2⟩ := hr
  clear hlgd hlo hh hW1 hb
  go_enter Tryd.func26, Tryd.ntmps26
  go_upto_region 1 with (fail)
  rw [← Hh.out, ← HW.out]
  by_cases h1 : 3 * ((lg : Int) + 3) ≤ r
  · by_cases h2 : r ≤ 1048576
    · go_wp2_with (fail)
      refine Hlo.out.mono ?_
      rintro e w1 ⟨rfl, hO1⟩
      go_wp2_with (fail)
      go_ret
      exact ⟨hO.trans hO1, .inl ⟨⟨h1, h2⟩, rfl⟩⟩
    · go_wp2_with (fail)
      refine Hlo.out.mono ?_
      rintro e w1 ⟨rfl, hO1⟩
      go_wp2_with (fail)
      go_ret
      exact ⟨hO.trans hO1, .inr ⟨fun h => by have := h.2; omega, by rw [decide_eq_false (by omega)] <;> rfl⟩⟩
  · go_wp2_with (fail)
    refine Hlo.out.mono ?_
    rintro e w1 ⟨rfl, hO1⟩
    go_wp2_with (fail)
    go_ret
    exact ⟨hO.trans hO1, .inr ⟨fun h => by have := h.1; omega, rfl⟩⟩

set_option maxHeartbeats 8000000 in
theorem detokPlays_walk (w : World) (v0 v1 v2 v3 v4 : Value) (ws : List ByteArray) (ms : List Mg) (a b d : List Sp) (hR : Rd5 w v0 v1 v2 v3 v4 ws ms a b d)
    (s0 : ws.length ≤ 8796093021952) (s1 : ms.length ≤ 5864062014634) (s2 : a.length ≤ 17592186043904) (s3 : b.length ≤ 17592186043904) (s4 : d.length ≤ 17592186043904) (hws : ∀ s ∈ ws, s.size ≤ maxLen) (hms : ∀ m ∈ ms, m.ok)
    (r : Int) (hr : -9223372036854775808 ≤ r ∧ r ≤ 9223372036854775807) (rep : Bool) (A : Option Addr) (n c : Nat) (L : List AskD) (hL : L.length = n) (hRd : Rd w w.heap.size 3 A n (L.flatMap AskD.enc)) (hnc : n ≤ c) (hcm : c ≤ maxLen) (hok : ∀ a ∈ L, a.ok w) (hT : Tabs w) :
    Calls Tryd.prog 7 #[.agg #[v0, v1, v2, v3, v4], .int .i64 r, .bool rep, .slice A n c] w fun e w' => e = .returned (.bool true) ∧ Only [] w w' := by
  have hnm : n ≤ 9223372036854775807 := by simp only [maxLen] at hcm; omega
  obtain ⟨h, hh⟩ : ∃ h, h = w.heap.size := ⟨_, rfl⟩
  obtain ⟨W1, hW1⟩ : ∃ W1, W1 = w.alloc (.cells #[v0, v1, v2, v3, v4] 26) := ⟨_, rfl⟩
  have hb : Blk W1 h 26 [v0, v1, v2, v3, v4] := by rw [hW1]; exact Blk.new' _ _ _ hh.symm rfl
  have hO1 : Only [] w W1 := by rw [hW1]; exact (Only.refl _ _).alloc _
  have hof := ofM_any W1 v0 v1 v2 v3 v4 ws ms a b d (hR.only hO1) (by omega) (by omega) s2 s3 s4 hws hms
  have k0 : W1.cell? ⟨h, 0, none⟩ = some v0 := hb.cell 0
  have k1 : W1.cell? ⟨h, 1, none⟩ = some v1 := hb.cell 1
  have k2 : W1.cell? ⟨h, 2, none⟩ = some v2 := hb.cell 2
  have k3 : W1.cell? ⟨h, 3, none⟩ = some v3 := hb.cell 3
  have k4 : W1.cell? ⟨h, 4, none⟩ = some v4 := hb.cell 4
  have HR5 := Lib.hid (hR.only hO1)
  obtain ⟨⟨A0, d0, e0, -⟩, ⟨A1, d1, e1, -⟩, ⟨A2, d2, e2, -⟩, ⟨A3, d3, e3, -⟩, ⟨A4, d4, e4, -⟩⟩ := hR
  have Hof := Lib.hid hof
  have Hh := Lib.hid hh
  have HW := Lib.hid hW1
  have HO1 := Lib.hid hO1
  have HT := Lib.hid hT
  clear hof hh hW1 hb hO1 hT hws hms s1 s2 s3 s4
  subst e0 e1 e2 e3 e4
  have HL := Lib.hid hL
  have HRd := Lib.hid hRd
  have Hok := Lib.hid hok
  clear hL hRd hok
  go_enter Tryd.func7, Tryd.ntmps7
  go_upto_region 1 with (fail)
  rw [← Hh.out, ← HW.out]
  go_wp2_with (fail)
  refine Hof.out.mono ?_
  rintro e W2 hpost
  rcases hpost.no with ⟨rfl, hO2⟩ | ⟨gm, base, rfl, hO2, hbW, hF, hM, -⟩
  · clear hpost k0 k1 k2 k3 k4 Hof
    have hT2 := HT.out.only (HO1.out.trans hO2) (by simp) (by simp)
    go_wp2_with (fail)
    refine (known17_any W2 hT2).mono ?_
    rintro e W3 ⟨rfl, hO3⟩
    go_wp2_with (fail)
    go_ret
    exact ⟨rfl, HO1.out.trans (hO2.trans hO3)⟩
  obtain ⟨hw256, hlg⟩ := fault_small hF
  have hO02 := HO1.out.trans hO2
  have hT2 := HT.out.only hO02 (by simp) (by simp)
  have HT2 := Lib.hid hT2
  have HO02 := Lib.hid hO02
  have HM := Lib.hid hM
  have Hw := Lib.hid hw256
  have HR2 := Lib.hid (HR5.out.only hO2)
  obtain ⟨lg, hlgd⟩ : ∃ z, z = lgF ws := ⟨_, rfl⟩
  rw [← hlgd] at hlg
  have hnew := dkNew_any W2 gm base ws ms a b d ms.length (lookM 0 ms) (lgF ws) hM (by omega) r (by unfold i64ok; exact hr) rep
  rw [← hlgd] at hnew
  have Hnew := Lib.hid hnew
  have Hlg := Lib.hid hlgd
  have HbK := Lib.hid (Blk.new' w 26 #[.slice A0 ws.length d0, .slice A1 ms.length d1, .slice A2 a.length d2, .slice A3 b.length d3, .slice A4 d.length d4] Hh.out.symm rfl)
  have hbW1 : Blk W1 h 26 [.slice A0 ws.length d0, .slice A1 ms.length d1, .slice A2 a.length d2, .slice A3 b.length d3, .slice A4 d.length d4] := by rw [HW.out]; exact HbK.out
  have HbW := Lib.hid (hbW1.only hO2 (by simp))
  clear hpost k0 k1 k2 k3 k4 Hof hnew hO02 hT2 hM hw256 hlgd HbK hbW1
  go_wp2_with (fail)
  refine Hnew.out.mono ?_
  rintro e W3 ⟨hO3, hres⟩
  have hright := dkRight_any W3 _ _ _ _ _ ws ms a b d (HR2.out.only hO3) (by omega) (by rw [← Hlg.out]; omega) r (by unfold i64ok; exact hr)
  rw [← Hlg.out] at hright
  have Hright := Lib.hid hright
  have hb3 := HbW.out.only hO3 (by simp)
  have k0 : W3.cell? ⟨h, 0, none⟩ = some _ := hb3.cell 0
  have k1 : W3.cell? ⟨h, 1, none⟩ = some _ := hb3.cell 1
  have k2 : W3.cell? ⟨h, 2, none⟩ = some _ := hb3.cell 2
  have k3 : W3.cell? ⟨h, 3, none⟩ = some _ := hb3.cell 3
  have k4 : W3.cell? ⟨h, 4, none⟩ = some _ := hb3.cell 4
  rcases hres with ⟨hno, rfl⟩ | ⟨hyes, g, gr, g2, rfl, hD⟩
  · go_wp2_with (fail)
    refine Hright.out.mono ?_
    rintro e W4 ⟨hO4, ⟨h1, -⟩ | ⟨-, rfl⟩⟩
    · exact absurd h1 hno
    have hO04 := HO02.out.trans (hO3.trans hO4)
    have hT4 := HT.out.only hO04 (by simp) (by simp)
    go_wp2_with (fail)
    refine (known17_any W4 hT4).mono ?_
    rintro e W5 ⟨rfl, hO5⟩
    go_wp2_with (fail)
    go_ret
    exact ⟨rfl, hO04.trans hO5⟩
  obtain ⟨R, rfl⟩ := Int.eq_ofNat_of_zero_le (show (0 : Int) ≤ r by have := hyes.1; omega)
  have hRb : R ≤ 1048576 := by have := hyes.2; omega
  have hD3 : DecAt W3 W2 g gr g2 gm rep R dk0 := hD
  have HD3 := Lib.hid hD3
  clear hD hD3
  go_wp2_with (fail)
  refine Hright.out.mono ?_
  rintro e W4 ⟨hO4, ⟨-, rfl⟩ | ⟨h1, -⟩⟩
  rotate_left
  · exact absurd hyes h1
  have hb4 := HbW.out.only (hO3.trans hO4) (by simp)
  clear k0 k1 k2 k3 k4 Hright hb3 hyes
  have k0 : W4.cell? ⟨h, 0, none⟩ = some _ := hb4.cell 0
  have k1 : W4.cell? ⟨h, 1, none⟩ = some _ := hb4.cell 1
  have k2 : W4.cell? ⟨h, 2, none⟩ = some _ := hb4.cell 2
  have k3 : W4.cell? ⟨h, 3, none⟩ = some _ := hb4.cell 3
  have k4 : W4.cell? ⟨h, 4, none⟩ = some _ := hb4.cell 4
  obtain ⟨q, hq⟩ : ∃ q, q = W4.heap.size := ⟨_, rfl⟩
  obtain ⟨W5, hW5⟩ : ∃ W, W = W4.alloc (.cells #[.slice A0 ws.length d0, .slice A1 ms.length d1, .slice A2 a.length d2, .slice A3 b.length d3, .slice A4 d.length d4, .int .i64 (R : Int), .bool rep, .string ⟨#[]⟩, .string ⟨#[]⟩, .bool false, .bool false] 66) := ⟨_, rfl⟩
  have hbq : Blk W5 q 66 [.slice A0 ws.length d0, .slice A1 ms.length d1, .slice A2 a.length d2, .slice A3 b.length d3, .slice A4 d.length d4, .int .i64 (R : Int), .bool rep, .string .empty, .string .empty, .bool false, .bool false] := by rw [hW5]; exact Blk.new' _ _ _ hq.symm rfl
  have hO45 : Only [] W4 W5 := by rw [hW5]; exact (Only.refl _ _).alloc _
  have hQ5 : RefAt W5 q (.slice A0 ws.length d0) (.slice A1 ms.length d1) (.slice A2 a.length d2) (.slice A3 b.length d3) (.slice A4 d.length d4) rep R dk0 := ⟨hbq, by simp [dk0], by simp [dk0], hRb⟩
  have hD5 := HD3.out.only0 (hO4.trans hO45)
  have hO25 := hO3.trans (hO4.trans hO45)
  have hq2 : W2.heap.size ≤ q := by have := (hO3.trans hO4).size; omega
  have hgq : g < q ∧ gr < q ∧ g2 < q := by
    obtain ⟨at_, arr, hr⟩ := HD3.out.ring
    have h1 := HD3.out.blk.lt
    have h2 := hr.1.lt
    have h3 := hr.2.1.lt
    have := hO4.size
    omega
  have hge := HD3.out.ge
  have Hq := Lib.hid hq
  have HW5 := Lib.hid hW5
  clear hq hW5 hbq hO45 hb4 HD3
  go_wp2_with (fail)
  rw [← Hq.out, ← HW5.out]
  clear k0 k1 k2 k3 k4
  go_loopw [15] (fun vi wr => ∃ (k : Nat) (x : DkS), vi = .int .i64 (k : Int) ∧ k ≤ n ∧ DecAt wr W2 g gr g2 gm rep R x ∧ RefAt wr q (.slice A0 ws.length d0) (.slice A1 ms.length d1) (.slice A2 a.length d2) (.slice A3 b.length d3) (.slice A4 d.length d4) rep R x ∧ Only [] W2 wr) (fun vi _ => n - (intOf vi).toNat)
  case atStart => exact ⟨0, dk0, rfl, by omega, hD5, hQ5, hO25⟩
  case round =>
    clear hD5 hQ5 hO25
    obtain ⟨k, x, rfl, hk, hD, hQ, hO⟩ := hrel
    have hO0 := HO02.out.trans hO
    by_cases hlt : k < n ∧ k < 60
    · obtain ⟨hlt, hlt2⟩ := hlt
      obtain ⟨ask, ha⟩ : ∃ a, L[k]? = some a := ⟨_, List.getElem?_eq_getElem (by rw [HL.out]; exact hlt)⟩
      obtain ⟨h1, h2, hal, har, hac, hacm, hawf⟩ := Hok.out ask (List.mem_of_getElem? ha)
      obtain ⟨gA, oA, rfl, hc0, hc1, hc2⟩ := (HRd.out.only hO0 (by simp)).ask HL.out ha
      obtain ⟨ak, aA, an, ac, al, am⟩ := ask
      simp only at h1 h2 hal har hac hacm hawf hc0 hc1 hc2
      have Hal := Lib.hid hal
      have Hh64 := Lib.hid (i64s_ok hawf)
      obtain ⟨h9, hh9⟩ : ∃ h9, h9 = wr.heap.size := ⟨_, rfl⟩
      obtain ⟨wa, hwa⟩ : ∃ W, W = wr.alloc (.cells #[.int .i64 ak, .slice aA an ac, .int .i64 am] 68) := ⟨_, rfl⟩
      have hOa : Only [] wr wa := by rw [hwa]; exact (Only.refl _ _).alloc _
      have hb9 : Blk wa h9 68 [.int .i64 ak, .slice aA an ac, .int .i64 am] := by rw [hwa]; exact Blk.new' _ _ _ hh9.symm rfl
      have Hh9 := Lib.hid hh9
      have Hwa := Lib.hid hwa
      have hb0 : wa.cell? ⟨h9, 0, none⟩ = some (.int .i64 ak) := hb9.cell 0
      have hb1 : wa.cell? ⟨h9, 1, none⟩ = some (.slice aA an ac) := hb9.cell 1
      have hb2 : wa.cell? ⟨h9, 2, none⟩ = some (.int .i64 am) := hb9.cell 2
      have hg9 : g < h9 ∧ gr < h9 ∧ g2 < h9 ∧ q < h9 := by
        obtain ⟨at_, arr, hr⟩ := hD.ring
        have h1 := hD.blk.lt
        have h2 := hr.1.lt
        have h3 := hr.2.1.lt
        have h4 := hQ.blk.lt
        omega
      have hDa := hD.only0 hOa
      have hQa := hQ.only hOa (by simp)
      have hOwa := hO.trans hOa
      have HDa := Lib.hid hDa
      have HQa := Lib.hid hQa
      have HOa := Lib.hid hOwa
      have Har := Lib.hid har
      have Hb9 := Lib.hid hb9
      clear hal hawf hh9 hwa hb9 hD hQ hO hO0 hDa hQa hOwa har ha
      have h9lt := Hb9.out.lt
      go_upto_region 14 with (fail)
      rw [← Hh9.out, ← Hwa.out]
      go_upto_block 2 with (fail)
      go_cut [] (fun wx => ∃ x', DecAt wx W2 g gr g2 gm rep R x' ∧ RefAt wx q (.slice A0 ws.length d0) (.slice A1 ms.length d1) (.slice A2 a.length d2) (.slice A3 b.length d3) (.slice A4 d.length d4) rep R x' ∧ Only [] W2 wx)
      case first =>
        by_cases k1 : ak = 1
        · subst k1
          obtain ⟨n', l', hl', hr', hn1, hn2, hlt', hcase⟩ := Har.out.cutI Hal.out 100
          have HL' := Lib.hid hl'
          have HR' := Lib.hid hr'
          have h64' : ∀ i ∈ l', i64ok i := fun i hi => Hh64.out i (by rw [hlt'] at hi; exact List.mem_of_mem_take hi)
          have H64' := Lib.hid h64'
          clear hl' hr' hlt' h64'
          go_upto_if 89 with (fail)
          go_cut [17] (fun s wx => wa = wx ∧ s = .slice aA n' ac)
          case first =>
            rcases hcase with ⟨h3, h4⟩ | ⟨h3, h4⟩
            · have h5 : ¬ (100 : Int) < (an : Int) := by omega
              have H4 := Lib.hid h4
              clear h4
              go_wp2
              go_meet
              case rel => exact ⟨rfl, by rw [H4.out]⟩
            · have hsh := run_slice_h (P := Tryd.prog) (A := aA) (n := an) (c := ac) (m := n') (hi := (100 : Int)) Tryd.underlying27 (size := 1) (by kernel_rfl) (by omega) (by omega)
              have h5 : (100 : Int) < (an : Int) := by omega
              have H4 := Lib.hid h4
              clear h4
              go_wp2
              go_meet
              case rel => exact ⟨rfl, rfl⟩
          case rest =>
          obtain ⟨rfl, rfl⟩ := hcut
          clear hcase
          have hOw := HO02.out.trans HOa.out
          have hra := HR'.out.only hOw (by simp)
          have hrm := roomyI_any aA n' ac w.heap.size l' (-7) wa hra HL'.out (by omega)
          have Hrm := Lib.hid hrm
          have Hra := Lib.hid hra
          clear hrm hra
          go_wp2_with (fail)
          refine Hrm.out.mono ?_
          rintro e wb ⟨G, rfl, hG, hbG, hOb⟩
          have hGr := rd_roomyI hbG HL'.out
          have hGlt := hbG.lt
          have hh9G : h9 < G := by omega
          have hDb := HDa.out.only0 hOb
          have hQb := HQa.out.only hOb (by simp)
          have hOb2 := HOa.out.trans hOb
          have hsl := run_slice_h (P := Tryd.prog) (A := some ⟨G, 0, none⟩) (n := n' + 80) (c := n' + 80) (m := n') (hi := (n' : Int)) Tryd.underlying27 (size := 1) (by kernel_rfl) rfl (by omega)
          have hfd := dkFeed_any wb W2 g gr g2 gm rep R x hDb HT2.out base ws ms a b d ms.length (lookM 0 ms) (lgF ws) HM.out Hw.out (some ⟨G, 0, none⟩) n' (n' + 80) wb.heap.size l' HL'.out (by omega) hGr.2 (.inr (by intro ad e1; injection e1 with e1; subst e1; simp only; omega)) H64'.out
          obtain ⟨FS, hFS⟩ : ∃ z, z = feedS ws rep R l' x := ⟨_, rfl⟩
          rw [← hFS] at hfd
          have Hfd := Lib.hid hfd
          have HFS := Lib.hid hFS
          have HQb := Lib.hid hQb
          have HOb := Lib.hid hOb2
          have HbG := Lib.hid hbG
          clear hfd hFS hGr hDb hQb hOb2 hbG Hrm hb0 hb1 hb2
          have hint : ∀ W, Only [g, gr, g2] wb W → Calls Tryd.prog 28 #[.slice (some ⟨G, 0, none⟩) (n' + 80) (n' + 80), .slice aA n' ac, .int .i64 (-7)] W fun e w' => e = .returned (.bool true) ∧ Only [] W w' := by
            intro W hW
            have hG' := HbG.out.only hW (by simp; omega)
            have hOW : Only [] w W := (HO02.out.trans HOb.out).trans' hW (by intro z hz; simp at hz; have := HO02.out.size; exact .inr (by omega))
            exact intactI_any (some ⟨G, 0, none⟩) aA n' (n' + 80) ac _ w.heap.size l' (-7) W (rd_roomyI hG' HL'.out).1 (HR'.out.only hOW (by simp)) HL'.out (by omega) (by omega)
          have Hint := Lib.hid hint
          clear hint
          cases hfl : x.flushed with
          | true =>
            rw [hfl] at Hfd
            simp only [if_true] at Hfd
            have Hfl := Lib.hid hfl
            clear hfl
            go_wp2_with (fail)
            refine Hfd.out.mono ?_
            rintro e wc ⟨rfl, hDc, hOc⟩
            have hQc := HQb.out.only hOc (by simp; omega)
            have HDc := Lib.hid hDc
            have HOc := Lib.hid (HOb.out.trans' hOc (by intro z hz; simp at hz; exact .inr (by omega)))
            have HQc := Lib.hid hQc
            have HI := Lib.hid (Hint.out wc hOc)
            clear hDc hQc hOc hsl Hfd
            go_wp2_with (fail)
            refine HI.out.mono ?_
            rintro e wd ⟨rfl, hOd⟩
            have hQd := HQc.out.only hOd (by simp)
            have c10 : wd.cell? ⟨q, 10, none⟩ = some (.bool true) := by rw [← Hfl.out]; exact hQd.blk.cell 10
            have HQd := Lib.hid hQd
            clear hQd
            go_wp2_with (fail)
            go_meet
            case rel => exact ⟨x, HDc.out.only0 hOd, HQd.out, HOc.out.trans hOd⟩
          | false =>
            rw [hfl] at Hfd
            simp only [Bool.false_eq_true, if_false] at Hfd
            have Hfl := Lib.hid hfl
            clear hfl
            go_wp2_with (fail)
            refine Hfd.out.mono ?_
            rintro e wc ⟨rfl, hDc, hOc⟩
            have hQc := HQb.out.only hOc (by simp; omega)
            have HDc := Lib.hid hDc
            have HOc := Lib.hid (HOb.out.trans' hOc (by intro z hz; simp at hz; exact .inr (by omega)))
            have HQc := Lib.hid hQc
            have HI := Lib.hid (Hint.out wc hOc)
            clear hDc hQc hOc hsl Hfd
            go_wp2_with (fail)
            refine HI.out.mono ?_
            rintro e wd ⟨rfl, hOd⟩
            have hQd := HQc.out.only hOd (by simp)
            have c10 : wd.cell? ⟨q, 10, none⟩ = some (.bool false) := by rw [← Hfl.out]; exact hQd.blk.cell 10
            have HOd := Lib.hid (HOc.out.trans hOd)
            have HDd := Lib.hid (HDc.out.only0 hOd)
            have hrf := refFeed_any wd q _ _ _ _ _ rep R x hQd ws ms a b d (by omega) Hw.out W2 HOd.out hq2 HR2.out aA n' ac w.heap.size l' HL'.out (by omega) (HR'.out.only HO02.out (by simp)) H64'.out
            rw [← HFS.out] at hrf
            have Hrf := Lib.hid hrf
            clear hrf hQd hOd
            go_wp2_with (fail)
            refine Hrf.out.mono ?_
            rintro e we ⟨rfl, hQe, hOe⟩
            have HQe := Lib.hid hQe
            clear hQe c10
            go_wp2_with (fail)
            go_meet
            case rel => exact ⟨FS.2, HDd.out.only hOe (by simp; omega) (by simp; omega) (by simp; omega) (by simp; omega), HQe.out, HOd.out.trans' hOe (by intro z hz; simp at hz; exact .inr (by omega))⟩
        · by_cases k2 : ak = 2
          · subst k2
            have hrd := dkRead_any wa W2 g gr g2 gm rep R x HDa.out HT2.out am
            obtain ⟨m, hm⟩ : ∃ m, m = min am.toNat x.ring.length := ⟨_, rfl⟩
            obtain ⟨y, hy⟩ : ∃ y, y = dkReadS R rep am x := ⟨_, rfl⟩
            obtain ⟨tx, htx⟩ : ∃ t, t = x.ring.take m := ⟨_, rfl⟩
            rw [← hm, ← hy, ← htx] at hrd
            have htl : tx.length = m := by rw [htx, List.length_take]; omega
            have Hrd := Lib.hid hrd
            have Hm := Lib.hid hm
            have Hy := Lib.hid hy
            have Htx := Lib.hid htx
            have Htl := Lib.hid htl
            obtain ⟨st, hst⟩ : ∃ s, s = statS y := ⟨_, rfl⟩
            rw [← hst] at Hrd
            have Hst := Lib.hid hst
            clear hrd hm hy htx hst htl
            go_wp2_with (fail)
            refine Hrd.out.mono ?_
            rintro e wb ⟨o, rfl, hwo, hbo, hDb, hOb⟩
            have hQb := HQa.out.only hOb (by simp; omega)
            have hb2' : wb.cell? ⟨h9, 2, none⟩ = some (.int .i64 am) := hOb.cellv hb2 (by simp; omega)
            have hcv := byteStr m hbo (n := m) Htl.out
            have hrr := fun W (hW : Only [] wb W) => refRead_any W q _ _ _ _ _ rep R x (hQb.only hW (by simp)) am h2
            rw [← Hm.out, ← Hy.out, ← Htx.out] at hrr
            have Hbo := Lib.hid hbo
            have hrr' : ∀ W, Only [] wb W → Calls Tryd.prog 30 #[.pointer (some ⟨q, 0, none⟩), .int .i64 am] W fun e w' => e = .returned (.string (str tx)) ∧ RefAt w' q (.slice A0 ws.length d0) (.slice A1 ms.length d1) (.slice A2 a.length d2) (.slice A3 b.length d3) (.slice A4 d.length d4) rep R y ∧ Only [q] wb w' := by
              intro W hW
              refine (hrr W hW).mono ?_
              rintro e w' ⟨h1, h2, h3⟩
              exact ⟨h1, h2, (hW.mono (by simp)).trans h3⟩
            have Hrr := Lib.hid hrr'
            clear hrr'
            have HDb := Lib.hid hDb
            have HOb := Lib.hid (HOa.out.trans' hOb (by intro z hz; simp at hz; exact .inr (by omega)))
            clear hbo hDb hOb hQb hrr hb0 hb1 hb2
            go_wp2_with (fail)
            have hcS : ∀ W, Only [q] wb W → (W.cell? ⟨h9, 2, none⟩ = some (.int .i64 am) ∧ (convert 41 9 (.slice (some ⟨o, 0, none⟩) m m)).run Tryd.prog W = .ok (.string (str tx)) W) ∧ Only [q] wb W := by
              intro W hW
              exact ⟨⟨hW.cellv hb2' (by simp; omega), byteStr m (Hbo.out.only hW (by simp; omega)) (n := m) Htl.out⟩, hW⟩
            have HcS := Lib.hid hcS
            have hse : ((str tx).toList == (str tx).toList) = true := beq_self_eq_true _
            clear hcS
            go_region_held3 (fun W => (W.cell? ⟨h9, 2, none⟩ = some (.int .i64 am) ∧ (convert 41 9 (.slice (some ⟨o, 0, none⟩) m m)).run Tryd.prog W = .ok (.string (str tx)) W) ∧ Only [q] wb W)
              (first | exact HcS.out _ ((Only.refl _ _).drew) | exact HcS.out _ (by assumption))
              (first
                | (go_at_call 30
                   refine (Hrr.out _ (by first | exact (Only.refl _ _).drew | exact .refl _ _)).mono ?_
                   rintro e wc ⟨rfl, hQc, hOc⟩
                   have HQc := Lib.hid hQc
                   clear hQc)
                | (go_at_call 31
                   obtain ⟨-, hF⟩ := (by assumption : _ ∧ Only [q] wb _)
                   refine (refStatus_any _ q _ _ _ _ _ rep R y (by first | exact HQc.out | exact HQc.out.only ((Only.refl [] _).drew) (by simp))).mono ?_
                   rintro e wd ⟨rfl, rfl⟩
                   rw [← Hst.out]
                   clear hF))
            all_goals
              go_wp2_with (fail)
              go_meet
              case rel => exact ⟨y, HDb.out.only (hOc) (by simp; omega) (by simp; omega) (by simp; omega) (by simp; omega), HQc.out, HOb.out.trans' hOc (by intro z hz; simp at hz; exact .inr (by omega))⟩
          · by_cases k3 : ak = 3
            · subst k3
              have hfl := dkFlush_any wa W2 g gr g2 gm rep R x HDa.out HT2.out
              have Hfl := Lib.hid hfl
              clear hfl
              obtain ⟨held, ring, met, flushed⟩ := x
              simp only at Hfl
              cases flushed
              · go_wp2_with (fail)
                refine Hfl.out.mono ?_
                rintro e wb ⟨rfl, hDb, hOb⟩
                have hQb := HQa.out.only hOb (by simp; omega)
                have c10 : wb.cell? ⟨q, 10, none⟩ = some (.bool false) := hQb.blk.cell 10
                have hff := refFlush_any wb q _ _ _ _ _ rep R _ hQb
                have Hff := Lib.hid hff
                have HDb := Lib.hid hDb
                have HOb := Lib.hid (HOa.out.trans' hOb (by intro z hz; simp at hz; exact .inr (by omega)))
                clear hff hDb hOb hQb hb0 hb1 hb2 Hfl
                go_wp2_with (fail)
                refine Hff.out.mono ?_
                rintro e wc ⟨rfl, hQc, hOc⟩
                go_wp2_with (fail)
                go_meet
                case rel => exact ⟨_, HDb.out.only hOc (by simp; omega) (by simp; omega) (by simp; omega) (by simp; omega), by simpa [dkFlushS] using hQc, HOb.out.trans' hOc (by intro z hz; simp at hz; exact .inr (by omega))⟩
              · go_wp2_with (fail)
                refine Hfl.out.mono ?_
                rintro e wb ⟨rfl, hDb, hOb⟩
                have hQb := HQa.out.only hOb (by simp; omega)
                have c10 : wb.cell? ⟨q, 10, none⟩ = some (.bool true) := hQb.blk.cell 10
                have HDb := Lib.hid hDb
                have HQb := Lib.hid hQb
                have HOb := Lib.hid (HOa.out.trans' hOb (by intro z hz; simp at hz; exact .inr (by omega)))
                clear hDb hOb hQb hb0 hb1 hb2 Hfl
                go_wp2_with (fail)
                go_meet
                case rel => exact ⟨_, HDb.out, by simpa [dkFlushS] using HQb.out, HOb.out⟩
            · go_wp2_with (fail)
              go_meet
              case rel => exact ⟨x, HDa.out, HQa.out, HOa.out⟩
      case rest =>
      obtain ⟨x', hDx, hQx, hOx⟩ := hcut
      clear hb0 hb1 hb2 hc0 hc1 hc2
      have htl := tells_any _ W2 g gr g2 gm q _ _ _ _ _ rep R x' hDx hQx
      have Htl := Lib.hid htl
      have HDx := Lib.hid hDx
      have HQx := Lib.hid hQx
      have HOx := Lib.hid hOx
      clear htl hDx hQx hOx
      go_wp2_with (fail)
      refine Htl.out.mono ?_
      rintro e w8 ⟨rfl, hO8⟩
      go_wp2_with (fail)
      go_roundw
      case rel => exact ⟨k + 1, x', by go_num, by omega, HDx.out.only0 hO8, HQx.out.only hO8 (by simp), HOx.out.trans hO8⟩
      case measure => simp [intOf]; omega
    · have hexit : (n ≤ k) ∨ (k < n ∧ 60 ≤ k) := by omega
      have hT9 := HT.out.only hO0 (by simp) (by simp)
      rcases hexit with hx | ⟨hx, hx2⟩
      all_goals
       go_wp2_with (fail)
       refine (known17_any wr hT9).mono ?_
       rintro e W9 ⟨rfl, hO9⟩
       go_wp2_with (fail)
       go_ret
       exact ⟨rfl, hO0.trans hO9⟩
end Go.Proofs.YtemnanhoiacphaaDoor
