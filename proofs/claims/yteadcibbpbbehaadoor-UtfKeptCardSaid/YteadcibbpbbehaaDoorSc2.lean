/- utf.Scanner: take: its pieces. -/
import Derived.Test.YteadcibbpbbehaaDoorSc1
set_option linter.unusedVariables false
set_option linter.unusedSimpArgs false
namespace Go.Proofs.YteadcibbpbbehaaDoor
open Go.RowKit

/-- one item is looked at -/
def R5K (w2 : World) (b bi : Nat) (y : It) (all : Bool) (v : Value) (K : Act → World → Prop) : Prop :=
  ∀ (u2 u3 u7 u8 u9 u10 u11 u12 u13 u14 u15 u16 u17 u18 u19 u20 u21 u22 u23 u24 u25 u26 u27 u28 u29 u30 u31 u32 u33 u34 u35 u36 u37 u38 u39 u40 u41 u42 u43 u44 u45 u46 u47 u48 u49 u50 u51 u52 u53 u54 u55 u56 u57 u58 u59 u60 u61 : Value) (W : World), Only [bi] w2 W → Blk W bi 33 y.enc → K { tmps := #[.pointer (some ⟨b, 0, none⟩), .bool all, u2, u3, .slice none 0 0, v, .pointer (some ⟨bi, 0, none⟩), u7, u8, u9, u10, u11, u12, u13, u14, u15, u16, u17, u18, u19, u20, u21, u22, u23, u24, u25, u26, u27, u28, u29, u30, u31, u32, u33, u34, u35, u36, u37, u38, u39, u40, u41, u42, u43, u44, u45, u46, u47, u48, u49, u50, u51, u52, u53, u54, u55, u56, u57, u58, u59, u60, u61], defers := [] } W
set_option maxRecDepth 100000 in
set_option maxHeartbeats 4000000 in
theorem tk_r5 (w2 : World) (b bi d N n p c : Nat) (A : Option Addr) (all : Bool) (s : ByteArray) (v : Value) (u2 u3 u7 u8 u9 u10 u11 u12 u13 u14 u15 u16 u17 u18 u19 u20 u21 u22 u23 u24 u25 u26 u27 u28 u29 u30 u31 u32 u33 u34 u35 u36 u37 u38 u39 u40 u41 u42 u43 u44 u45 u46 u47 u48 u49 u50 u51 u52 u53 u54 u55 u56 u57 u58 u59 u60 u61 : Value) (hT : Tabs w2) (h2 : 2 ≤ b) (hbi : 2 ≤ bi) (hpl : p < s.size) (hn : Hid (n = s.size - p)) (hN : Hid (N = d + s.size)) (hNb : N ≤ 140737489403904)
    (hb : Blk w2 b 70 [.slice A n c, .int .i64 (N : Int)]) (hR : ∃ B, Rd w2 B 1 A n (bvs (from_ s p))) (hbb : ∃ e0 e1 e2 e3, Blk w2 bi 33 [e0, e1, e2, e3]) (K : Act → World → Prop) (Q : Exit → Act → World → Prop)
    (hK : R5K w2 b bi ((itAt s p).by_ d) all v K) :
    tkR5.wp Tryd.prog (Exit.then K Q) { tmps := #[.pointer (some ⟨b, 0, none⟩), .bool all, u2, u3, .slice none 0 0, v, .pointer (some ⟨bi, 0, none⟩), u7, u8, u9, u10, u11, u12, u13, u14, u15, u16, u17, u18, u19, u20, u21, u22, u23, u24, u25, u26, u27, u28, u29, u30, u31, u32, u33, u34, u35, u36, u37, u38, u39, u40, u41, u42, u43, u44, u45, u46, u47, u48, u49, u50, u51, u52, u53, u54, u55, u56, u57, u58, u59, u60, u61], defers := [] } w2 := by
  obtain ⟨B, hR⟩ := hR
  obtain ⟨e0, e1, e2, e3, h9⟩ := hbb
  obtain ⟨q, hq⟩ : ∃ q, q = p + d := ⟨_, rfl⟩
  have hwr : IntKind.i64.wrap ((N : Int) - (n : Int)) = (q : Int) := by
    have h1 := hN.out
    have h2 := hn.out
    rw [show (N : Int) - (n : Int) = (q : Int) by omega]
    exact IntWalk.i64_in _ (by omega)
  have Hq := Lib.hid hq
  clear hq
  have c0 : w2.drew.cell? ⟨b, 0, none⟩ = some (.slice A n c) := hb.cell 0
  have c1 : w2.drew.cell? ⟨b, 1, none⟩ = some (.int .i64 (N : Int)) := hb.cell 1
  have hcv := run_string_rd (P := Tryd.prog) 41 9 5 Tryd.underlying41 (by kernel_rfl) Tryd.underlying9 c hR.drew
  rw [from_str] at hcv
  show Code.wp Tryd.prog (Code.region 5 _ true) _ _ _
  go_still_tail 15, (by kernel_rfl)
  refine name_it (p := fun y => wpList _ _ _ _ _ y) ?_
  intro w3 H3
  have hw3 : Only [] w2 w3 := by rw [H3.out]; exact (Only.refl _ _).drew
  have h9 := h9.only hw3 (by simp)
  have hT3 := hT.only hw3 (by simp) (by simp)
  clear c0 c1 hcv hT
  go_wp2_with (fail)
  refine (first_any _ q _ hT3).mono ?_
  rintro e w4 ⟨rfl, hO4⟩
  rw [Hq.out, firstIt_by s p d hpl]
  obtain ⟨y, hy⟩ : ∃ y, y = (itAt s p).by_ d := ⟨_, rfl⟩
  rw [← hy] at hK ⊢
  obtain ⟨ya, yn, yr, yb⟩ := y
  have h9 := h9.only hO4 (by simp)
  have h11 := hw3.trans0 hO4
  have e0' : w4.cell? ⟨bi, 0, none⟩ = some e0 := h9.cell 0
  have e1' : w4.cell? ⟨bi, 1, none⟩ = some e1 := h9.cell 1
  have e2' : w4.cell? ⟨bi, 2, none⟩ = some e2 := h9.cell 2
  have e3' : w4.cell? ⟨bi, 3, none⟩ = some e3 := h9.cell 3
  have z0 := h9.frozen 0
  have z1 := h9.frozen 1
  have z2 := h9.frozen 2
  have z3 := h9.frozen 3
  have HK := Lib.hid hK
  clear hy hO4 hK
  simp only [It.enc]
  go_wp2_with (fail)
  refine HK.out _ _ _ _ _ _ _ _ _ _ _ _ _ _ _ _ _ _ _ _ _ _ _ _ _ _ _ _ _ _ _ _ _ _ _ _ _ _ _ _ _ _ _ _ _ _ _ _ _ _ _ _ _ _ _ _ _ _ ?_ ?_
  · exact (((((h11.mono (by simp)).setCell (.inl (by simp)) _).setCell (.inl (by simp)) _).setCell (.inl (by simp)) _).setCell (.inl (by simp)) _)
  · exact (((h9.set 0 _).set 1 _).set 2 _).set 3 _

/-- it is laid behind the others -/
def R6K (w : World) (w5 : World) (b bi : Nat) (l : List It) (all : Bool) (v0 : Value) (K : Act → World → Prop) : Prop :=
  ∀ (v : Value) (u2 u3 u7 u8 u9 u10 u11 u12 u13 u14 u15 u16 u17 u18 u19 u20 u21 u22 u23 u24 u25 u26 u27 u28 u29 u30 u31 u32 u33 u34 u35 u36 u37 u38 u39 u40 u41 u42 u43 u44 u45 u46 u47 u48 u49 u50 u51 u52 u53 u54 u55 u56 u57 u58 u59 u60 u61 : Value) (W : World), Only v0.ownBlock.toList w5 W → W.ownsRow w.heap.size 33 4 v l.length (l.flatMap It.enc) → (v.ownBlock = v0.ownBlock ∨ ∃ k, v.ownBlock = some k ∧ w5.heap.size ≤ k) → K { tmps := #[.pointer (some ⟨b, 0, none⟩), .bool all, u2, u3, .slice none 0 0, v, .pointer (some ⟨bi, 0, none⟩), u7, u8, u9, u10, u11, u12, u13, u14, u15, u16, u17, u18, u19, u20, u21, u22, u23, u24, u25, u26, u27, u28, u29, u30, u31, u32, u33, u34, u35, u36, u37, u38, u39, u40, u41, u42, u43, u44, u45, u46, u47, u48, u49, u50, u51, u52, u53, u54, u55, u56, u57, u58, u59, u60, u61], defers := [] } W
set_option maxRecDepth 100000 in
set_option maxHeartbeats 4000000 in
theorem tk_r6 (w w5 : World) (b bi : Nat) (l : List It) (y : It) (all : Bool) (v : Value) (u2 u3 u7 u8 u9 u10 u11 u12 u13 u14 u15 u16 u17 u18 u19 u20 u21 u22 u23 u24 u25 u26 u27 u28 u29 u30 u31 u32 u33 u34 u35 u36 u37 u38 u39 u40 u41 u42 u43 u44 u45 u46 u47 u48 u49 u50 u51 u52 u53 u54 u55 u56 u57 u58 u59 u60 u61 : Value) (hb : Blk w5 bi 33 y.enc) (hown : w5.ownsRow w.heap.size 33 4 v l.length (l.flatMap It.enc)) (hw : w.heap.size ≤ w5.heap.size) (hl : l.length + 1 ≤ 5000000) (K : Act → World → Prop) (Q : Exit → Act → World → Prop)
    (hK : R6K w w5 b bi (l ++ [y]) all v K) :
    tkR6.wp Tryd.prog (Exit.then K Q) { tmps := #[.pointer (some ⟨b, 0, none⟩), .bool all, u2, u3, .slice none 0 0, v, .pointer (some ⟨bi, 0, none⟩), u7, u8, u9, u10, u11, u12, u13, u14, u15, u16, u17, u18, u19, u20, u21, u22, u23, u24, u25, u26, u27, u28, u29, u30, u31, u32, u33, u34, u35, u36, u37, u38, u39, u40, u41, u42, u43, u44, u45, u46, u47, u48, u49, u50, u51, u52, u53, u54, u55, u56, u57, u58, u59, u60, u61], defers := [] } w5 := by
  obtain ⟨v', w', hrun, hown', hO', hat⟩ := app_it Tryd.prog 24 33 Tryd.underlying24 (by kernel_rfl) hown hw y hl
  have HK := Lib.hid hK
  have Hrun := Lib.hid hrun
  have Hown := Lib.hid hown'
  have Hat := Lib.hid hat
  obtain ⟨ya, yn, yr, yb⟩ := y
  simp only [It.enc] at hb Hrun
  have c0 : w5.cell? ⟨bi, 0, none⟩ = some (.int .i64 (ya : Int)) := hb.cell 0
  have c1 : w5.cell? ⟨bi, 1, none⟩ = some (.int .i64 (yn : Int)) := hb.cell 1
  have c2 : w5.cell? ⟨bi, 2, none⟩ = some (.int .i32 (yr : Int)) := hb.cell 2
  have c3 : w5.cell? ⟨bi, 3, none⟩ = some (.bool yb) := hb.cell 3
  obtain ⟨A1, cc1, rfl, -⟩ := own_slice hown
  clear hrun hown' hat hK hb hown
  show Code.wp Tryd.prog (Code.region 6 _ false) _ _ _
  go_wp2_with (at_builtin; refine wpList_append_run (o := ⟨some 42, _, _, _, _, _⟩) (by rfl) (.tmp 39) (.tmp 41) 24 24 (by rfl) (by rfl) (by rfl) Hrun.out ?_)
  exact HK.out _ _ _ _ _ _ _ _ _ _ _ _ _ _ _ _ _ _ _ _ _ _ _ _ _ _ _ _ _ _ _ _ _ _ _ _ _ _ _ _ _ _ _ _ _ _ _ _ _ _ _ _ _ _ _ _ _ _ _ hO' Hown.out Hat.out

/-- what is held is cut -/
def R7K (w6 : World) (b bi N n c : Nat) (A : Option Addr) (yn : Nat) (l : List UInt8) (all : Bool) (v : Value) (K : Act → World → Prop) : Prop :=
  ∀ (A' : Option Addr) (u2 u3 u7 u8 u9 u10 u11 u12 u13 u14 u15 u16 u17 u18 u19 u20 u21 u22 u23 u24 u25 u26 u27 u28 u29 u30 u31 u32 u33 u34 u35 u36 u37 u38 u39 u40 u41 u42 u43 u44 u45 u46 u47 u48 u49 u50 u51 u52 u53 u54 u55 u56 u57 u58 u59 u60 u61 : Value) (W : World), Only [b] w6 W → Blk W b 70 [.slice A' (n - yn) (c - yn), .int .i64 (N : Int)] → (∀ B, Rd w6 B 1 A n (bvs l) → Rd w6 B 1 A' (n - yn) ((bvs l).drop (yn * 1))) → (∀ ad, A' = some ad → ∃ ad0, A = some ad0 ∧ ad0.block = ad.block) → K { tmps := #[.pointer (some ⟨b, 0, none⟩), .bool all, u2, u3, .slice none 0 0, v, .pointer (some ⟨bi, 0, none⟩), u7, u8, u9, u10, u11, u12, u13, u14, u15, u16, u17, u18, u19, u20, u21, u22, u23, u24, u25, u26, u27, u28, u29, u30, u31, u32, u33, u34, u35, u36, u37, u38, u39, u40, u41, u42, u43, u44, u45, u46, u47, u48, u49, u50, u51, u52, u53, u54, u55, u56, u57, u58, u59, u60, u61], defers := [] } W
set_option maxRecDepth 100000 in
set_option maxHeartbeats 4000000 in
theorem tk_r7 (w6 : World) (b bi N n c : Nat) (A : Option Addr) (y : It) (l : List UInt8) (all : Bool) (v : Value) (u2 u3 u7 u8 u9 u10 u11 u12 u13 u14 u15 u16 u17 u18 u19 u20 u21 u22 u23 u24 u25 u26 u27 u28 u29 u30 u31 u32 u33 u34 u35 u36 u37 u38 u39 u40 u41 u42 u43 u44 u45 u46 u47 u48 u49 u50 u51 u52 u53 u54 u55 u56 u57 u58 u59 u60 u61 : Value) (hb : Blk w6 b 70 [.slice A n c, .int .i64 (N : Int)]) (hbb : Blk w6 bi 33 y.enc) (hyn : y.n ≤ n) (hnc : n ≤ c) (hR : ∃ B, Rd w6 B 1 A n (bvs l)) (K : Act → World → Prop) (Q : Exit → Act → World → Prop)
    (hK : R7K w6 b bi N n c A y.n l all v K) :
    tkR7.wp Tryd.prog (Exit.then K Q) { tmps := #[.pointer (some ⟨b, 0, none⟩), .bool all, u2, u3, .slice none 0 0, v, .pointer (some ⟨bi, 0, none⟩), u7, u8, u9, u10, u11, u12, u13, u14, u15, u16, u17, u18, u19, u20, u21, u22, u23, u24, u25, u26, u27, u28, u29, u30, u31, u32, u33, u34, u35, u36, u37, u38, u39, u40, u41, u42, u43, u44, u45, u46, u47, u48, u49, u50, u51, u52, u53, u54, u55, u56, u57, u58, u59, u60, u61], defers := [] } w6 := by
  obtain ⟨B, hR⟩ := hR
  obtain ⟨A', hsl, hR', hA'⟩ := hR.slice_lb (P := Tryd.prog) (t := 41) (e := 5) Tryd.underlying41 (by kernel_rfl) (k := y.n) (c := c) rfl hyn hnc
  have hrr : ∀ B, Rd w6 B 1 A n (bvs l) → Rd w6 B 1 A' (n - y.n) ((bvs l).drop (y.n * 1)) := by
    intro B2 h
    obtain ⟨A2, hsl2, hR2, _⟩ := h.slice_lb (P := Tryd.prog) (t := 41) (e := 5) Tryd.underlying41 (by kernel_rfl) (k := y.n) (c := c) rfl hyn hnc
    have e := (hsl .i64 w6).symm.trans (hsl2 .i64 w6)
    injection e with e _
    injection e with e _ _
    rw [e]; exact hR2
  have HK := Lib.hid hK
  have Hrr := Lib.hid hrr
  have HA' := Lib.hid hA'
  have c0 : w6.drew.cell? ⟨b, 0, none⟩ = some (.slice A n c) := hb.cell 0
  have f0 : w6.drew.frozen? ⟨b, 0, none⟩ = false := hb.frozen 0
  have c1 : w6.drew.cell? ⟨bi, 1, none⟩ = some (.int .i64 (y.n : Int)) := hbb.cell 1
  have hsl1 := hsl .i64 w6.drew
  clear hrr hA' hK hsl
  show Code.wp Tryd.prog (Code.region 7 _ true) _ _ _
  go_still_tail 8, (by kernel_rfl)
  go_wp2_with (fail)
  refine HK.out A' _ _ _ _ _ _ _ _ _ _ _ _ _ _ _ _ _ _ _ _ _ _ _ _ _ _ _ _ _ _ _ _ _ _ _ _ _ _ _ _ _ _ _ _ _ _ _ _ _ _ _ _ _ _ _ _ _ _ ?_ ?_ Hrr.out HA'.out
  · exact ((Only.refl _ _).drew).setCell (.inl (by simp)) _
  · exact hb.drew.set 0 _
end Go.Proofs.YteadcibbpbbehaaDoor
