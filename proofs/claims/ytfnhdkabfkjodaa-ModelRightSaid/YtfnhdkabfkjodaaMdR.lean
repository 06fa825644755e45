/- ModelRight. -/
import Derived.Test.YtfnhdkabfkjodaaTk3
import Derived.Test.YtfnhdkabfkjodaaTk4
import Derived.Test.YtfnhdkabfkjodaaKn5
set_option linter.unusedVariables false
set_option linter.unusedSimpArgs false
namespace Go.Proofs.Ytfnhdkabfkjodaa
open Go.RowKit

theorem HandX.rd {w : World} {f : Nat} {v0 v1 v2 v3 v4 : Value} {G0 G1 G2 G3 G4 : Nat} {ws : List ByteArray} {ms : List Mg} {a b d : List Sp} (h : HandX w f v0 v1 v2 v3 v4 G0 G1 G2 G3 G4 ws ms a b d) :
    Rd5 w (.slice (some ⟨G0, 0, none⟩) ws.length (ws.length + 80)) (.slice (some ⟨G1, 0, none⟩) ms.length (ms.length + 80)) (.slice (some ⟨G2, 0, none⟩) a.length (a.length + 80)) (.slice (some ⟨G3, 0, none⟩) b.length (b.length + 80)) (.slice (some ⟨G4, 0, none⟩) d.length (d.length + 80)) ws ms a b d :=
  ⟨⟨_, _, rfl, by omega, (rd_roomyW h.b0 rfl).2⟩, ⟨_, _, rfl, by omega, (rd_roomyM h.b1 rfl).2⟩, ⟨_, _, rfl, by omega, (rd_roomyS h.b2 rfl).2⟩, ⟨_, _, rfl, by omega, (rd_roomyS h.b3 rfl).2⟩, ⟨_, _, rfl, by omega, (rd_roomyS h.b4 rfl).2⟩⟩

set_option maxRecDepth 100000 in
set_option maxHeartbeats 8000000 in
theorem modelRight_walk (w : World) (v0 v1 v2 v3 v4 : Value) (ws : List ByteArray) (ms : List Mg) (a b d : List Sp) (hR : Rd5 w v0 v1 v2 v3 v4 ws ms a b d)
    (s0 : ws.length ≤ 8796093021952) (s1 : ms.length ≤ 5864062014634) (s2 : a.length ≤ 17592186043904) (s3 : b.length ≤ 17592186043904) (s4 : d.length ≤ 17592186043904) (hws : ∀ s ∈ ws, s.size ≤ maxLen) (hms : ∀ m ∈ ms, m.ok) :
    Calls Try.prog 3 #[.agg #[v0, v1, v2, v3, v4]] w fun e w' => e = .returned (.bool true) ∧ Only [] w w' := by
  obtain ⟨h, hh⟩ : ∃ h, h = w.heap.size := ⟨_, rfl⟩
  obtain ⟨W1, hW1⟩ : ∃ W1, W1 = w.alloc (.cells #[v0, v1, v2, v3, v4] 26) := ⟨_, rfl⟩
  have hb : Blk W1 h 26 [v0, v1, v2, v3, v4] := by rw [hW1]; exact Blk.new' _ _ _ hh.symm rfl
  have hO : Only [] w W1 := by rw [hW1]; exact (Only.refl _ _).alloc _
  have hR1 := hR.only hO
  have HR5 := Lib.hid hR1
  obtain ⟨⟨A0, c0, e0, -⟩, ⟨A1, c1, e1, -⟩, ⟨A2, c2, e2, -⟩, ⟨A3, c3, e3, -⟩, ⟨A4, c4, e4, -⟩⟩ := hR1
  obtain ⟨n0, hn0⟩ : ∃ n, n = ws.length := ⟨_, rfl⟩
  obtain ⟨n1, hn1⟩ : ∃ n, n = ms.length := ⟨_, rfl⟩
  obtain ⟨n2, hn2⟩ : ∃ n, n = a.length := ⟨_, rfl⟩
  obtain ⟨n3, hn3⟩ : ∃ n, n = b.length := ⟨_, rfl⟩
  obtain ⟨n4, hn4⟩ : ∃ n, n = d.length := ⟨_, rfl⟩
  rw [← hn0] at e0
  rw [← hn1] at e1
  rw [← hn2] at e2
  rw [← hn3] at e3
  rw [← hn4] at e4
  subst e0 e1 e2 e3 e4
  have k0 : W1.cell? ⟨h, 0, none⟩ = some (.slice A0 n0 c0) := hb.cell 0
  have k1 : W1.cell? ⟨h, 1, none⟩ = some (.slice A1 n1 c1) := hb.cell 1
  have k2 : W1.cell? ⟨h, 2, none⟩ = some (.slice A2 n2 c2) := hb.cell 2
  have k3 : W1.cell? ⟨h, 3, none⟩ = some (.slice A3 n3 c3) := hb.cell 3
  have k4 : W1.cell? ⟨h, 4, none⟩ = some (.slice A4 n4 c4) := hb.cell 4
  have hhd := handed_any W1 _ _ _ _ _ ws ms a b d HR5.out s0 s1 s2 s3 s4
  have Hhd := Lib.hid hhd
  have N0 := Lib.hid hn0
  have N1 := Lib.hid hn1
  have N2 := Lib.hid hn2
  have N3 := Lib.hid hn3
  have N4 := Lib.hid hn4
  have Hs := Lib.hid (And.intro s0 (And.intro s1 (And.intro s2 (And.intro s3 s4))))
  have Hws := Lib.hid hws
  have Hms := Lib.hid hms
  have Hh := Lib.hid hh
  have HW := Lib.hid hW1
  have HO := Lib.hid hO
  clear hh hW1 hb hR hhd hws hms hn0 hn1 hn2 hn3 hn4 s0 s1 s2 s3 s4 hO
  go_enter Try.func3, Try.ntmps3
  go_upto_region 1 with (fail)
  rw [← Hh.out, ← HW.out]
  go_wp2_with (fail)
  refine Hhd.out.mono ?_
  rintro e W2 ⟨f, G0, G1, G2, G3, G4, rfl, hX, hO2⟩
  rw [← N0.out, ← N1.out, ← N2.out, ← N3.out, ← N4.out]
  have HX := Lib.hid hX
  clear k0 k1 k2 k3 k4 hX Hhd
  obtain ⟨q, hq⟩ : ∃ h, h = W2.heap.size := ⟨_, rfl⟩
  obtain ⟨W3, hW3⟩ : ∃ W3, W3 = W2.alloc (.cells #[.slice (some ⟨G0, 0, none⟩) n0 (n0 + 80), .slice (some ⟨G1, 0, none⟩) n1 (n1 + 80), .slice (some ⟨G2, 0, none⟩) n2 (n2 + 80), .slice (some ⟨G3, 0, none⟩) n3 (n3 + 80), .slice (some ⟨G4, 0, none⟩) n4 (n4 + 80)] 26) := ⟨_, rfl⟩
  have hb : Blk W3 q 26 [.slice (some ⟨G0, 0, none⟩) n0 (n0 + 80), .slice (some ⟨G1, 0, none⟩) n1 (n1 + 80), .slice (some ⟨G2, 0, none⟩) n2 (n2 + 80), .slice (some ⟨G3, 0, none⟩) n3 (n3 + 80), .slice (some ⟨G4, 0, none⟩) n4 (n4 + 80)] := by rw [hW3]; exact Blk.new' _ _ _ hq.symm rfl
  have hO23 : Only [] W2 W3 := by rw [hW3]; exact (Only.refl _ _).alloc _
  have hof := ofM_any W3 _ _ _ _ _ ws ms a b d (HX.out.only hO23).rd (by have := Hs.out; omega) (by have := Hs.out; omega) Hs.out.2.2.1 Hs.out.2.2.2.1 Hs.out.2.2.2.2 Hws.out Hms.out
  rw [← N0.out, ← N1.out, ← N2.out, ← N3.out, ← N4.out] at hof
  have Hof := Lib.hid hof
  have k0 : W3.cell? ⟨q, 0, none⟩ = some _ := hb.cell 0
  have k1 : W3.cell? ⟨q, 1, none⟩ = some _ := hb.cell 1
  have k2 : W3.cell? ⟨q, 2, none⟩ = some _ := hb.cell 2
  have k3 : W3.cell? ⟨q, 3, none⟩ = some _ := hb.cell 3
  have k4 : W3.cell? ⟨q, 4, none⟩ = some _ := hb.cell 4
  have HW3 := Lib.hid hW3
  have Hq := Lib.hid hq
  clear hof hb hW3 hq
  go_upto_region 2 with (fail)
  rw [← Hq.out, ← HW3.out]
  go_wp2_with (fail)
  refine Hof.out.mono ?_
  rintro e W4 hpost
  have hpo := hpost.no
  obtain ⟨v, up, rfl, hO4⟩ : ∃ v up, e = .returned (.tuple #[v, .bool up, .bool true]) ∧ Only [] W3 W4 := by
    rcases hpo with ⟨rfl, h⟩ | ⟨g, base, rfl, h, -⟩
    · exact ⟨_, _, rfl, h⟩
    · exact ⟨_, _, rfl, h⟩
  have hO14 := hO2.trans (hO23.trans hO4)
  have hin := intact5_any W4 f _ _ _ _ _ G0 G1 G2 G3 G4 ws ms a b d (HX.out.only (hO23.trans hO4)) (HR5.out.only hO14) Hs.out.1 Hs.out.2.1 Hs.out.2.2.1 Hs.out.2.2.2.1 Hs.out.2.2.2.2
  have Hin := Lib.hid hin
  clear hpost hpo k0 k1 k2 k3 k4 hin Hof
  cases up
  all_goals
    go_wp2_with (fail)
    refine Hin.out.mono ?_
    rintro e W5 ⟨rfl, hO5⟩
    go_wp2_with (fail)
    refine (known5_any W5).mono ?_
    rintro e W6 ⟨rfl, hO6⟩
    go_wp2_with (fail)
    go_ret
    exact ⟨rfl, HO.out.trans (hO14.trans (hO5.trans hO6))⟩
end Go.Proofs.Ytfnhdkabfkjodaa
