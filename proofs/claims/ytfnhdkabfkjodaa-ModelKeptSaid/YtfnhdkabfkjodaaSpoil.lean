/- tesserakeep.Spoil: all lists of some data are written over. -/
import Derived.Test.YtfnhdkabfkjodaaMd2
set_option linter.unusedVariables false
set_option linter.unusedSimpArgs false
namespace Go.Proofs.Ytfnhdkabfkjodaa
open Go.RowKit

/-- room for n things of K cells each -/
def Room (w : World) (e K : Nat) (v : Value) (n : Nat) : Prop := (v = .slice none 0 0 ∧ n = 0) ∨ ∃ g cap cs, v = .slice (some ⟨g, 0, none⟩) n cap ∧ Blk w g e cs ∧ n * K ≤ cs.length
section
variable {w w' : World} {e K n : Nat} {v : Value}
theorem Room.of_own {base : Nat} {xs : List Value} (h : w.ownsRow base e K v n xs) : Room w e K v n := by
  rcases h.2 with ⟨hv, h0⟩ | ⟨g, cap, cur, hv, hb, hg, hnc, hcm, hcs, htake⟩
  · exact .inl ⟨hv, h0⟩
  · exact .inr ⟨g, cap, cur.toList, hv, Blk.mk' hg rfl, by rw [Array.length_toList, hcs]; exact Nat.mul_le_mul_right K hnc⟩
theorem Room.only (h : Room w e K v n) {l : List Nat} (ho : Only l w w') (hl : ∀ k, v.ownBlock = some k → k ∉ l) : Room w' e K v n := by
  rcases h with h | ⟨g, cap, cs, rfl, hb, hc⟩
  · exact .inl h
  · exact .inr ⟨g, cap, cs, rfl, hb.only ho (hl g rfl), hc⟩
theorem Room.set (h : Room w e K v n) (p : Nat) (j : Nat) (u : Value) : Room (w.setCell ⟨p, j, none⟩ u) e K v n := by
  rcases h with h | ⟨g, cap, cs, rfl, hb, hc⟩
  · exact .inl h
  · by_cases hg : g = p
    · subst hg; exact .inr ⟨g, cap, cs.set j u, rfl, hb.set j u, by simpa using hc⟩
    · exact .inr ⟨g, cap, cs, rfl, hb.far hg _, hc⟩
end

theorem own_len {w : World} {base e K n : Nat} {v : Value} {xs : List Value} (h : w.ownsRow base e K v n xs) : n ≤ 9223372036854775807 := by
  rcases h.2 with ⟨hv, h0⟩ | ⟨g, cap, cur, hv, hb, hg, hnc, hcm, hcs, htake⟩
  · omega
  · simp only [maxLen] at hcm; omega

/-- while Spoil writes: the box of the lists, the lists, what was touched -/
structure SpI (w wr : World) (h : Nat) (Z : List Nat) (v0 v1 v2 v3 v4 : Value) (n0 n1 n2 n3 n4 : Nat) : Prop where
  box : Blk wr h 26 [v0, v1, v2, v3, v4]
  r0 : Room wr 9 1 v0 n0
  r1 : Room wr 38 3 v1 n1
  r2 : Room wr 67 2 v2 n2
  r3 : Room wr 67 2 v3 n3
  r4 : Room wr 67 2 v4 n4
  only : Only Z w wr
theorem SpI.set {w wr : World} {h : Nat} {Z : List Nat} {v0 v1 v2 v3 v4 : Value} {n0 n1 n2 n3 n4 : Nat} (s : SpI w wr h Z v0 v1 v2 v3 v4 n0 n1 n2 n3 n4) {p : Nat} (hp : p ∈ Z) (hh : h ∉ Z) (j : Nat) (u : Value) : SpI w (wr.setCell ⟨p, j, none⟩ u) h Z v0 v1 v2 v3 v4 n0 n1 n2 n3 n4 :=
  ⟨s.box.far (by intro e; subst e; exact hh hp) _, s.r0.set p j u, s.r1.set p j u, s.r2.set p j u, s.r3.set p j u, s.r4.set p j u, s.only.setCell (.inl hp) u⟩
theorem SpI.go {w wr wx : World} {h : Nat} {Z : List Nat} {v0 v1 v2 v3 v4 : Value} {n0 n1 n2 n3 n4 : Nat} (s : SpI w wr h Z v0 v1 v2 v3 v4 n0 n1 n2 n3 n4) (hO : Only [] wr wx) : SpI w wx h Z v0 v1 v2 v3 v4 n0 n1 n2 n3 n4 :=
  ⟨s.box.only hO (by simp), s.r0.only hO (by simp), s.r1.only hO (by simp), s.r2.only hO (by simp), s.r3.only hO (by simp), s.r4.only hO (by simp), s.only.trans0 hO⟩

set_option maxRecDepth 100000 in
set_option maxHeartbeats 4000000 in
theorem spoil_any (w : World) (base : Nat) (v0 v1 v2 v3 v4 : Value) (n0 n1 n2 n3 n4 : Nat) (x0 x1 x2 x3 x4 : List Value) (H0 : w.ownsRow base 9 1 v0 n0 x0) (H1 : w.ownsRow base 38 3 v1 n1 x1) (H2 : w.ownsRow base 67 2 v2 n2 x2) (H3 : w.ownsRow base 67 2 v3 n3 x3) (H4 : w.ownsRow base 67 2 v4 n4 x4) :
    Calls Try.prog 20 #[.agg #[v0, v1, v2, v3, v4]] w fun e w' => e = .returned (.tuple #[]) ∧ Only (v0.ownBlock.toList ++ (v1.ownBlock.toList ++ (v2.ownBlock.toList ++ (v3.ownBlock.toList ++ v4.ownBlock.toList)))) w w' := by
  obtain ⟨Z, hZ⟩ : ∃ Z, Z = v0.ownBlock.toList ++ (v1.ownBlock.toList ++ (v2.ownBlock.toList ++ (v3.ownBlock.toList ++ v4.ownBlock.toList))) := ⟨_, rfl⟩
  rw [← hZ]
  have hZb : ∀ x ∈ Z, base ≤ x ∧ x < w.heap.size := by
    intro x hx
    rw [hZ] at hx
    simp only [List.mem_append, Option.mem_toList] at hx
    rcases hx with hx | hx | hx | hx | hx
    · exact own_lt H0 hx
    · exact own_lt H1 hx
    · exact own_lt H2 hx
    · exact own_lt H3 hx
    · exact own_lt H4 hx
  have z0 : ∀ k, v0.ownBlock = some k → k ∈ Z := by intro k hk; rw [hZ]; simp [hk]
  have z1 : ∀ k, v1.ownBlock = some k → k ∈ Z := by intro k hk; rw [hZ]; simp [hk]
  have z2 : ∀ k, v2.ownBlock = some k → k ∈ Z := by intro k hk; rw [hZ]; simp [hk]
  have z3 : ∀ k, v3.ownBlock = some k → k ∈ Z := by intro k hk; rw [hZ]; simp [hk]
  have z4 : ∀ k, v4.ownBlock = some k → k ∈ Z := by intro k hk; rw [hZ]; simp [hk]
  obtain ⟨h, hh⟩ : ∃ h, h = w.heap.size := ⟨_, rfl⟩
  have hhZ : h ∉ Z := fun hx => by have := (hZb h hx).2; omega
  have hbox : Blk (w.alloc (.cells #[v0, v1, v2, v3, v4] 26)) h 26 [v0, v1, v2, v3, v4] := Blk.new' _ _ _ hh.symm rfl
  have hO : Only [] w (w.alloc (.cells #[v0, v1, v2, v3, v4] 26)) := (Only.refl _ _).alloc _
  have hI : SpI w (w.alloc (.cells #[v0, v1, v2, v3, v4] 26)) h Z v0 v1 v2 v3 v4 n0 n1 n2 n3 n4 :=
    ⟨hbox, (Room.of_own H0).only hO (by simp), (Room.of_own H1).only hO (by simp), (Room.of_own H2).only hO (by simp), (Room.of_own H3).only hO (by simp), (Room.of_own H4).only hO (by simp), hO.mono (by simp)⟩
  have m0 : n0 ≤ 9223372036854775807 := own_len H0
  have m1 : n1 ≤ 9223372036854775807 := own_len H1
  have m2 : n2 ≤ 9223372036854775807 := own_len H2
  have m3 : n3 ≤ 9223372036854775807 := own_len H3
  have m4 : n4 ≤ 9223372036854775807 := own_len H4
  obtain ⟨A0, c0, rfl, hc0, -⟩ := own_slice H0
  obtain ⟨A1, c1, rfl, hc1, -⟩ := own_slice H1
  obtain ⟨A2, c2, rfl, hc2, -⟩ := own_slice H2
  obtain ⟨A3, c3, rfl, hc3, -⟩ := own_slice H3
  obtain ⟨A4, c4, rfl, hc4, -⟩ := own_slice H4
  clear hZ H0 H1 H2 H3 H4 hbox hO hc0 hc1 hc2 hc3 hc4
  have Hh := Lib.hid hh
  clear hh
  go_enter Try.func20, Try.ntmps20
  go_wp2_with (fail)
  rw [← Hh.out]
  go_loopw [2] (fun i wr => ∃ k : Nat, i = .int .i64 (k : Int) ∧ k ≤ n0 ∧ SpI w wr h Z (.slice A0 n0 c0) (.slice A1 n1 c1) (.slice A2 n2 c2) (.slice A3 n3 c3) (.slice A4 n4 c4) n0 n1 n2 n3 n4) (fun i _ => n0 - (intOf i).toNat)
  case atStart => exact ⟨0, rfl, by omega, hI⟩
  case round =>
    clear hI
    obtain ⟨k, rfl, hk, hI⟩ := hrel
    have x0 : wr.cell? ⟨h, 0, none⟩ = some (.slice A0 n0 c0) := hI.box.cell 0
    by_cases hlt : k < n0
    · rcases hI.r0 with ⟨e1, e2⟩ | ⟨g, cap, cs, e1, hb, hcs⟩
      · omega
      · injection e1 with e1 e2 e3
        subst e1 e3
        obtain ⟨q0, hq0⟩ : ∃ q, cs[k]? = some q := ⟨_, List.getElem?_eq_getElem (by omega)⟩
        have y0 : wr.cell? ⟨g, k, none⟩ = some q0 := (hb.cell k).trans hq0
        have f0 := hb.frozen k
        have hnx := fun u => hI.set (p := g) (z0 g rfl) hhZ k u
        clear hq0 hb hcs
        go_wp2_with (fail)
        go_roundw
        case rel => exact ⟨k + 1, by go_num, by omega, hnx _⟩
        case measure => simp [intOf]; omega
    · go_wp2_with (fail)
      clear x0 hlt hk z0
      have hI0 := hI
      clear hI
      go_loopw [3] (fun i wr => ∃ k : Nat, i = .int .i64 (k : Int) ∧ k ≤ n1 ∧ SpI w wr h Z (.slice A0 n0 c0) (.slice A1 n1 c1) (.slice A2 n2 c2) (.slice A3 n3 c3) (.slice A4 n4 c4) n0 n1 n2 n3 n4) (fun i _ => n1 - (intOf i).toNat)
      case atStart => exact ⟨0, rfl, by omega, hI0⟩
      case round =>
        clear hI0
        obtain ⟨k, rfl, hk, hI⟩ := hrel
        have x1 : wr.cell? ⟨h, 1, none⟩ = some (.slice A1 n1 c1) := hI.box.cell 1
        by_cases hlt : k < n1
        · rcases hI.r1 with ⟨e1, e2⟩ | ⟨g, cap, cs, e1, hb, hcs⟩
          · omega
          · injection e1 with e1 e2 e3
            subst e1 e3
            obtain ⟨q0, hq0⟩ : ∃ q, cs[k * 3]? = some q := ⟨_, List.getElem?_eq_getElem (by omega)⟩
            obtain ⟨q1, hq1⟩ : ∃ q, cs[k * 3 + 1]? = some q := ⟨_, List.getElem?_eq_getElem (by omega)⟩
            obtain ⟨q2, hq2⟩ : ∃ q, cs[k * 3 + 2]? = some q := ⟨_, List.getElem?_eq_getElem (by omega)⟩
            have y0 : wr.cell? ⟨g, k * 3, none⟩ = some q0 := (hb.cell _).trans hq0
            have y1 : wr.cell? ⟨g, k * 3 + 1, none⟩ = some q1 := (hb.cell _).trans hq1
            have y2 : wr.cell? ⟨g, k * 3 + 2, none⟩ = some q2 := (hb.cell _).trans hq2
            have f0 := hb.frozen (k * 3)
            have f1 := hb.frozen (k * 3 + 1)
            have f2 := hb.frozen (k * 3 + 2)
            have hnx := fun u0 u1 u2 => ((hI.set (p := g) (z1 g rfl) hhZ (k * 3) u0).set (p := g) (z1 g rfl) hhZ (k * 3 + 1) u1).set (p := g) (z1 g rfl) hhZ (k * 3 + 2) u2
            clear hq0 hq1 hq2 hb hcs
            go_wp2_with (fail)
            go_roundw
            case rel => exact ⟨k + 1, by go_num, by omega, hnx _ _ _⟩
            case measure => simp [intOf]; omega
        · have x2 : wr.cell? ⟨h, 2, none⟩ = some (.slice A2 n2 c2) := hI.box.cell 2
          have x3 : wr.cell? ⟨h, 3, none⟩ = some (.slice A3 n3 c3) := hI.box.cell 3
          have x4 : wr.cell? ⟨h, 4, none⟩ = some (.slice A4 n4 c4) := hI.box.cell 4
          obtain ⟨h2, hh2⟩ : ∃ h2, h2 = wr.heap.size := ⟨_, rfl⟩
          obtain ⟨W2, hW2⟩ : ∃ W2, W2 = wr.alloc (.cells #[.slice A2 n2 c2, .slice A3 n3 c3, .slice A4 n4 c4] 24) := ⟨_, rfl⟩
          have hb2 : Blk W2 h2 24 [.slice A2 n2 c2, .slice A3 n3 c3, .slice A4 n4 c4] := by rw [hW2]; exact Blk.new' _ _ _ hh2.symm rfl
          have hI2 := hI.go (wx := W2) (by rw [hW2]; exact (Only.refl _ _).alloc _)
          have hh2Z : h2 ∉ Z := fun hx => by have := (hZb h2 hx).2; have := hI.only.size; omega
          have Hh2 := Lib.hid hh2
          have HW2 := Lib.hid hW2
          clear hh2 hW2 hI
          go_wp2_with (fail)
          rw [← Hh2.out, ← HW2.out]
          clear x1 x2 x3 x4 hlt hk z1
          go_loopw [38] (fun i wr => ∃ k : Nat, i = .int .i64 (k : Int) ∧ k ≤ 3 ∧ SpI w wr h Z (.slice A0 n0 c0) (.slice A1 n1 c1) (.slice A2 n2 c2) (.slice A3 n3 c3) (.slice A4 n4 c4) n0 n1 n2 n3 n4 ∧ Blk wr h2 24 [.slice A2 n2 c2, .slice A3 n3 c3, .slice A4 n4 c4]) (fun i _ => 3 - (intOf i).toNat)
          case atStart => exact ⟨0, rfl, by omega, hI2, hb2⟩
          case round =>
            clear hI2 hb2
            obtain ⟨k, rfl, hk, hI, hb2⟩ := hrel
            by_cases hlt : k < 3
            · obtain ⟨A, n, c, hc, hn, hz, hR⟩ : ∃ A n c, wr.cell? ⟨h2, k, none⟩ = some (.slice A n c) ∧ n ≤ 9223372036854775807 ∧ (∀ k, (Value.slice A n c).ownBlock = some k → k ∈ Z) ∧ ∀ W, SpI w W h Z (.slice A0 n0 c0) (.slice A1 n1 c1) (.slice A2 n2 c2) (.slice A3 n3 c3) (.slice A4 n4 c4) n0 n1 n2 n3 n4 → Room W 67 2 (.slice A n c) n := by
                have : k = 0 ∨ k = 1 ∨ k = 2 := by omega
                rcases this with rfl | rfl | rfl
                · exact ⟨_, _, _, hb2.cell 0, m2, z2, fun W hW => hW.r2⟩
                · exact ⟨_, _, _, hb2.cell 1, m3, z3, fun W hW => hW.r3⟩
                · exact ⟨_, _, _, hb2.cell 2, m4, z4, fun W hW => hW.r4⟩
              go_wp2_with (fail)
              have hI0 := hI
              have hb0 := hb2
              clear hI hb2 hc
              go_loopw [6] (fun i wr => ∃ k : Nat, i = .int .i64 (k : Int) ∧ k ≤ n ∧ SpI w wr h Z (.slice A0 n0 c0) (.slice A1 n1 c1) (.slice A2 n2 c2) (.slice A3 n3 c3) (.slice A4 n4 c4) n0 n1 n2 n3 n4 ∧ Blk wr h2 24 [.slice A2 n2 c2, .slice A3 n3 c3, .slice A4 n4 c4]) (fun i _ => n - (intOf i).toNat)
              case atStart => exact ⟨0, rfl, by omega, hI0, hb0⟩
              case round =>
                clear hI0 hb0
                obtain ⟨j, rfl, hj, hI, hb2⟩ := hrel
                by_cases hlt6 : j < n
                · rcases hR _ hI with ⟨e1, e2⟩ | ⟨g, cap, cs, e1, hb, hcs⟩
                  · omega
                  · injection e1 with e1 e2 e3
                    subst e1 e3
                    obtain ⟨q0, hq0⟩ : ∃ q, cs[j * 2]? = some q := ⟨_, List.getElem?_eq_getElem (by omega)⟩
                    obtain ⟨q1, hq1⟩ : ∃ q, cs[j * 2 + 1]? = some q := ⟨_, List.getElem?_eq_getElem (by omega)⟩
                    have y0 : wr.cell? ⟨g, j * 2, none⟩ = some q0 := (hb.cell _).trans hq0
                    have y1 : wr.cell? ⟨g, j * 2 + 1, none⟩ = some q1 := (hb.cell _).trans hq1
                    have f0 := hb.frozen (j * 2)
                    have f1 := hb.frozen (j * 2 + 1)
                    have hg2 : h2 ≠ g := fun e => hh2Z (by rw [e]; exact hz g rfl)
                    have hnx := fun u0 u1 => (hI.set (p := g) (hz g rfl) hhZ (j * 2) u0).set (p := g) (hz g rfl) hhZ (j * 2 + 1) u1
                    have hnb := fun u0 u1 => (hb2.far (p := ⟨g, j * 2, none⟩) hg2 u0).far (p := ⟨g, j * 2 + 1, none⟩) hg2 u1
                    clear hq0 hq1 hb hcs hR
                    go_wp2_with (fail)
                    go_roundw
                    case rel => exact ⟨j + 1, by go_num, by omega, hnx _ _, hnb _ _⟩
                    case measure => simp [intOf]; omega
                · go_wp2_with (fail)
                  go_roundw
                  case rel => exact ⟨k + 1, by go_num, by omega, hI, hb2⟩
                  case measure => simp [intOf]; omega
            · go_wp2_with (fail)
              go_end0
              exact ⟨rfl, hI.only⟩
end Go.Proofs.Ytfnhdkabfkjodaa
