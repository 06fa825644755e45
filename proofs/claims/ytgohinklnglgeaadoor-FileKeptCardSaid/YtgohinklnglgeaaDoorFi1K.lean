/- The numbers in words; refusals in words. -/
import Derived.Test.YtgohinklnglgeaaDoorFi0K
import Derived.Test.YtgohinklnglgeaaDoorPk1
import Derived.Test.YtgohinklnglgeaaDoorPk2
import Derived.Test.YtgohinklnglgeaaDoorShelf
import Derived.Lib.ItoaLen
import Derived.Deep.RegionWith
set_option linter.unusedVariables false
set_option linter.unusedSimpArgs false
namespace Go.Proofs.YtgohinklnglgeaaDoor
open Go.RowKit
attribute [local go_sem] Oper.semAt_some

def noneOf : Value → Nat | .slice none _ _ => 1 | _ => 0
set_option maxRecDepth 100000 in
set_option maxHeartbeats 4000000 in
theorem errText_any (k : Nat) (hk : k ≤ 1000000) (w : World) : Calls Tryd.prog 63 #[.int .i64 (k : Int)] w fun e w' => (∃ s, e = .returned (.string s) ∧ s.size ≤ 2000000) ∧ Only [] w w' := by
  by_cases h0 : k = 0
  · subst h0
    go_enter Tryd.func63, Tryd.ntmps63
    go_wp2
    go_ret
    exact ⟨⟨_, rfl, by decide⟩, Only.refl _ _⟩
  by_cases h1 : k = 1
  · subst h1
    go_enter Tryd.func63, Tryd.ntmps63
    go_wp2
    go_ret
    exact ⟨⟨_, rfl, by decide⟩, Only.refl _ _⟩
  by_cases h10 : k = 10
  · subst h10
    go_enter Tryd.func63, Tryd.ntmps63
    go_wp2
    go_ret
    exact ⟨⟨_, rfl, by decide⟩, Only.refl _ _⟩
  by_cases h40 : k = 40
  · subst h40
    go_enter Tryd.func63, Tryd.ntmps63
    go_wp2
    go_ret
    exact ⟨⟨_, rfl, by decide⟩, Only.refl _ _⟩
  have e0 : ((k : Int) == 0) = false := by simp; omega
  have e1 : ((k : Int) == 1) = false := by simp; omega
  have e10 : ((k : Int) == 10) = false := by simp; omega
  have e40 : ((k : Int) == 40) = false := by simp; omega
  have hkn : ¬ (k : Int) < 0 := by omega
  go_enter Tryd.func63, Tryd.ntmps63
  go_wp2
  go_loopw [3, 4] (fun vn vb wr => ∃ (m : Nat) (l : List UInt8), vn = .int .i64 (m : Int) ∧ l.length + m ≤ k + 1 ∧ (l = [] → vb = .slice none 0 0) ∧ (l ≠ [] → ∃ g cap, vb = .slice (some ⟨g, 0, none⟩) l.length cap) ∧ wr.ownsRow w.heap.size 5 1 vb l.length (bvs l) ∧ Only [] w wr) (fun vn vb _ => 2 * (intOf vn).toNat + noneOf vb)
  case atStart => exact ⟨k, [], rfl, by simp, fun _ => rfl, fun h => absurd rfl h, ⟨rfl, .inl ⟨rfl, rfl⟩⟩, .refl _ _⟩
  case round =>
    obtain ⟨m, l, rfl, hlm, hnil, hsome, hown, hO⟩ := hrel
    obtain ⟨A, c, rfl, hnc, hR, -⟩ := own_slice hown
    have hd : (m : Int).tmod 10 = ((m % 10 : Nat) : Int) := by rw [Int.tmod_eq_emod_of_nonneg (by omega)]; omega
    have hq : (m : Int).tdiv 10 = ((m / 10 : Nat) : Int) := by rw [Int.tdiv_eq_ediv_of_nonneg (by omega)]; omega
    have hw1 : IntKind.u8.wrap (48 + ((m % 10 : Nat) : Int)) = ((48 + m % 10 : Nat) : Int) := by have := Nat.mod_lt m (show 0 < 10 by omega); rw [show IntKind.u8.wrap (48 + ((m % 10 : Nat) : Int)) = (48 + ((m % 10 : Nat) : Int)) % 256 by rfl]; omega
    obtain ⟨x, hx⟩ : ∃ x : UInt8, (x.toNat : Int) = ((48 + m % 10 : Nat) : Int) := ⟨UInt8.ofNat (48 + m % 10), by simp; omega⟩
    obtain ⟨gb, hgb⟩ : ∃ z, z = wr.heap.size := ⟨_, rfl⟩
    have hlit : Blk (wr.alloc (.cells #[.int .u8 (x.toNat : Int)] 5)) gb 5 (bvs [x] ++ []) := Blk.new' _ _ _ hgb.symm rfl
    have hown1 : (wr.alloc (.cells #[.int .u8 (x.toNat : Int)] 5)).ownsRow w.heap.size 5 1 (.slice (some ⟨gb, 0, none⟩) 1 1) 1 (bvs [x]) := own_of_blk hlit (by have := hO.size; omega) rfl rfl (by omega) (by simp [maxLen])
    obtain ⟨v', w', hrun, hown', hO', -, hnv⟩ := run_append_row (P := Tryd.prog) w.heap.size 22 22 5 (.int .u8 0) 1 1 Tryd.underlying22 byteInfo' rfl (by omega) hown1 c (hR.alloc (.cells #[.int .u8 (x.toNat : Int)] 5)) (by simp [bvs, bv, Value.oneCell']) (by simp only [maxLen]; omega) (by omega) (by have := hO.size; simp; omega)
    have hOw : Only [] w w' := (hO.alloc _).trans' hO' (by simp [Value.ownBlock]; have := hO.size; omega)
    rw [hx] at hrun
    have e2 : bvs [x] ++ bvs l = bvs (x :: l) := rfl
    rw [e2, show 1 + l.length = (x :: l).length by rw [List.length_cons]; omega] at hown'
    obtain ⟨g', cap', sp', rfl, -⟩ := own_shape hown' (by simp)
    have Hrun := Lib.hid hrun
    have Hown := Lib.hid hown'
    have Hown0 := Lib.hid hown
    have Hgb := Lib.hid hgb
    have hmm : 0 ≤ (m : Int) := by omega
    by_cases hm : 0 < m
    · have hmi : (0 : Int) < (m : Int) := by omega
      clear hx hlit hown1 hrun hown' hO' hnv hgb hR hown hnil hsome
      go_wp2_with ((at_builtin; rw [← Hgb.out]; refine wpList_append_run (o := ⟨some 30, _, _, _, _, _⟩) (by rfl) (.tmp 28) (.tmp 29) 22 22 (by rfl) (by rfl) (by rfl) Hrun.out ?_))
      go_roundw
      case rel => exact ⟨m / 10, x :: l, by go_num, by rw [List.length_cons]; omega, by simp, fun _ => ⟨_, _, rfl⟩, Hown.out, hOw⟩
      case measure => simp [intOf, noneOf]; omega
    · obtain rfl : m = 0 := by omega
      by_cases hl : l = []
      · subst hl
        obtain ⟨rfl, rfl⟩ : A = none ∧ c = 0 := by have := hnil rfl; simpa using this
        clear hx hlit hown1 hrun hown' hO' hnv hgb hR hown hnil hsome
        go_wp2_with ((at_builtin; rw [← Hgb.out]; refine wpList_append_run (o := ⟨some 30, _, _, _, _, _⟩) (by rfl) (.tmp 28) (.tmp 29) 22 22 (by rfl) (by rfl) (by rfl) Hrun.out ?_))
        go_roundw
        case rel => exact ⟨0, [x], by go_num, by simp, by simp, fun _ => ⟨_, _, rfl⟩, Hown.out, hOw⟩
        case measure => simp [intOf, noneOf]
      · obtain ⟨g, cap, he⟩ := hsome hl
        obtain ⟨rfl, rfl⟩ : A = some ⟨g, 0, none⟩ ∧ c = cap := by simpa using he
        have hl0 : l.length ≠ 0 := fun h => hl (List.eq_nil_of_length_eq_zero h)
        have hli : ((l.length : Int) == 0) = false := by simp; exact hl
        clear hx hlit hown1 hrun hown' hO' hnv hgb hown hnil hsome he
        have hst := run_string_rd (P := Tryd.prog) 22 9 5 Tryd.underlying22 Tryd.underlying5 Tryd.underlying9 c hR
        have hsl : (str l).size ≤ 1000001 := by rw [str_size]; omega
        have hov : ¬ 9223372036854775807 < 8 + (str l).size := by omega
        go_wp2_with (fail)
        go_ret
        exact ⟨⟨_, rfl, by rw [ByteArray.size_append]; simp only [ByteArray.size, List.size_toArray, List.length_cons, List.length_nil]; show _ + (str l).size ≤ _; omega⟩, hO⟩
/-- strconv.Itoa: some text -/
theorem itoa_any (n : Nat) (hn : n ≤ 1000000000) (w : World) (htab : Lib.TabIs Tryd.prog w "internal/strconv.uint64pow10" .u64 Lib.pow10Tab) :
    Calls Tryd.prog 62 #[.int .i64 (n : Int)] w fun e w' => (∃ s, e = .returned (.string s) ∧ s.size ≤ 100) ∧ Only [] w w' := by
  refine (Tryd.strconv_Itoa (n : Int) (by omega) (by omega) w htab).mono ?_
  rintro e w' ⟨rfl, k, os, rfl⟩
  exact ⟨⟨_, rfl, by have := Lib.itoa_length_le (n : Int) (by omega) (by omega); simp only [ByteArray.size, List.size_toArray]; omega⟩, ⟨rfl, rfl, rfl, by simp [Go.Sort.grow], fun k hk _ => by simp only [Go.Sort.grow]; exact Array.getElem?_append_left hk⟩⟩
set_option maxRecDepth 100000 in
set_option maxHeartbeats 4000000 in
/-- '(r *Refusal) Error()': some words -/
theorem refusalText_any (b : Nat) (at_ why : Nat) (hw : why ≤ 1000000) (ha : at_ ≤ 1000000000) (w : World) (hb : Blk w b 80 [.int .i64 (at_ : Int), .int .i64 (why : Int)]) (htab : ∀ W, Only [] w W → Lib.TabIs Tryd.prog W "internal/strconv.uint64pow10" .u64 Lib.pow10Tab) :
    Calls Tryd.prog 37 #[.pointer (some ⟨b, 0, none⟩)] w fun e w' => (∃ s : ByteArray, e = .returned (.string s) ∧ 0 < s.size) ∧ Only [] w w' := by
  have c0 : w.cell? ⟨b, 0, none⟩ = some (.int .i64 (at_ : Int)) := hb.cell 0
  have c1 : w.cell? ⟨b, 1, none⟩ = some (.int .i64 (why : Int)) := hb.cell 1
  have hms : ∀ W, Only [] w W → W.cell? ⟨b, 0, none⟩ = some (.int .i64 (at_ : Int)) ∧ W.cell? ⟨b, 1, none⟩ = some (.int .i64 (why : Int)) := fun W h => ⟨h.cellv c0 (by simp), h.cellv c1 (by simp)⟩
  go_enter Tryd.func37, Tryd.ntmps37
  go_wp2
  go_region_with (first
    | (go_at_call 62
       refine (itoa_any at_ ha _ ?_).mono ?_
       exact htab _ (by first | exact Only.refl [] w | exact (Only.refl [] w).drew | assumption | exact Only.drew (by assumption))
       rintro e w' ⟨⟨s, rfl, hs⟩, hO⟩
       replace hO : Only [] w w' := by first | exact hO | exact hO.ofDrew | exact (by assumption : Only [] w _).trans hO | exact (by assumption : Only [] w _).drew.trans hO
       obtain ⟨c0', c1'⟩ := hms _ hO)
    | (go_at_call 63
       refine (errText_any why hw _).mono ?_
       rintro e w' ⟨⟨s2, rfl, hs2⟩, hO2⟩
       replace hO2 : Only [] w w' := by first | exact hO2 | exact hO2.ofDrew | exact (by assumption : Only [] w _).trans hO2 | exact (by assumption : Only [] w _).drew.trans hO2
       obtain ⟨c0', c1'⟩ := hms _ hO2))
  all_goals first
    | (exfalso; omega)
    | (go_wp2
       go_ret
       exact ⟨⟨_, rfl, by simp only [ByteArray.size_append]; have h5 : (ByteArray.mk #[98, 121, 116, 101, 32]).size = 5 := rfl; omega⟩, by assumption⟩)
end Go.Proofs.YtgohinklnglgeaaDoor
