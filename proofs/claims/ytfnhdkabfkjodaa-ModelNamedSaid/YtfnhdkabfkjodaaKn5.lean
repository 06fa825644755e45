/- House's data; chapter 5's known runs. -/
import Derived.Test.YtfnhdkabfkjodaaTk
set_option linter.unusedVariables false
set_option linter.unusedSimpArgs false
namespace Go.Proofs.Ytfnhdkabfkjodaa
open Go.RowKit

def hsW : List ByteArray := [⟨#[97, 98]⟩, ⟨#[32, 97]⟩, ⟨#[116, 104]⟩, ⟨#[116, 104, 101]⟩, ⟨#[104, 101]⟩, ⟨#[195, 169]⟩]
def hsM : List Mg := [⟨97, 98, 256⟩, ⟨32, 97, 257⟩, ⟨116, 104, 258⟩, ⟨258, 101, 259⟩, ⟨104, 101, 260⟩, ⟨195, 169, 261⟩]
def hsL : List Sp := [(97, 122), (233, 233)]
def hsN : List Sp := [(48, 57)]
def hsS : List Sp := [(9, 10), (32, 32)]
theorem house_fault : faultW hsW hsM hsL hsN hsS = (0, 0, 0) := by decide
theorem hsW_size : ∀ s ∈ hsW, s.size ≤ maxLen := by
  intro s hs
  have : s.size ≤ 3 := by revert s; decide
  unfold maxLen; omega
theorem hsM_ok : ∀ m ∈ hsM, m.ok := by
  intro m hm
  have : (-1000 ≤ m.l ∧ m.l ≤ 1000) ∧ (-1000 ≤ m.r ∧ m.r ≤ 1000) ∧ (-1000 ≤ m.id ∧ m.id ≤ 1000) := by revert m; decide
  unfold Mg.ok i64ok; omega

set_option maxRecDepth 100000 in
set_option maxHeartbeats 4000000 in
theorem house5_any (w : World) :
    Calls Try.prog 45 #[] w fun e w' => ∃ v0 v1 v2 v3 v4, e = .returned (.agg #[v0, v1, v2, v3, v4]) ∧ Only [] w w' ∧ Rd5 w' v0 v1 v2 v3 v4 hsW hsM hsL hsN hsS := by
  go_enter Try.func45, Try.ntmps45
  go_wp2_with (fail)
  (try simp only [Exit.inBlock, Exit.then])
  refine bodyPost_ret (v := .agg #[.slice (some ⟨w.heap.size + 1, 0, none⟩) 6 6, .slice (some ⟨w.heap.size + 1 + 1, 0, none⟩) 6 6, .slice (some ⟨w.heap.size + 1 + 1 + 1, 0, none⟩) 2 2, .slice (some ⟨w.heap.size + 1 + 1 + 1 + 1, 0, none⟩) 1 1, .slice (some ⟨w.heap.size + 1 + 1 + 1 + 1 + 1, 0, none⟩) 2 2]) ?_ rfl ⟨_, _, _, _, _, rfl, ((((((Only.refl [] w).alloc _).alloc _).alloc _).alloc _).alloc _).alloc _, ⟨⟨_, _, rfl, by decide, ?_⟩, ⟨_, _, rfl, by decide, ?_⟩, ⟨_, _, rfl, by decide, ?_⟩, ⟨_, _, rfl, by decide, ?_⟩, ⟨_, _, rfl, by decide, ?_⟩⟩⟩
  · rw [results_cell1 rfl]
    go_simp
  · exact (Rd.whole (t := 9) (((((Blk.new' _ _ _ (by simp) rfl).alloc _).alloc _).alloc _).alloc _) rfl).more (by simp)
  · exact (Rd.whole (t := 38) ((((Blk.new' _ _ _ (by simp) rfl).alloc _).alloc _).alloc _) rfl).more (by simp)
  · exact (Rd.whole (t := 67) (((Blk.new' _ _ _ (by simp) rfl).alloc _).alloc _) rfl).more (by simp)
  · exact (Rd.whole (t := 67) ((Blk.new' _ _ _ (by simp) rfl).alloc _) rfl).more (by simp)
  · exact (Rd.whole (t := 67) (Blk.new' _ _ _ (by simp) rfl) rfl).more (by simp)

/-- the house's model -/
theorem houseM_any (w : World) (v0 v1 v2 v3 v4 : Value) (hR : Rd5 w v0 v1 v2 v3 v4 hsW hsM hsL hsN hsS) :
    Calls Try.prog 10 #[.agg #[v0, v1, v2, v3, v4]] w fun e w' => ∃ g base, e = .returned (.tuple #[.pointer (some ⟨g, 0, none⟩), .bool true, .bool true]) ∧ Only [] w w' ∧ w.heap.size ≤ base ∧ MdAt w' base g hsW hsM hsL hsN hsS 6 (lookM 0 hsM) 3 := by
  refine (ofM_any w v0 v1 v2 v3 v4 hsW hsM hsL hsN hsS hR (by decide) (by decide) (by decide) (by decide) (by decide) hsW_size hsM_ok).mono ?_
  rintro e w' ⟨v, up, rfl, hO, h | ⟨rfl, -, -, g, base, hb, rfl, hM⟩⟩
  · obtain ⟨-, -, h | h⟩ := h
    · exact absurd h (by decide)
    · rw [house_fault] at h; exact absurd rfl h
  · exact ⟨g, base, rfl, hO, hb, hM⟩

set_option maxRecDepth 100000 in
set_option maxHeartbeats 4000000 in
theorem known5_any (w : World) :
    Calls Try.prog 12 #[] w fun e w' => e = .returned (.bool true) ∧ Only [] w w' := by
  have K1 : lookM 0 hsM (97, 98) = some (0, 256) := by decide
  have K2 : wordB hsW 259 = ⟨#[116, 104, 101]⟩ := by decide
  have K3 : isWord hsW 259 = true := by decide
  have hse : ((⟨#[116, 104, 101]⟩ : ByteArray).toList == (⟨#[116, 104, 101]⟩ : ByteArray).toList) = true := beq_self_eq_true _
  go_enter Try.func12, Try.ntmps12
  go_wp2_with (fail)
  refine (house5_any w).mono ?_
  rintro e w1 ⟨v0, v1, v2, v3, v4, rfl, hO1, hR⟩
  obtain ⟨A0, c0, rfl, -, -⟩ := hR.r0
  obtain ⟨A1, c1, rfl, -, -⟩ := hR.r1
  obtain ⟨A2, c2, rfl, -, -⟩ := hR.r2
  obtain ⟨A3, c3, rfl, -, -⟩ := hR.r3
  obtain ⟨A4, c4, rfl, -, -⟩ := hR.r4
  have HM := Lib.hid (houseM_any w1 _ _ _ _ _ hR)
  clear hR
  go_wp2_with (fail)
  refine HM.out.mono ?_
  rintro e w2 ⟨g, base, rfl, hO2, -, hM⟩
  have HMd := Lib.hid hM
  have hO := hO1.trans hO2
  clear HM hM hO1 hO2
  go_wp2_with (fail)
  refine (merge_any w2 base g _ _ _ _ _ _ _ _ HMd.out 97 98 (by unfold i64ok; omega) (by unfold i64ok; omega)).mono ?_
  rintro e w3 ⟨rfl, hO3⟩
  rw [K1]
  simp only [Option.getD_some, Option.isSome_some]
  go_wp2_with (fail)
  refine (word_any w3 base g _ _ _ _ _ _ _ _ (HMd.out.only0 hO3) 259 (by unfold i64ok; omega)).mono ?_
  rintro e w4 ⟨rfl, hO4⟩
  rw [K2, K3]
  have hO34 := hO3.trans hO4
  go_wp2_with (fail)
  refine (size_any w4 base g _ _ _ _ _ _ _ _ (HMd.out.only0 hO34)).mono ?_
  rintro e w5 ⟨rfl, rfl⟩
  rw [show ((256 + hsW.length : Nat) : Int) = 262 by decide]
  go_wp2_with (fail)
  refine (longest_any w4 base g _ _ _ _ _ _ _ _ (HMd.out.only0 hO34)).mono ?_
  rintro e w5 ⟨rfl, rfl⟩
  go_wp2_with (fail)
  go_ret
  exact ⟨rfl, hO.trans hO34⟩
/-- what a law answers where there is no model -/
theorem OfPost.no {w w' : World} {ws : List ByteArray} {ms : List Mg} {a b d : List Sp} {e : Ending} (h : OfPost w ws ms a b d e w') :
    (e = .returned (.tuple #[.pointer none, .bool false, .bool true]) ∧ Only [] w w') ∨ ∃ g base, e = .returned (.tuple #[.pointer (some ⟨g, 0, none⟩), .bool true, .bool true]) ∧ Only [] w w' ∧ w.heap.size ≤ base ∧ (faultW ws ms a b d).1 = 0 ∧ MdAt w' base g ws ms a b d ms.length (lookM 0 ms) (lgF ws) ∧ ms.length ≤ 300 := by
  obtain ⟨v, up, rfl, hO, ⟨rfl, rfl, -⟩ | ⟨rfl, h1, h2, g, base, hb, rfl, hM⟩⟩ := h
  · exact .inl ⟨rfl, hO⟩
  · have := hM.small.2.1
    exact .inr ⟨g, base, rfl, hO, hb, h2, hM, by omega⟩

end Go.Proofs.Ytfnhdkabfkjodaa
