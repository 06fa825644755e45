/- Several texts in one: House's data; chapter 5's known runs.; model.Bare; the law's fault.; What a right model's data say: the plain law of ModelAll. -/
import Derived.Test.YtemnanhoiacphaaDoorPk14
set_option linter.unusedVariables false
set_option linter.unusedSimpArgs false
namespace Go.Proofs.YtemnanhoiacphaaDoor
open Go.RowKit

def hsW : List ByteArray := [⟨#[97, 98]⟩, ⟨#[32, 97]⟩, ⟨#[116, 104]⟩, ⟨#[116, 104, 101]⟩, ⟨#[104, 101]⟩, ⟨#[195, 169]⟩]
def hsM : List Mg := [⟨97, 98, 256⟩, ⟨32, 97, 257⟩, ⟨116, 104, 258⟩, ⟨258, 101, 259⟩, ⟨104, 101, 260⟩, ⟨195, 169, 261⟩]
def hsL : List Sp := [(97, 122), (233, 233)]
def hsN : List Sp := [(48, 57)]
def hsS : List Sp := [(9, 10), (32, 32)]
theorem house_fault : faultW hsW hsM hsL hsN hsS = (0, 0, 0) := by decide
theorem hsW_size : ∀ s ∈ hsW, s.size ≤ maxLen := by
  intro s hs
  have : s.size ≤ 3 := by revert s; decide
  unfold maxLen; omega
theorem hsM_ok : ∀ m ∈ hsM, m.ok := by
  intro m hm
  have : (-1000 ≤ m.l ∧ m.l ≤ 1000) ∧ (-1000 ≤ m.r ∧ m.r ≤ 1000) ∧ (-1000 ≤ m.id ∧ m.id ≤ 1000) := by revert m; decide
  unfold Mg.ok i64ok; omega

/-- the house's model -/
theorem houseM_any (w : World) (v0 v1 v2 v3 v4 : Value) (hR : Rd5 w v0 v1 v2 v3 v4 hsW hsM hsL hsN hsS) :
    Calls Tryd.prog 9 #[.agg #[v0, v1, v2, v3, v4]] w fun e w' => ∃ g base, e = .returned (.tuple #[.pointer (some ⟨g, 0, none⟩), .bool true, .bool true]) ∧ Only [] w w' ∧ w.heap.size ≤ base ∧ MdAt w' base g hsW hsM hsL hsN hsS 6 (lookM 0 hsM) 3 := by
  refine (ofM_any w v0 v1 v2 v3 v4 hsW hsM hsL hsN hsS hR (by decide) (by decide) (by decide) (by decide) (by decide) hsW_size hsM_ok).mono ?_
  rintro e w' ⟨v, up, rfl, hO, h | ⟨rfl, -, -, g, base, hb, rfl, hM⟩⟩
  · obtain ⟨-, -, h | h⟩ := h
    · exact absurd h (by decide)
    · rw [house_fault] at h; exact absurd rfl h
  · exact ⟨g, base, rfl, hO, hb, hM⟩

/-- what a law answers where there is no model -/
theorem OfPost.no {w w' : World} {ws : List ByteArray} {ms : List Mg} {a b d : List Sp} {e : Ending} (h : OfPost w ws ms a b d e w') :
    (e = .returned (.tuple #[.pointer none, .bool false, .bool true]) ∧ Only [] w w') ∨ ∃ g base, e = .returned (.tuple #[.pointer (some ⟨g, 0, none⟩), .bool true, .bool true]) ∧ Only [] w w' ∧ w.heap.size ≤ base ∧ (faultW ws ms a b d).1 = 0 ∧ MdAt w' base g ws ms a b d ms.length (lookM 0 ms) (lgF ws) ∧ ms.length ≤ 300 := by
  obtain ⟨v, up, rfl, hO, ⟨rfl, rfl, -⟩ | ⟨rfl, h1, h2, g, base, hb, rfl, hM⟩⟩ := h
  · exact .inl ⟨rfl, hO⟩
  · have := hM.small.2.1
    exact .inr ⟨g, base, rfl, hO, hb, h2, hM, by omega⟩

end Go.Proofs.YtemnanhoiacphaaDoor

set_option linter.unusedVariables false
set_option linter.unusedSimpArgs false
namespace Go.Proofs.YtemnanhoiacphaaDoor
open Go.RowKit

set_option maxRecDepth 100000 in
set_option maxHeartbeats 4000000 in
theorem bare_any (w : World) (A2 A3 A4 : Option Addr) (c2 c3 c4 : Nat) (a b d : List Sp) (h2 : a.length ≤ c2) (h3 : b.length ≤ c3) (h4 : d.length ≤ c4) (r2 : Rd w w.heap.size 2 A2 a.length (ses a)) (r3 : Rd w w.heap.size 2 A3 b.length (ses b)) (r4 : Rd w w.heap.size 2 A4 d.length (ses d))
    (s2 : a.length ≤ 17592186043904) (s3 : b.length ≤ 17592186043904) (s4 : d.length ≤ 17592186043904) :
    Calls Tryd.prog 51 #[.slice A2 a.length c2, .slice A3 b.length c3, .slice A4 d.length c4] w (NewPost w [] [] a b d) := by
  obtain ⟨h, hh⟩ : ∃ h, h = w.heap.size := ⟨_, rfl⟩
  obtain ⟨W1, hW1⟩ : ∃ W1, W1 = w.alloc (.cells #[.int .i64 0, .int .i64 0, .int .i64 0] 79) := ⟨_, rfl⟩
  have hb : Blk W1 h 79 [.int .i64 0, .int .i64 0, .int .i64 0] := by rw [hW1]; exact Blk.new' _ _ _ hh.symm rfl
  have hO : Only [] w W1 := by rw [hW1]; exact (Only.refl _ _).alloc _
  have hR : Rd5 W1 (.slice none 0 0) (.slice none 0 0) (.slice A2 a.length c2) (.slice A3 b.length c3) (.slice A4 d.length c4) [] [] a b d :=
    Rd5.only ⟨⟨_, _, rfl, Nat.le_refl _, Rd.zero _ _ _ _⟩, ⟨_, _, rfl, Nat.le_refl _, Rd.zero _ _ _ _⟩, ⟨_, _, rfl, h2, r2⟩, ⟨_, _, rfl, h3, r3⟩, ⟨_, _, rfl, h4, r4⟩⟩ hO
  have hnew := newM_any W1 _ _ _ _ _ [] [] a b d hR (by simp) (by simp) s2 s3 s4 (by simp) (by simp)
  unfold NewPost at hnew
  obtain ⟨F, hF⟩ : ∃ F, F = faultW [] [] a b d := ⟨_, rfl⟩
  rw [← hF] at hnew
  have Hnew := Lib.hid hnew
  have HF := Lib.hid hF
  have Hh := Lib.hid hh
  have HW := Lib.hid hW1
  have Hb := Lib.hid hb
  have HO := Lib.hid hO
  obtain ⟨n2, hn2⟩ : ∃ n, n = a.length := ⟨_, rfl⟩
  obtain ⟨n3, hn3⟩ : ∃ n, n = b.length := ⟨_, rfl⟩
  obtain ⟨n4, hn4⟩ : ∃ n, n = d.length := ⟨_, rfl⟩
  rw [← hn2, ← hn3, ← hn4] at Hnew ⊢
  have hwh : w.heap.size ≤ h := by omega
  have hz1 : W1.heap.size = h + 1 := by rw [hW1]; simp; omega
  clear hnew hF hh hW1 hb hO hR h2 h3 h4 r2 r3 r4 s2 s3 s4 hn2 hn3 hn4
  go_enter Tryd.func51, Tryd.ntmps51
  go_upto_region 1 with (fail)
  rw [← Hh.out, ← HW.out]
  go_wp2_with (fail)
  refine Hnew.out.mono ?_
  rintro e W2 ⟨v, rfl, hO2, hcase⟩
  obtain ⟨f1, f2, f3⟩ := F
  simp only at hcase
  simp only
  have Hcase := Lib.hid hcase
  have hb2 := Hb.out.only hO2 (by simp)
  have q0 : W2.cell? ⟨h, 0, none⟩ = some (.int .i64 0) := hb2.cell 0
  have q1 : W2.cell? ⟨h, 1, none⟩ = some (.int .i64 0) := hb2.cell 1
  have q2 : W2.cell? ⟨h, 2, none⟩ = some (.int .i64 0) := hb2.cell 2
  have z0 := hb2.frozen 0
  have z1 := hb2.frozen 1
  have z2 := hb2.frozen 2
  have Hb2 := Lib.hid hb2
  clear hcase hb2
  go_wp2_with (fail)
  (try simp only [Exit.inBlock, Exit.then])
  have hbn := ((Hb2.out.set 0 (.int .i64 (f1 : Int))).set 1 (.int .i64 (f2 : Int))).set 2 (.int .i64 (f3 : Int))
  have hOs : Only [h] W2 (((W2.setCell ⟨h, 0, none⟩ (.int .i64 (f1 : Int))).setCell ⟨h, 1, none⟩ (.int .i64 (f2 : Int))).setCell ⟨h, 2, none⟩ (.int .i64 (f3 : Int))) := (((Only.refl [h] _).setCell (.inl (by simp)) _).setCell (.inl (by simp)) _).setCell (.inl (by simp)) _
  refine bodyPost_ret (v := .tuple #[v, .agg #[.int .i64 (f1 : Int), .int .i64 (f2 : Int), .int .i64 (f3 : Int)]]) ?_ rfl ⟨v, by rw [← HF.out], (HO.out.trans hO2).trans' hOs (by simp; omega), ?_⟩
  · rw [results_tmp_cell rfl]
    exact loadF hbn
  · rw [← HF.out]
    rcases Hcase.out with ⟨h0, g, base, hbs, rfl, hM⟩ | ⟨h0, rfl⟩
    · exact .inl ⟨h0, g, base, by omega, rfl, hM.only hOs (by simp; omega)⟩
    · exact .inr ⟨h0, rfl⟩

theorem loadF1 {w : World} {h0 : Nat} {v0 v1 v2 : Value} (hb : Blk w h0 79 [v0, v1, v2]) :
    (((asAddr (.pointer (some ⟨h0, 0, none⟩))).run Tryd.prog w).andThen fun a w₁ => (loadVar 79 a).run Tryd.prog w₁) = Result.ok (Value.agg #[v0, v1, v2]) w := by
  have c0 : w.cell? ⟨h0, 0, none⟩ = some v0 := hb.cell 0
  have c1 : w.cell? ⟨h0, 1, none⟩ = some v1 := hb.cell 1
  have c2 : w.cell? ⟨h0, 2, none⟩ = some v2 := hb.cell 2
  go_simp
def blank1 : List Sp := [(32, 32)]
end Go.Proofs.YtemnanhoiacphaaDoor

set_option linter.unusedVariables false
set_option linter.unusedSimpArgs false
namespace Go.Proofs.YtemnanhoiacphaaDoor
open Go.RowKit Go.Maps

theorem pairs_at (ws : List ByteArray) (ms : List Mg) : ∀ (l done : List Mg) (i : Nat), (pairsAt ws done i l).2 = 0 → ∀ (k : Nat) (m : Mg), l[k]? = some m →
    badId ws (done ++ l.take k) m.id = false ∧ (partB (idsOf (done ++ l.take k)) m.l && partB (idsOf (done ++ l.take k)) m.r) = true ∧ (wordB ws m.id).data.toList = (wordB ws m.l ++ wordB ws m.r).data.toList ∧ lookM 0 (done ++ l.take k) (m.l, m.r) = none
  | [], _, _, _, k, m, hm => by simp at hm
  | x :: l, done, i, h, k, m, hm => by
    rw [pairsAt] at h
    by_cases h1 : badId ws done x.id = true
    · rw [if_pos h1] at h; cases h
    · rw [if_neg h1] at h
      by_cases h2 : (partB (idsOf done) x.l && partB (idsOf done) x.r) = false
      · rw [if_pos h2] at h; cases h
      · rw [if_neg h2] at h
        by_cases h3 : ¬ (wordB ws x.id).data.toList = (wordB ws x.l ++ wordB ws x.r).data.toList
        · rw [if_pos h3] at h; cases h
        · rw [if_neg h3] at h
          by_cases h4 : (lookM 0 done (x.l, x.r)).isSome = true
          · rw [if_pos h4] at h; cases h
          · rw [if_neg h4] at h
            cases k with
            | zero =>
              obtain rfl : x = m := by simpa using hm
              rw [List.take_zero, List.append_nil]
              exact ⟨by simpa using h1, by simpa using h2, Classical.not_not.1 h3, by simpa using h4⟩
            | succ k =>
              have := pairs_at ws ms l (done ++ [x]) (i + 1) h k m (by simpa using hm)
              rw [List.take_succ_cons]
              simpa using this
theorem fault_parts {ws : List ByteArray} {ms : List Mg} {a b d : List Sp} (h : (faultW ws ms a b d).1 = 0) : ws.length = ms.length ∧ ms.length ≤ 4096 ∧ (checkW a b d).1 = 0 ∧ (wordsAt [] 0 ws).2 = 0 ∧ (pairsAt ws [] 0 ms).2 = 0 := by
  unfold faultW at h
  by_cases h1 : 4096 < ms.length
  · rw [if_pos h1] at h; cases h
  · rw [if_neg h1] at h
    by_cases h2 : ws.length ≠ ms.length
    · rw [if_pos h2] at h; cases h
    · rw [if_neg h2] at h
      by_cases h3 : (checkW a b d).1 ≠ 0
      · rw [if_pos h3] at h; exact absurd h h3
      · rw [if_neg h3] at h
        by_cases h4 : (wordsAt [] 0 ws).2 ≠ 0
        · rw [if_pos h4] at h; exact absurd h h4
        · rw [if_neg h4] at h
          by_cases h5 : (pairsAt ws [] 0 ms).2 ≠ 0
          · rw [if_pos h5] at h; exact absurd h h5
          · exact ⟨by omega, by omega, by omega, by omega, by omega⟩
theorem lookM_app {p : Int × Int} : ∀ (l r : List Mg) (i : Nat), lookM i l p = none → lookM i (l ++ r) p = lookM (i + l.length) r p
  | [], r, i, _ => by simp
  | x :: l, r, i, h => by
    rw [lookM] at h
    by_cases hx : (x.l, x.r) = p
    · rw [if_pos hx] at h; cases h
    · rw [if_neg hx] at h
      rw [List.cons_append, lookM, if_neg hx, lookM_app l r (i + 1) h, List.length_cons]
      congr 1; omega
/-- one merge of a right model -/
theorem right_at {ws : List ByteArray} {ms : List Mg} {a b d : List Sp} (h : (faultW ws ms a b d).1 = 0) {k : Nat} {m : Mg} (hm : ms[k]? = some m) :
    (256 ≤ m.id ∧ m.id < 256 + (ws.length : Int)) ∧ (idsOf (ms.take k)).contains m.id = false ∧ partB (idsOf (ms.take k)) m.l = true ∧ partB (idsOf (ms.take k)) m.r = true ∧ (wordB ws m.id).data.toList = (wordB ws m.l ++ wordB ws m.r).data.toList ∧ lookM 0 ms (m.l, m.r) = some (k, m.id) := by
  obtain ⟨_, _, _, _, h5⟩ := fault_parts h
  have h6 := pairs_at ws ms ms [] 0 h5 k m hm
  simp only [List.nil_append] at h6
  obtain ⟨h7, h8, h9, h10⟩ := h6
  unfold badId at h7
  rw [Bool.or_eq_false_iff] at h7
  rw [Bool.and_eq_true] at h8
  have hk : k < ms.length := (List.getElem?_eq_some_iff.1 hm).1
  refine ⟨by have := of_decide_eq_false h7.1; omega, h7.2, h8.1, h8.2, h9, ?_⟩
  have e : ms = ms.take k ++ ms.drop k := (List.take_append_drop k ms).symm
  rw [e, lookM_app _ _ _ h10, drop_cons' hm, lookM, if_pos rfl, List.length_take]
  congr 2; omega
/-- a part below the k-th merge -/
theorem part_at {ws : List ByteArray} {ms : List Mg} {a b d : List Sp} (h : (faultW ws ms a b d).1 = 0) {k : Nat} {id : Int} (hp : partB (idsOf (ms.take k)) id = true) :
    isWord ws id = true ∧ (256 ≤ id → (idsOf (ms.take k)).contains id = true) := by
  unfold partB at hp
  rw [Bool.or_eq_true, Bool.and_eq_true] at hp
  unfold isWord
  rcases hp with hp | ⟨h1, h2⟩
  · have := of_decide_eq_true hp
    exact ⟨decide_eq_true (by omega), fun h => by omega⟩
  · have h1 := of_decide_eq_true h1
    refine ⟨?_, fun _ => h2⟩
    rw [List.contains_iff_mem] at h2
    obtain ⟨m, hm, rfl⟩ := List.mem_map.1 h2
    obtain ⟨j, hj⟩ := List.mem_iff_getElem?.1 (List.mem_of_mem_take hm)
    have := (right_at h hj).1
    exact decide_eq_true (by omega)

end Go.Proofs.YtemnanhoiacphaaDoor
