/- model.pairs: its closure; what is wrong with a merge. -/
import Derived.Test.YtfnhdkabfkjodaaMd4
set_option linter.unusedVariables false
set_option linter.unusedSimpArgs false
namespace Go.Proofs.Ytfnhdkabfkjodaa
open Go.RowKit

def partB (ids : List Int) (id : Int) : Bool := decide (0 ≤ id ∧ id < 256) || (decide (256 ≤ id) && ids.contains id)
/-- the row of what was made -/
structure MadeAt (w : World) (base : Nat) (A : Option Addr) (n : Nat) (ids : List Int) (mk : List Bool) : Prop where
  rd : Rd w base 1 A n (mk.map Value.bool)
  len : mk.length = n
  is_ : ∀ j, j < n → mk[j]? = some (ids.contains (256 + (j : Int)))
  rng : ∀ x ∈ ids, 256 ≤ x ∧ x < 256 + (n : Int)
theorem MadeAt.only {w w' : World} {base : Nat} {A : Option Addr} {n : Nat} {ids : List Int} {mk : List Bool} (h : MadeAt w base A n ids mk) {l : List Nat} (hO : Only l w w') (hl : ∀ ad, A = some ad → ad.block ∉ l) : MadeAt w' base A n ids mk :=
  ⟨h.rd.only' hO (fun ad e _ => hl ad e), h.len, h.is_, h.rng⟩
theorem MadeAt.cell {w : World} {base : Nat} {A : Option Addr} {n : Nat} {ids : List Int} {mk : List Bool} (h : MadeAt w base A n ids mk) {j : Nat} (hj : j < n) : ∃ g o, A = some ⟨g, o, none⟩ ∧ w.cell? ⟨g, o + j, none⟩ = some (.bool (ids.contains (256 + (j : Int)))) := by
  obtain ⟨g, o, rfl, _, _, hc⟩ := h.rd.addr (by omega)
  exact ⟨g, o, rfl, hc j _ (by rw [List.getElem?_map, h.is_ j hj]; rfl)⟩
theorem contains_far {ids : List Int} {n : Nat} (h : ∀ x ∈ ids, 256 ≤ x ∧ x < 256 + (n : Int)) {id : Int} (hid : 256 + (n : Int) ≤ id) : ids.contains id = false := by
  rw [Bool.eq_false_iff]
  intro e
  have := h id (List.contains_iff_mem.1 e); omega

set_option maxRecDepth 100000 in
set_option maxHeartbeats 4000000 in
theorem part_any (w : World) (base g : Nat) (ws : List ByteArray) (ms : List Mg) (a b d : List Sp) (N : Nat) (f : Int × Int → Option (Nat × Int)) (lg : Nat) (hM : MdAt w base g ws ms a b d N f lg) (bx b4 : Nat) (A : Option Addr) (c B n : Nat) (ids : List Int) (mk : List Bool) (hn : n = ws.length)
    (hbx : w.cell? ⟨bx, 0, none⟩ = some (.pointer (some ⟨g, 0, none⟩))) (hb4 : w.cell? ⟨b4, 0, none⟩ = some (.slice A n c)) (hmk : MadeAt w B A n ids mk) (id : Int) (hid : i64ok id) :
    Calls Try.prog 65 #[.int .i64 id, .pointer (some ⟨bx, 0, none⟩), .pointer (some ⟨b4, 0, none⟩)] w fun e w' => e = .returned (.bool (partB ids id)) ∧ w = w' := by
  have hsz := size_any w base g ws ms a b d N f lg hM
  have hs := hM.small.1
  rw [← hn] at hsz hs
  obtain ⟨sz, hsz2⟩ : ∃ sz, sz = 256 + n := ⟨_, rfl⟩
  rw [← hsz2] at hsz
  obtain ⟨V, hV⟩ : ∃ V, V = partB ids id := ⟨_, rfl⟩
  rw [← hV]
  unfold partB at hV
  unfold i64ok at hid
  have Hs2 := Lib.hid hsz2
  have Hsz := Lib.hid hsz
  have HV := Lib.hid hV
  have Hmk := Lib.hid hmk
  have Hn := Lib.hid hn
  clear hsz2 hsz hV hmk hM hn
  go_enter Try.func65, Try.ntmps65
  by_cases h0 : id < 0
  · have e1 : V = false := by rw [HV.out, decide_eq_false (by omega), decide_eq_false (by omega)]; rfl
    have E1 := Lib.hid e1
    have h1 : ¬ 0 ≤ id := by omega
    clear e1
    go_wp2_with (fail)
    go_ret
    exact ⟨ret_bool (by rw [E1.out]), rfl⟩
  · by_cases h1 : id < 256
    · have e1 : V = true := by rw [HV.out, decide_eq_true ⟨by omega, h1⟩]; rfl
      have E1 := Lib.hid e1
      have h2 : 0 ≤ id := by omega
      clear e1
      go_wp2_with (fail)
      go_ret
      exact ⟨ret_bool (by rw [E1.out]), rfl⟩
    · by_cases h2 : id < (sz : Int)
      · obtain ⟨j, hj⟩ : ∃ j : Nat, id - 256 = (j : Int) := ⟨(id - 256).toNat, by omega⟩
        have hjn : j < n := by have := Hs2.out; omega
        obtain ⟨gm, om, rfl, q⟩ := Hmk.out.cell hjn
        have hje : (256 : Int) + (j : Int) = id := by omega
        rw [hje] at q
        have e1 : V = ids.contains id := by rw [HV.out, decide_eq_false (by omega), decide_eq_true (by omega)]; simp
        obtain ⟨C, hC⟩ : ∃ C, C = ids.contains id := ⟨_, rfl⟩
        rw [← hC] at q e1
        have E1 := Lib.hid e1
        have h3 : 0 ≤ id := by omega
        have h4 : 256 ≤ id := by omega
        clear e1 hC hje
        go_wp2_with (fail)
        refine Hsz.out.mono ?_
        rintro e w1 ⟨rfl, rfl⟩
        go_wp2_with (fail)
        go_ret
        exact ⟨ret_bool (by rw [E1.out]), rfl⟩
      · have e1 : V = false := by rw [HV.out, decide_eq_false (by omega), contains_far Hmk.out.rng (by have := Hs2.out; omega)]; simp
        have E1 := Lib.hid e1
        have h3 : 0 ≤ id := by omega
        have h4 : 256 ≤ id := by omega
        clear e1
        go_wp2_with (fail)
        refine Hsz.out.mono ?_
        rintro e w1 ⟨rfl, rfl⟩
        go_wp2_with (fail)
        go_ret
        exact ⟨ret_bool (by rw [E1.out]), rfl⟩

/-! ### what is wrong with a merge -/
def lookM (i : Nat) : List Mg → Int × Int → Option (Nat × Int)
  | [], _ => none
  | m :: r, p => if (m.l, m.r) = p then some (i, m.id) else lookM (i + 1) r p
theorem lookM_snoc (m : Mg) (p : Int × Int) : ∀ (l : List Mg) (i : Nat), lookM i (l ++ [m]) p = match lookM i l p with | some x => some x | none => if (m.l, m.r) = p then some (i + l.length, m.id) else none
  | [], i => by simp [lookM]
  | x :: l, i => by
    rw [List.cons_append, lookM, lookM, lookM_snoc m p l (i + 1)]
    by_cases h : (x.l, x.r) = p
    · rw [if_pos h, if_pos h]
    · rw [if_neg h, if_neg h, List.length_cons, show i + 1 + l.length = i + (l.length + 1) by omega]
def idsOf (l : List Mg) : List Int := l.map Mg.id
def badId (ws : List ByteArray) (done : List Mg) (id : Int) : Bool := decide (id < 256 ∨ 256 + (ws.length : Int) ≤ id) || (idsOf done).contains id
/-- its place, why -/
def pairsAt (ws : List ByteArray) (done : List Mg) (i : Nat) : List Mg → Nat × Nat
  | [] => (0, 0)
  | m :: r => if badId ws done m.id = true then (i, 24) else if (partB (idsOf done) m.l && partB (idsOf done) m.r) = false then (i, 23)
    else if ¬ (wordB ws m.id).data.toList = (wordB ws m.l ++ wordB ws m.r).data.toList then (i, 25) else if (lookM 0 done (m.l, m.r)).isSome = true then (i, 22) else pairsAt ws (done ++ [m]) (i + 1) r
theorem idsOf_snoc (l : List Mg) (m : Mg) : idsOf (l ++ [m]) = idsOf l ++ [m.id] := by simp [idsOf]
theorem part_word {ws : List ByteArray} {ids : List Int} {n : Nat} (hn : n = ws.length) (hr : ∀ x ∈ ids, 256 ≤ x ∧ x < 256 + (n : Int)) {id : Int} (h : partB ids id = true) : 0 ≤ id ∧ id < 256 + (ws.length : Int) := by
  unfold partB at h
  rw [Bool.or_eq_true, Bool.and_eq_true] at h
  rcases h with h | ⟨_, h⟩
  · have := of_decide_eq_true h; omega
  · have := hr id (List.contains_iff_mem.1 h); omega
theorem wordB_size {ws : List ByteArray} (h : ∀ s ∈ ws, s.size ≤ 256) (id : Int) : (wordB ws id).size ≤ 256 := by
  unfold wordB
  by_cases h1 : 0 ≤ id ∧ id < 256
  · rw [if_pos h1, str_size]; simp
  · rw [if_neg h1]
    by_cases h2 : 256 ≤ id ∧ id < 256 + (ws.length : Int)
    · rw [if_pos h2, List.getD_eq_getElem?_getD]
      cases h3 : ws[(id - 256).toNat]? with
      | none => decide
      | some s => exact h s (List.mem_of_getElem? h3)
    · rw [if_neg h2]; decide
theorem words_small : ∀ (ws : List ByteArray) (seen : List ByteArray) (i : Nat), (wordsAt seen i ws).2 = 0 → ∀ s ∈ ws, 2 ≤ s.size ∧ s.size ≤ 256
  | [], _, _, _, s, hs => by cases hs
  | t :: ws, seen, i, h, s, hs => by
    rw [wordsAt] at h
    by_cases h1 : t.size < 2 ∨ 256 < t.size
    · rw [if_pos h1] at h; cases h
    · rw [if_neg h1] at h
      by_cases h2 : inB t seen = true
      · rw [if_pos h2] at h; cases h
      · rw [if_neg h2] at h
        rcases List.mem_cons.1 hs with rfl | hs
        · omega
        · exact words_small ws _ _ h s hs
end Go.Proofs.Ytfnhdkabfkjodaa
