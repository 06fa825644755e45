/- Book[tessera/utf.Item].Apart. -/
import Derived.Test.YteadcibbpbbehaaDoorBookI
import Derived.Test.YteadcibbpbbehaaDoorMarkI
set_option linter.unusedVariables false
set_option linter.unusedSimpArgs false
namespace Go.Proofs.YteadcibbpbbehaaDoor
open Go.RowKit

set_option maxRecDepth 100000 in
set_option maxHeartbeats 2000000 in
theorem stays_anyI (w : World) (base g : Nat) (bl : List Nat) (L : List Ent) (lv wv : Value) (held : Int) (ws : List Value) (h : BookBI w base g bl L lv wv held ws) (hL : L.length ≤ 4001) :
    Calls Tryd.prog 41 #[.pointer (some ⟨g, 0, none⟩)] w fun e w' => e = .returned (.bool true) ∧ BookBI w' base g bl L lv wv held ws ∧ Only [g] w w' := by
  obtain ⟨Al, cl, hlv, _, _, _⟩ := h.lists.form
  obtain ⟨Aw, cw, hwv, _, _, _⟩ := h.was.form
  rw [List.length_map] at hlv
  rw [h.len] at hwv
  subst hlv hwv
  obtain ⟨m, hm⟩ : ∃ m, m = L.length := ⟨_, rfl⟩
  have Hm := Lib.hid hm
  rw [← hm] at h hL ⊢
  clear hm
  go_enter Tryd.func41, Tryd.ntmps41
  go_wp2_with (fail)
  go_loopw [3] (fun i wr => ∃ k : Nat, i = .int .i64 (k : Int) ∧ k ≤ m ∧ BookBI wr base g bl L (.slice Al m cl) (.slice Aw m cw) held ws ∧ Only [g] w wr) (fun i _ => m - (intOf i).toNat)
  case atStart => exact ⟨0, rfl, by omega, h, Only.refl _ _⟩
  case round =>
    obtain ⟨k, rfl, hk, hB, hO⟩ := hrel
    have k0 : wr.cell? ⟨g, 0, none⟩ = some (.slice Al m cl) := hB.blk.cell 0
    have k1 : wr.cell? ⟨g, 1, none⟩ = some (.slice Aw m cw) := hB.blk.cell 1
    have k3 : wr.cell? ⟨g, 3, none⟩ = some (.bool false) := hB.blk.cell 3
    by_cases hlt : k < m
    · obtain ⟨e0, he0⟩ : ∃ e0, L[k]? = some e0 := ⟨_, List.getElem?_eq_getElem (by rw [← Hm.out]; exact hlt)⟩
      obtain ⟨u0, hu0⟩ : ∃ u0, ws[k]? = some u0 := ⟨_, List.getElem?_eq_getElem (by rw [hB.len, ← Hm.out]; exact hlt)⟩
      obtain ⟨g4, o4, hg4, hix4, hcell4⟩ := hB.lists.index (P := Tryd.prog) (t := 45) Tryd.underlying45 (by kernel_rfl) (i := k) (by rw [List.length_map, ← Hm.out]; exact hlt)
      obtain ⟨g5, o5, hg5, hix5, hcell5⟩ := hB.was.index (P := Tryd.prog) (t := 45) Tryd.underlying45 (by kernel_rfl) (i := k) (by rw [hB.len, ← Hm.out]; exact hlt)
      have hn4 : g4 ≠ g := blockNe hB.lists hB.blk hB.ne.1 hg4
      have hn5 : g5 ≠ g := blockNe hB.was hB.blk hB.ne.1 hg5
      rw [List.getElem?_map, he0, Option.map_some] at hcell4
      rw [hu0] at hcell5
      have hmem := List.mem_of_getElem? he0
      obtain ⟨A6, c6, hv6, hc6, hr6, _⟩ := own_slice (hB.ents e0 hmem).1
      obtain ⟨A7, c7, hv7, hc7, hr7, _⟩ := own_slice (hB.data k e0 u0 he0 hu0).1
      rw [hv6] at hcell4
      rw [hv7] at hcell5
      obtain ⟨l0, hl0, hl0n⟩ := hB.good e0 hmem
      rw [hl0] at hr6 hr7
      have Hlen := Lib.hid hr6.1
      clear hl0 he0 hu0 hv6 hv7 hmem
      go_upto_region 4 with (fail)
      have k3f : ∀ k, (wr.drewN k).frozen? ⟨g, 3, none⟩ = false := fun k => hB.blk.frozen 3
      have kS : ∀ k, ((wr.drewN k).setCell ⟨g, 3, none⟩ (.bool false)).cell? ⟨g, 3, none⟩ = some (.bool false) ∧ ((wr.drewN k).setCell ⟨g, 3, none⟩ (.bool false)).cell? ⟨g, 0, none⟩ = some (.slice Al m cl) ∧ ((wr.drewN k).setCell ⟨g, 3, none⟩ (.bool false)).cell? ⟨g, 1, none⟩ = some (.slice Aw m cw) ∧ ((wr.drewN k).setCell ⟨g, 3, none⟩ (.bool false)).cell? ⟨g4, o4, none⟩ = some (.slice A6 e0.n c6) ∧ ((wr.drewN k).setCell ⟨g, 3, none⟩ (.bool false)).cell? ⟨g5, o5, none⟩ = some (.slice A7 e0.n c7) := by
        intro k
        have hb := (hB.blk.drewN k).set 3 (.bool false)
        have hO : Only [g] (wr.drewN k) ((wr.drewN k).setCell ⟨g, 3, none⟩ (.bool false)) := (Only.refl _ _).setCell (.inl (by simp)) _
        exact ⟨hb.cell 3, hb.cell 0, hb.cell 1, hO.cellv (p := ⟨g4, o4, none⟩) hcell4 (by simpa using hn4), hO.cellv (p := ⟨g5, o5, none⟩) hcell5 (by simpa using hn5)⟩
      go_region_held3 (fun w' => w'.cell? ⟨g, 3, none⟩ = some (.bool false) ∧ w'.cell? ⟨g, 0, none⟩ = some (.slice Al m cl) ∧ w'.cell? ⟨g, 1, none⟩ = some (.slice Aw m cw) ∧ w'.cell? ⟨g4, o4, none⟩ = some (.slice A6 e0.n c6) ∧ w'.cell? ⟨g5, o5, none⟩ = some (.slice A7 e0.n c7)) (first | exact kS _ | go_keep)
        ((go_at_call 39
          refine (sameI_any A6 A7 e0.n c6 0 c7 _ _ l0 _ (by exact hr6) (by exact hr7) (by have := Hlen.out; rw [its_length] at this; omega) (by omega)).mono ?_
          rintro e w5 ⟨rfl, k5, rfl⟩))
      all_goals
        have hS := (Only.refl [g] wr).drewN (1 + k5) |>.setCell (p := ⟨g, 3, none⟩) (.inl (by simp)) (.bool false)
        have hB5 : BookBI ((wr.drewN (1 + k5)).setCell ⟨g, 3, none⟩ (.bool false)) base g bl L (.slice Al m cl) (.slice Aw m cw) held ws := hB.poke hS ((hB.blk.drewN (1 + k5)).set 3 _)
        clear k0 k1 k3 hix4 hix5 hcell4 hcell5 hr6 hr7 kS k3f
        go_wp2
        go_roundw
        case rel => exact ⟨k + 1, by go_num, by omega, hB5, hO.trans hS⟩
        case measure => simp [intOf]; omega
    · go_wp2
      go_ret
      exact ⟨rfl, hB, hO⟩

def marksI (i c : Nat) : List Mi := (List.range c).map (mkI i)
/-- a list's whole room, its cells -/
def WholeI (w : World) (te : Nat) (v : Value) (n : Nat) (cs : List Value) : Prop := (v = .slice none 0 0 ∧ n = 0 ∧ cs = []) ∨ ∃ ge cap, v = .slice (some ⟨ge, 0, none⟩) n cap ∧ n ≤ cap ∧ cap ≤ maxLen ∧ Blk w ge te cs ∧ cs.length = cap * 4
theorem WholeI.of_own {w : World} {base e n : Nat} {v : Value} {xs : List Value} (h : w.ownsRow base e 4 v n xs) : ∃ cs, WholeI w e v n cs := by
  rcases h.2 with ⟨hv, h0⟩ | ⟨g, cap, cur, hv, hb, hg, hnc, hcm, hcs, htake⟩
  · exact ⟨[], .inl ⟨hv, h0, rfl⟩⟩
  · exact ⟨cur.toList, .inr ⟨g, cap, hv, hnc, hcm, Blk.mk' hg rfl, by rw [Array.length_toList, hcs]⟩⟩
theorem WholeI.only {w w' : World} {e n : Nat} {v : Value} {cs : List Value} (h : WholeI w e v n cs) {l : List Nat} (ho : Only l w w') (hl : ∀ k, v.ownBlock = some k → k ∉ l) : WholeI w' e v n cs := by
  rcases h with h | ⟨ge, cap, rfl, h1, h2, h3, h4⟩
  · exact .inl h
  · exact .inr ⟨ge, cap, rfl, h1, h2, h3.only ho (hl ge rfl), h4⟩

/-- the book while its lists are written over: k of them bear their marks -/
structure MarkedI (w w' : World) (base g m : Nat) (Z : List Nat) (L : List Ent) (Al Aw : Option Addr) (cl cw : Nat) (held : Int) (k : Nat) (C : Nat → List Value) : Prop where
  blk : Blk w' g 47 [.slice Al m cl, .slice Aw m cw, .int .i64 held, .bool false]
  lists : OwnS w' base 24 (.slice Al m cl) (L.map Ent.v)
  whole : ∀ (t : Nat) e, L[t]? = some e → WholeI w' 33 e.v e.n (C t)
  done : ∀ t, t < k → ∀ c, (C t).length = c * 4 → C t = mits (marksI t c)
  dist : ∀ (s t : Nat) e f, L[s]? = some e → L[t]? = some f → s ≠ t → ∀ k, e.v.ownBlock = some k → f.v.ownBlock ≠ some k
  only : Only Z w w'
  inz : ∀ (t : Nat) e, L[t]? = some e → ∀ k, e.v.ownBlock = some k → k ∈ Z
theorem MarkedI.go {w w' w2 : World} {base g m : Nat} {Z : List Nat} {L : List Ent} {Al Aw : Option Addr} {cl cw : Nat} {held : Int} {k : Nat} {C : Nat → List Value} (h : MarkedI w w' base g m Z L Al Aw cl cw held k C) (hO : Only [] w' w2) : MarkedI w w2 base g m Z L Al Aw cl cw held k C where
  blk := h.blk.only hO (by simp)
  lists := h.lists.only hO (by simp)
  whole t e he := (h.whole t e he).only hO (by simp)
  done := h.done
  dist := h.dist
  only := h.only.trans0 hO
  inz := h.inz

/-- one place of list k written -/
theorem MarkedI.put {w w' : World} {base g m : Nat} {Z : List Nat} {L : List Ent} {Al Aw : Option Addr} {cl cw : Nat} {held : Int} {k : Nat} {C : Nat → List Value} (h : MarkedI w w' base g m Z L Al Aw cl cw held k C) {e : Ent} (he : L[k]? = some e) {ge cap j : Nat}
    (hv : e.v = .slice (some ⟨ge, 0, none⟩) e.n cap) (u : Value) : MarkedI w (w'.setCell ⟨ge, j, none⟩ u) base g m Z L Al Aw cl cw held k (fun t => if t = k then (C k).set j u else C t) := by
  have hw := h.whole k e he
  have hown : e.v.ownBlock = some ge := by rw [hv]; rfl
  have hblk : Blk w' ge 33 (C k) := by
    rcases hw with ⟨e1, _⟩ | ⟨ge', cap', e1, _, _, hb, _⟩
    · rw [hv] at e1; cases e1
    · rw [hv] at e1; cases e1; exact hb
  have hS : Only [ge] w' (w'.setCell ⟨ge, j, none⟩ u) := (Only.refl _ _).setCell (.inl (by simp)) u
  refine ⟨h.blk.only hS (by simp; exact fun hg => h.blk.ne hblk (by decide) hg), h.lists.only hS ?_, ?_, ?_, h.dist, h.only.trans' hS ?_, h.inz⟩
  · intro k hk; simp; exact blockNe h.lists hblk (by decide) hk
  · intro t f hf
    by_cases ht : t = k
    · subst ht
      rw [he] at hf; cases hf
      rw [if_pos rfl]
      rcases hw with ⟨e1, _⟩ | ⟨ge', cap', e1, h1, h2, hb, h4⟩
      · rw [hv] at e1; cases e1
      · rw [hv] at e1; cases e1
        exact .inr ⟨ge, cap, hv, h1, h2, hb.set j u, by simpa using h4⟩
    · rw [if_neg ht]
      exact (h.whole t f hf).only hS (by intro x hx; simp; intro hxg; subst hxg; exact h.dist t k f e hf he ht x hx hown)
  · intro t ht
    have : ¬ t = k := by omega
    simp only [this, if_false]
    exact h.done t ht
  · intro x hx; simp at hx; subst hx; exact .inl (h.inz k e he _ hown)
theorem marksI_get (i c j : Nat) (hj : j < c) : (mits (marksI i c))[j * 4]? = some (.int .i64 (mkI i j).1) ∧ (mits (marksI i c))[j * 4 + 1]? = some (.int .i64 (mkI i j).2) ∧ (mits (marksI i c))[j * 4 + 2]? = some (.int .i32 0) ∧ (mits (marksI i c))[j * 4 + 3]? = some (.bool false) := by
  have h : (marksI i c)[j]? = some (mkI i j) := by simp [marksI, hj]
  exact ⟨(flatMap_cell (enc := mits1) (size := 4) _ (fun _ _ => rfl) j _ 0 h (by omega)).trans rfl, (flatMap_cell (enc := mits1) (size := 4) _ (fun _ _ => rfl) j _ 1 h (by omega)).trans rfl, (flatMap_cell (enc := mits1) (size := 4) _ (fun _ _ => rfl) j _ 2 h (by omega)).trans rfl, (flatMap_cell (enc := mits1) (size := 4) _ (fun _ _ => rfl) j _ 3 h (by omega)).trans rfl⟩
theorem marksI_set (cs M : List Value) (j : Nat) (a0 a1 a2 a3 : Value) (hc : j * 4 + 3 < cs.length) (h0 : M[j * 4]? = some a0) (h1 : M[j * 4 + 1]? = some a1) (h2 : M[j * 4 + 2]? = some a2) (h3 : M[j * 4 + 3]? = some a3) (h : ∀ t, t < j * 4 → cs[t]? = M[t]?) : ∀ t, t < (j + 1) * 4 → ((((cs.set (j * 4) a0).set (j * 4 + 1) a1).set (j * 4 + 2) a2).set (j * 4 + 3) a3)[t]? = M[t]? := by
  intro t ht
  simp only [List.getElem?_set, List.length_set]
  by_cases e3 : j * 4 + 3 = t
  · subst e3; rw [if_pos rfl, if_pos (by omega), h3]
  rw [if_neg e3]
  by_cases e2 : j * 4 + 2 = t
  · subst e2; rw [if_pos rfl, if_pos (by omega), h2]
  rw [if_neg e2]
  by_cases e1 : j * 4 + 1 = t
  · subst e1; rw [if_pos rfl, if_pos (by omega), h1]
  rw [if_neg e1]
  by_cases e0 : j * 4 = t
  · subst e0; rw [if_pos rfl, if_pos (by omega), h0]
  rw [if_neg e0]
  exact h t (by omega)
theorem marksI_all (i c : Nat) (cs : List Value) (hc : cs.length = c * 4) (h : ∀ t, t < c * 4 → cs[t]? = (mits (marksI i c))[t]?) : cs = mits (marksI i c) := by
  apply List.ext_getElem?
  intro t
  by_cases ht : t < c * 4
  · exact h t ht
  · rw [List.getElem?_eq_none (by omega), List.getElem?_eq_none (by rw [mits_length]; simp [marksI]; omega)]

set_option maxRecDepth 100000 in
set_option maxHeartbeats 2000000 in
theorem apart_anyI (w : World) (base g : Nat) (bl : List Nat) (L : List Ent) (lv wv : Value) (held : Int) (ws : List Value) (h : BookBI w base g bl L lv wv held ws) (hL : L.length ≤ 4001) :
    Calls Tryd.prog 26 #[.pointer (some ⟨g, 0, none⟩), .func (.func 27) #[] #[]] w fun e w' => e = .returned (.bool true) ∧ Only (bl ++ L.flatMap fun e => e.v.ownBlock.toList) w w' := by
  obtain ⟨Al, cl, hlv, _, _, _⟩ := h.lists.form
  obtain ⟨Aw, cw, hwv, _, _, _⟩ := h.was.form
  rw [List.length_map] at hlv
  rw [h.len] at hwv
  subst hlv hwv
  obtain ⟨m, hm⟩ : ∃ m, m = L.length := ⟨_, rfl⟩
  have Hm := Lib.hid hm
  rw [← hm] at h hL
  clear hm
  go_enter Tryd.func26, Tryd.ntmps26
  go_wp2_with (fail)
  refine (stays_anyI w base g bl L _ _ held ws h (by rw [← Hm.out]; exact hL)).mono ?_
  rintro e w1 ⟨rfl, hB1, hO1⟩
  obtain ⟨Z, hZ⟩ : ∃ Z, Z = bl ++ L.flatMap fun e => e.v.ownBlock.toList := ⟨_, rfl⟩
  obtain ⟨C0, hM0⟩ : ∃ C, MarkedI w w1 base g m Z L Al Aw cl cw held 0 C := by
    have hch : ∀ t : Nat, ∃ cs, ∀ e : Ent, L[t]? = some e → WholeI w1 33 e.v e.n cs := by
      intro t
      cases ht : L[t]? with
      | none => exact ⟨[], by simp⟩
      | some e =>
        obtain ⟨cs, hc⟩ := WholeI.of_own (hB1.ents e (List.mem_of_getElem? ht)).1
        exact ⟨cs, by intro f hf; cases hf; exact hc⟩
    refine ⟨fun t => (hch t).choose, hB1.blk, hB1.lists, fun t e he => (hch t).choose_spec e he, by omega, ?_, hO1.mono ?_, ?_⟩
    · intro s t e f hs ht hne k hk
      have hp := List.pairwise_iff_getElem.1 hB1.dist
      obtain ⟨is, es⟩ := List.getElem?_eq_some_iff.1 hs
      obtain ⟨it, et⟩ := List.getElem?_eq_some_iff.1 ht
      rcases Nat.lt_or_gt_of_ne hne with hlt | hlt
      · have := hp s t is it hlt k (by rw [es]; exact hk); rwa [et] at this
      · intro hk2
        have := hp t s it is hlt k (by rw [et]; exact hk2)
        rw [es] at this
        exact this hk
    · intro x hx; simp at hx; subst hx; exact .inl (by rw [hZ]; simp [hB1.ing])
    · intro t e he k hk
      rw [hZ]
      simp only [List.mem_append, List.mem_flatMap, Option.mem_toList]
      exact .inr ⟨e, List.mem_of_getElem? he, hk⟩
  have HZ := Lib.hid hZ
  have hgZ : g ∈ Z := by rw [hZ]; simp [hB1.ing]
  clear hB1 hO1 hZ h
  go_wp2_with (fail)
  go_loopw [5] (fun i wr => ∃ (k : Nat) (C : Nat → List Value), i = .int .i64 (k : Int) ∧ k ≤ m ∧ MarkedI w wr base g m Z L Al Aw cl cw held k C) (fun i _ => m - (intOf i).toNat)
  case atStart => exact ⟨0, C0, rfl, by omega, hM0⟩
  case round =>
    obtain ⟨k, C, rfl, hk, hM⟩ := hrel
    have k0 : wr.cell? ⟨g, 0, none⟩ = some (.slice Al m cl) := hM.blk.cell 0
    by_cases hlt : k < m
    · obtain ⟨e0, he0⟩ : ∃ e0, L[k]? = some e0 := ⟨_, List.getElem?_eq_getElem (by rw [← Hm.out]; exact hlt)⟩
      obtain ⟨g4, o4, hg4, hix4, hcell4⟩ := hM.lists.index (P := Tryd.prog) (t := 45) Tryd.underlying45 (by kernel_rfl) (i := k) (by rw [List.length_map, ← Hm.out]; exact hlt)
      rw [List.getElem?_map, he0, Option.map_some] at hcell4
      obtain ⟨A6, c6, hv6, hCk, hn6, ho6⟩ : ∃ A6 c6, e0.v = .slice A6 e0.n c6 ∧ (C k).length = c6 * 4 ∧ c6 ≤ maxLen ∧ (0 < c6 → ∃ ge, A6 = some ⟨ge, 0, none⟩) := by
        rcases hM.whole k e0 he0 with ⟨e1, e2, e3⟩ | ⟨ge, cap, e1, h1, h2, h3, h4⟩
        · exact ⟨none, 0, by rw [e1, e2], by rw [e3]; rfl, by simp [maxLen], by omega⟩
        · exact ⟨_, cap, e1, h4, h2, fun _ => ⟨ge, rfl⟩⟩
      rw [hv6] at hcell4
      have hsh := run_slice_h (P := Tryd.prog) (A := A6) (n := e0.n) (c := c6) (m := c6) (hi := (c6 : Int)) Tryd.underlying24 (size := 4) (by kernel_rfl) rfl (Nat.le_refl _)
      replace hn6 : c6 ≤ 9223372036854775807 := by simpa [maxLen] using hn6
      have hc0 : (0 : Int) ≤ (c6 : Int) := by omega
      have Hv6 := Lib.hid hv6
      have He0 := Lib.hid he0
      have HCk := Lib.hid hCk
      clear hv6 he0 hCk
      go_upto_region 6 with (fail)
      go_quiet (fail)
      have hM5 := hM.go ((Only.refl [] wr).drewN nq)
      clear k0 hix4 hcell4 hsh
      go_wp2_with (fail)
      go_loopw [7] (fun i wx => ∃ (j : Nat) (C' : Nat → List Value), i = .int .i64 (j : Int) ∧ j ≤ c6 ∧ MarkedI w wx base g m Z L Al Aw cl cw held k C' ∧ (C' k).length = c6 * 4 ∧ ∀ t, t < j * 4 → (C' k)[t]? = (mits (marksI k c6))[t]?) (fun i _ => c6 - (intOf i).toNat)
      case atStart => exact ⟨0, C, rfl, by omega, hM5, HCk.out, by omega⟩
      case round =>
        obtain ⟨j, C', rfl, hj, hM6, hCk', hmk⟩ := hrel
        have HCk' := Lib.hid hCk'
        have Hmk := Lib.hid hmk
        clear hCk' hmk
        by_cases hlt6 : j < c6
        · obtain ⟨ge, rfl⟩ := ho6 (by omega)
          have hb6 : Blk wr ge 33 (C' k) := by
            rcases hM6.whole k e0 He0.out with ⟨e1, _⟩ | ⟨ge', cap', e1, _, _, hb, _⟩
            · rw [Hv6.out] at e1; cases e1
            · rw [Hv6.out] at e1; cases e1; exact hb
          go_wp2_with (fail)
          refine (markI_any k j _ (by omega) (by omega)).mono ?_
          rintro e w7 ⟨rfl, hO7⟩
          have hb7 := hb6.only hO7 (by simp)
          have hM7 := hM6.go hO7
          have hl7 := HCk'.out
          obtain ⟨g0, g1, g2, g3⟩ := marksI_get k c6 j hlt6
          have h60 : w7.cell? ⟨ge, j * 4, none⟩ = some ((C' k)[j * 4]'(by rw [hl7]; omega)) := by rw [hb7.cell, List.getElem?_eq_getElem]
          have f60 : w7.frozen? ⟨ge, j * 4, none⟩ = false := hb7.frozen _
          have h61 : w7.cell? ⟨ge, j * 4 + 1, none⟩ = some ((C' k)[j * 4 + 1]'(by rw [hl7]; omega)) := by rw [hb7.cell, List.getElem?_eq_getElem]
          have f61 : w7.frozen? ⟨ge, j * 4 + 1, none⟩ = false := hb7.frozen _
          have h62 : w7.cell? ⟨ge, j * 4 + 2, none⟩ = some ((C' k)[j * 4 + 2]'(by rw [hl7]; omega)) := by rw [hb7.cell, List.getElem?_eq_getElem]
          have f62 : w7.frozen? ⟨ge, j * 4 + 2, none⟩ = false := hb7.frozen _
          have h63 : w7.cell? ⟨ge, j * 4 + 3, none⟩ = some ((C' k)[j * 4 + 3]'(by rw [hl7]; omega)) := by rw [hb7.cell, List.getElem?_eq_getElem]
          have f63 : w7.frozen? ⟨ge, j * 4 + 3, none⟩ = false := hb7.frozen _
          have hput := ((((hM7.put He0.out Hv6.out (j := j * 4) (.int .i64 (mkI k j).1)).put He0.out Hv6.out (j := j * 4 + 1) (.int .i64 (mkI k j).2)).put He0.out Hv6.out (j := j * 4 + 2) (.int .i32 0)).put He0.out Hv6.out (j := j * 4 + 3) (.bool false))
          have hnx := marksI_set (C' k) _ j _ _ _ _ (by rw [hl7]; omega) g0 g1 g2 g3 Hmk.out
          generalize (C' k)[j * 4]'(by rw [hl7]; omega) = z60 at h60
          generalize (C' k)[j * 4 + 1]'(by rw [hl7]; omega) = z61 at h61
          generalize (C' k)[j * 4 + 2]'(by rw [hl7]; omega) = z62 at h62
          generalize (C' k)[j * 4 + 3]'(by rw [hl7]; omega) = z63 at h63
          have Hnx := Lib.hid hnx
          clear hnx hl7 g0 g1 g2 g3
          go_wp2_with (fail)
          go_roundw
          case rel => exact ⟨j + 1, _, by go_num, by omega, hput, by simp [HCk'.out], by simp only [if_true]; exact Hnx.out⟩
          case measure => simp [intOf]; omega
        · obtain rfl : j = c6 := by omega
          have hall := marksI_all k j _ HCk'.out Hmk.out
          go_wp2_with (fail)
          go_roundw
          case rel =>
            refine ⟨k + 1, C', by go_num, by omega, ⟨hM6.blk, hM6.lists, hM6.whole, ?_, hM6.dist, hM6.only, hM6.inz⟩⟩
            intro t ht
            by_cases e : t = k
            · subst e; intro c hc; have e2 : c = j := by rw [HCk'.out] at hc; omega
              subst e2; exact hall
            · exact hM6.done t (by omega)
          case measure => simp [intOf]; omega
    · obtain rfl : k = m := by omega
      have h0 := hM
      go_wp2_with (fail)
      clear hM0 hk k0 hlt
      go_loopw [8] (fun i wx => ∃ t : Nat, i = .int .i64 (t : Int) ∧ t ≤ k ∧ MarkedI w wx base g k Z L Al Aw cl cw held k C) (fun i _ => k - (intOf i).toNat)
      case atStart => exact ⟨0, rfl, by omega, h0⟩
      case round =>
        obtain ⟨t, rfl, ht, hM⟩ := hrel
        clear h0
        have k0 : wr.cell? ⟨g, 0, none⟩ = some (.slice Al k cl) := hM.blk.cell 0
        by_cases hlt : t < k
        · obtain ⟨e0, he0⟩ : ∃ e0, L[t]? = some e0 := ⟨_, List.getElem?_eq_getElem (by rw [← Hm.out]; exact hlt)⟩
          obtain ⟨g4, o4, hg4, hix4, hcell4⟩ := hM.lists.index (P := Tryd.prog) (t := 45) Tryd.underlying45 (by kernel_rfl) (i := t) (by rw [List.length_map, ← Hm.out]; exact hlt)
          rw [List.getElem?_map, he0, Option.map_some] at hcell4
          obtain ⟨A6, c6, hv6, hCk, hn6, ho6⟩ : ∃ A6 c6, e0.v = .slice A6 e0.n c6 ∧ (C t).length = c6 * 4 ∧ c6 ≤ maxLen ∧ (0 < c6 → ∃ ge, A6 = some ⟨ge, 0, none⟩) := by
            rcases hM.whole t e0 he0 with ⟨e1, e2, e3⟩ | ⟨ge, cap, e1, h1, h2, h3, h4⟩
            · exact ⟨none, 0, by rw [e1, e2], by rw [e3]; rfl, by simp [maxLen], by omega⟩
            · exact ⟨_, cap, e1, h4, h2, fun _ => ⟨ge, rfl⟩⟩
          rw [hv6] at hcell4
          have hsh := run_slice_h (P := Tryd.prog) (A := A6) (n := e0.n) (c := c6) (m := c6) (hi := (c6 : Int)) Tryd.underlying24 (size := 4) (by kernel_rfl) rfl (Nat.le_refl _)
          replace hn6 : c6 ≤ 9223372036854775807 := by simpa [maxLen] using hn6
          have hc0 : (0 : Int) ≤ (c6 : Int) := by omega
          have hCm := hM.done t hlt _ hCk
          have Hv6 := Lib.hid hv6
          have He0 := Lib.hid he0
          have HCm := Lib.hid hCm
          clear hv6 he0 hCk hCm
          go_upto_region 14 with (fail)
          go_quiet (fail)
          have hM5 := hM.go ((Only.refl [] wr).drewN nq)
          clear k0 hix4 hcell4 hsh
          go_wp2_with (fail)
          go_loopw [10] (fun i wx => ∃ j : Nat, i = .int .i64 (j : Int) ∧ j ≤ c6 ∧ MarkedI w wx base g k Z L Al Aw cl cw held k C) (fun i _ => c6 - (intOf i).toNat)
          case atStart => exact ⟨0, rfl, by omega, hM5⟩
          case round =>
            obtain ⟨j, rfl, hj, hM6⟩ := hrel
            by_cases hlt6 : j < c6
            · obtain ⟨ge, rfl⟩ := ho6 (by omega)
              have hb6 : Blk wr ge 33 (C t) := by
                rcases hM6.whole t e0 He0.out with ⟨e1, _⟩ | ⟨ge', cap', e1, _, _, hb, _⟩
                · rw [Hv6.out] at e1; cases e1
                · rw [Hv6.out] at e1; cases e1; exact hb
              obtain ⟨g0, g1, g2, g3⟩ := marksI_get t c6 j hlt6
              have kS : ∀ W, Only [] wr W → (W.cell? ⟨ge, j * 4, none⟩ = some (.int .i64 (mkI t j).1) ∧ W.cell? ⟨ge, j * 4 + 1, none⟩ = some (.int .i64 (mkI t j).2) ∧ W.cell? ⟨ge, j * 4 + 2, none⟩ = some (.int .i32 0) ∧ W.cell? ⟨ge, j * 4 + 3, none⟩ = some (.bool false)) := fun W hw => ⟨by rw [(hb6.only hw (by simp)).cell, HCm.out]; exact g0, by rw [(hb6.only hw (by simp)).cell, HCm.out]; exact g1, by rw [(hb6.only hw (by simp)).cell, HCm.out]; exact g2, by rw [(hb6.only hw (by simp)).cell, HCm.out]; exact g3⟩
              have KS := Lib.hid kS
              obtain ⟨h60, h61, h62, h63⟩ := kS _ (.refl _ _)
              clear kS g0 g1 g2 g3
              have hj0 : (0 : Int) ≤ (j : Int) := by omega
              have hj1 : (j : Int) < (c6 : Int) := by omega
              go_upto_region 18 with (fail)
              go_region_held3 (fun W => (W.cell? ⟨ge, j * 4, none⟩ = some (.int .i64 (mkI t j).1) ∧ W.cell? ⟨ge, j * 4 + 1, none⟩ = some (.int .i64 (mkI t j).2) ∧ W.cell? ⟨ge, j * 4 + 2, none⟩ = some (.int .i32 0) ∧ W.cell? ⟨ge, j * 4 + 3, none⟩ = some (.bool false)) ∧ Only [] wr W)
                (first | exact ⟨KS.out _ ((Only.refl _ _).drew), (Only.refl _ _).drew⟩ | exact ⟨KS.out _ (by assumption), (by assumption)⟩)
                ((go_at_call 27
                  obtain ⟨-, hF⟩ := (by assumption : _ ∧ Only [] wr _)
                  refine (markI_any t j _ (by omega) (by omega)).mono ?_
                  rintro e w7 ⟨rfl, hO7⟩
                  replace hO7 := hF.trans hO7
                  clear hF))
              all_goals
                clear h60 h61 h62 h63
                go_wp2_with (fail)
                go_roundw
                case rel => exact ⟨j + 1, by go_num, by omega, hM6.go (by first | assumption | exact Only.drew (by assumption))⟩
                case measure => simp [intOf]; omega
            · obtain rfl : j = c6 := by omega
              go_wp2_with (fail)
              go_roundw
              case rel => exact ⟨t + 1, by go_num, by omega, hM6⟩
              case measure => simp [intOf]; omega
        · obtain rfl : t = k := by omega
          have f0 : wr.frozen? ⟨g, 0, none⟩ = false := hM.blk.frozen 0
          have f1 : wr.frozen? ⟨g, 1, none⟩ = false := hM.blk.frozen 1
          have f2 : wr.frozen? ⟨g, 2, none⟩ = false := hM.blk.frozen 2
          have k1 : wr.cell? ⟨g, 1, none⟩ = some (.slice Aw t cw) := hM.blk.cell 1
          have k2 : wr.cell? ⟨g, 2, none⟩ = some (.int .i64 held) := hM.blk.cell 2
          go_wp2_with (fail)
          go_ret
          refine ⟨rfl, ?_⟩
          rw [← HZ.out]
          exact ((hM.only.setCell (.inl hgZ) _).setCell (.inl hgZ) _).setCell (.inl hgZ) _
end Go.Proofs.YteadcibbpbbehaaDoor
