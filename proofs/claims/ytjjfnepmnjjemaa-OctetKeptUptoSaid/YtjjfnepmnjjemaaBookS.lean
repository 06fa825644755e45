/- Book[byte].Stays. -/
import Derived.Test.YtjjfnepmnjjemaaBook
namespace Go.Proofs.Ytjjfnepmnjjemaa
open Go.RowKit

set_option maxRecDepth 100000 in
set_option maxHeartbeats 2000000 in
theorem stays_any (w : World) (base g : Nat) (bl : List Nat) (L : List Ent) (lv wv : Value) (held : Int) (ws : List Value) (h : BookB w base g bl L lv wv held ws) (hL : L.length ≤ 4001) :
    Calls Try.prog 39 #[.pointer (some ⟨g, 0, none⟩)] w fun e w' => e = .returned (.bool true) ∧ BookB w' base g bl L lv wv held ws ∧ Only [g] w w' := by
  obtain ⟨Al, cl, hlv, _, _, _⟩ := h.lists.form
  obtain ⟨Aw, cw, hwv, _, _, _⟩ := h.was.form
  rw [List.length_map] at hlv
  rw [h.len] at hwv
  subst hlv hwv
  obtain ⟨m, hm⟩ : ∃ m, m = L.length := ⟨_, rfl⟩
  have Hm := Lib.hid hm
  rw [← hm] at h hL ⊢
  clear hm
  go_enter Try.func39, Try.ntmps39
  go_wp2_with (fail)
  go_loopw [3] (fun i wr => ∃ k : Nat, i = .int .i64 (k : Int) ∧ k ≤ m ∧ BookB wr base g bl L (.slice Al m cl) (.slice Aw m cw) held ws ∧ Only [g] w wr) (fun i _ => m - (intOf i).toNat)
  case atStart => exact ⟨0, rfl, by omega, h, Only.refl _ _⟩
  case round =>
    obtain ⟨k, rfl, hk, hB, hO⟩ := hrel
    have k0 : wr.cell? ⟨g, 0, none⟩ = some (.slice Al m cl) := hB.blk.cell 0
    have k1 : wr.cell? ⟨g, 1, none⟩ = some (.slice Aw m cw) := hB.blk.cell 1
    have k3 : wr.cell? ⟨g, 3, none⟩ = some (.bool false) := hB.blk.cell 3
    by_cases hlt : k < m
    · obtain ⟨e0, he0⟩ : ∃ e0, L[k]? = some e0 := ⟨_, List.getElem?_eq_getElem (by rw [← Hm.out]; exact hlt)⟩
      obtain ⟨u0, hu0⟩ : ∃ u0, ws[k]? = some u0 := ⟨_, List.getElem?_eq_getElem (by rw [hB.len, ← Hm.out]; exact hlt)⟩
      obtain ⟨g4, o4, hg4, hix4, hcell4⟩ := hB.lists.index (P := Try.prog) (t := 40) Try.underlying40 (by kernel_rfl) (i := k) (by rw [List.length_map, ← Hm.out]; exact hlt)
      obtain ⟨g5, o5, hg5, hix5, hcell5⟩ := hB.was.index (P := Try.prog) (t := 40) Try.underlying40 (by kernel_rfl) (i := k) (by rw [hB.len, ← Hm.out]; exact hlt)
      have hn4 : g4 ≠ g := blockNe hB.lists hB.blk hB.ne.1 hg4
      have hn5 : g5 ≠ g := blockNe hB.was hB.blk hB.ne.1 hg5
      rw [List.getElem?_map, he0, Option.map_some] at hcell4
      rw [hu0] at hcell5
      have hmem := List.mem_of_getElem? he0
      obtain ⟨A6, c6, hv6, hc6, hr6, _⟩ := own_slice (hB.ents e0 hmem).1
      obtain ⟨A7, c7, hv7, hc7, hr7, _⟩ := own_slice (hB.data k e0 u0 he0 hu0).1
      rw [hv6] at hcell4
      rw [hv7] at hcell5
      obtain ⟨l0, hl0, hl0n⟩ := hB.good e0 hmem
      rw [hl0] at hr6 hr7
      clear hl0 he0 hu0 hv6 hv7 hmem
      go_upto_region 4 with (fail)
      have k3f : ∀ k, (wr.drewN k).frozen? ⟨g, 3, none⟩ = false := fun k => hB.blk.frozen 3
      have kS : ∀ k, ((wr.drewN k).setCell ⟨g, 3, none⟩ (.bool false)).cell? ⟨g, 3, none⟩ = some (.bool false) ∧ ((wr.drewN k).setCell ⟨g, 3, none⟩ (.bool false)).cell? ⟨g, 0, none⟩ = some (.slice Al m cl) ∧ ((wr.drewN k).setCell ⟨g, 3, none⟩ (.bool false)).cell? ⟨g, 1, none⟩ = some (.slice Aw m cw) ∧ ((wr.drewN k).setCell ⟨g, 3, none⟩ (.bool false)).cell? ⟨g4, o4, none⟩ = some (.slice A6 e0.n c6) ∧ ((wr.drewN k).setCell ⟨g, 3, none⟩ (.bool false)).cell? ⟨g5, o5, none⟩ = some (.slice A7 e0.n c7) := by
        intro k
        have hb := (hB.blk.drewN k).set 3 (.bool false)
        have hO : Only [g] (wr.drewN k) ((wr.drewN k).setCell ⟨g, 3, none⟩ (.bool false)) := (Only.refl _ _).setCell (.inl (by simp)) _
        exact ⟨hb.cell 3, hb.cell 0, hb.cell 1, hO.cellv (p := ⟨g4, o4, none⟩) hcell4 (by simpa using hn4), hO.cellv (p := ⟨g5, o5, none⟩) hcell5 (by simpa using hn5)⟩
      go_region_held3 (fun w' => w'.cell? ⟨g, 3, none⟩ = some (.bool false) ∧ w'.cell? ⟨g, 0, none⟩ = some (.slice Al m cl) ∧ w'.cell? ⟨g, 1, none⟩ = some (.slice Aw m cw) ∧ w'.cell? ⟨g4, o4, none⟩ = some (.slice A6 e0.n c6) ∧ w'.cell? ⟨g5, o5, none⟩ = some (.slice A7 e0.n c7)) (first | exact kS _ | go_keep)
        ((go_at_call 32
          refine (same_any A6 A7 e0.n c6 e0.n c7 _ _ l0 l0 _ (by exact hr6) (by exact hr7) (by omega)).mono ?_
          rintro e w5 ⟨rfl, k5, rfl⟩))
      all_goals
        have hS := (Only.refl [g] wr).drewN (1 + k5) |>.setCell (p := ⟨g, 3, none⟩) (.inl (by simp)) (.bool false)
        have hB5 : BookB ((wr.drewN (1 + k5)).setCell ⟨g, 3, none⟩ (.bool false)) base g bl L (.slice Al m cl) (.slice Aw m cw) held ws := hB.poke hS ((hB.blk.drewN (1 + k5)).set 3 _)
        clear k0 k1 k3 hix4 hix5 hcell4 hcell5 hr6 hr7 kS k3f
        go_wp2
        go_roundw
        case rel => exact ⟨k + 1, by go_num, by omega, hB5, hO.trans hS⟩
        case measure => simp [intOf]; omega
    · go_wp2
      go_ret
      exact ⟨rfl, hB, hO⟩
end Go.Proofs.Ytjjfnepmnjjemaa
