/- Book[byte].Apart. -/
import Derived.Test.YtjjfnepmnjjemaaBookS
namespace Go.Proofs.Ytjjfnepmnjjemaa
open Go.RowKit

def mk (i j : Nat) : UInt8 := UInt8.ofNat ((i + 1) / 2 ^ (8 * (j % 3)))
set_option maxRecDepth 100000 in
set_option maxHeartbeats 1000000 in
theorem bytes_any (i j : Nat) (w : World) (hi : i ≤ 5000) (hj : j ≤ 9223372036854775807) : Calls Try.prog 26 #[.int .i64 (i : Int), .int .i64 (j : Int)] w fun e w' => e = .returned (.int .u8 ((mk i j).toNat : Int)) ∧ w = w' := by
  have hr : ∀ W, (Op.intDiv .rem .i64 (j : Int) 3).run Try.prog W = .ok (.int .i64 ((j % 3 : Nat) : Int)) W := fun W => run_rem_nat (P := Try.prog) (j : Int) 3 (j % 3) (by omega) (by omega) (by omega) W
  obtain ⟨d, hd⟩ : ∃ d, d = j % 3 := ⟨_, rfl⟩
  have hd3 : d < 3 := by omega
  rw [← hd] at hr
  have Hd := Lib.hid hd
  clear hd
  go_enter Try.func26, Try.ntmps26
  go_wp2
  go_ret
  refine ⟨?_, rfl⟩
  refine ret_int ?_
  simp [mk]

def marks (i c : Nat) : List UInt8 := (List.range c).map (mk i)
/-- a list's whole room, its cells -/
def Whole (w : World) (te : Nat) (v : Value) (n : Nat) (cs : List Value) : Prop := (v = .slice none 0 0 ∧ n = 0 ∧ cs = []) ∨ ∃ ge cap, v = .slice (some ⟨ge, 0, none⟩) n cap ∧ n ≤ cap ∧ cap ≤ maxLen ∧ Blk w ge te cs ∧ cs.length = cap
theorem Whole.of_own {w : World} {base e n : Nat} {v : Value} {xs : List Value} (h : w.ownsRow base e 1 v n xs) : ∃ cs, Whole w e v n cs := by
  rcases h.2 with ⟨hv, h0⟩ | ⟨g, cap, cur, hv, hb, hg, hnc, hcm, hcs, htake⟩
  · exact ⟨[], .inl ⟨hv, h0, rfl⟩⟩
  · exact ⟨cur.toList, .inr ⟨g, cap, hv, hnc, hcm, Blk.mk' hg rfl, by rw [Array.length_toList, hcs, Nat.mul_one]⟩⟩
theorem Whole.only {w w' : World} {e n : Nat} {v : Value} {cs : List Value} (h : Whole w e v n cs) {l : List Nat} (ho : Only l w w') (hl : ∀ k, v.ownBlock = some k → k ∉ l) : Whole w' e v n cs := by
  rcases h with h | ⟨ge, cap, rfl, h1, h2, h3, h4⟩
  · exact .inl h
  · exact .inr ⟨ge, cap, rfl, h1, h2, h3.only ho (hl ge rfl), h4⟩

/-- the book while its lists are written over: k of them bear their marks -/
structure Marked (w w' : World) (base g m : Nat) (Z : List Nat) (L : List Ent) (Al Aw : Option Addr) (cl cw : Nat) (held : Int) (k : Nat) (C : Nat → List Value) : Prop where
  blk : Blk w' g 42 [.slice Al m cl, .slice Aw m cw, .int .i64 held, .bool false]
  lists : OwnS w' base 26 (.slice Al m cl) (L.map Ent.v)
  whole : ∀ (t : Nat) e, L[t]? = some e → Whole w' 5 e.v e.n (C t)
  done : ∀ t, t < k → C t = bvs (marks t (C t).length)
  dist : ∀ (s t : Nat) e f, L[s]? = some e → L[t]? = some f → s ≠ t → ∀ k, e.v.ownBlock = some k → f.v.ownBlock ≠ some k
  only : Only Z w w'
  inz : ∀ (t : Nat) e, L[t]? = some e → ∀ k, e.v.ownBlock = some k → k ∈ Z
theorem Marked.go {w w' w2 : World} {base g m : Nat} {Z : List Nat} {L : List Ent} {Al Aw : Option Addr} {cl cw : Nat} {held : Int} {k : Nat} {C : Nat → List Value} (h : Marked w w' base g m Z L Al Aw cl cw held k C) (hO : Only [] w' w2) : Marked w w2 base g m Z L Al Aw cl cw held k C where
  blk := h.blk.only hO (by simp)
  lists := h.lists.only hO (by simp)
  whole t e he := (h.whole t e he).only hO (by simp)
  done := h.done
  dist := h.dist
  only := h.only.trans0 hO
  inz := h.inz

/-- one place of list k written -/
theorem Marked.put {w w' : World} {base g m : Nat} {Z : List Nat} {L : List Ent} {Al Aw : Option Addr} {cl cw : Nat} {held : Int} {k : Nat} {C : Nat → List Value} (h : Marked w w' base g m Z L Al Aw cl cw held k C) {e : Ent} (he : L[k]? = some e) {ge cap j : Nat}
    (hv : e.v = .slice (some ⟨ge, 0, none⟩) e.n cap) (u : Value) : Marked w (w'.setCell ⟨ge, j, none⟩ u) base g m Z L Al Aw cl cw held k (fun t => if t = k then (C k).set j u else C t) := by
  have hw := h.whole k e he
  have hown : e.v.ownBlock = some ge := by rw [hv]; rfl
  have hblk : Blk w' ge 5 (C k) := by
    rcases hw with ⟨e1, _⟩ | ⟨ge', cap', e1, _, _, hb, _⟩
    · rw [hv] at e1; cases e1
    · rw [hv] at e1; cases e1; exact hb
  have hS : Only [ge] w' (w'.setCell ⟨ge, j, none⟩ u) := (Only.refl _ _).setCell (.inl (by simp)) u
  refine ⟨h.blk.only hS (by simp; exact fun hg => h.blk.ne hblk (by decide) hg), h.lists.only hS ?_, ?_, ?_, h.dist, h.only.trans' hS ?_, h.inz⟩
  · intro k hk; simp; exact blockNe h.lists hblk (by decide) hk
  · intro t f hf
    by_cases ht : t = k
    · subst ht
      rw [he] at hf; cases hf
      rw [if_pos rfl]
      rcases hw with ⟨e1, _⟩ | ⟨ge', cap', e1, h1, h2, hb, h4⟩
      · rw [hv] at e1; cases e1
      · rw [hv] at e1; cases e1
        exact .inr ⟨ge, cap, hv, h1, h2, hb.set j u, by simpa using h4⟩
    · rw [if_neg ht]
      exact (h.whole t f hf).only hS (by intro x hx; simp; intro hxg; subst hxg; exact h.dist t k f e hf he ht x hx hown)
  · intro t ht
    have : ¬ t = k := by omega
    simp only [this, if_false]
    exact h.done t ht
  · intro x hx; simp at hx; subst hx; exact .inl (h.inz k e he _ hown)
theorem marks_set (i c j : Nat) (cs : List Value) (hc : cs.length = c) (hj : j < c) (h : ∀ t, t < j → cs[t]? = some (bv (mk i t))) : ∀ t, t < j + 1 → (cs.set j (bv (mk i j)))[t]? = some (bv (mk i t)) := by
  intro t ht
  by_cases e : t = j
  · subst e; rw [List.getElem?_set_self (by omega)]
  · rw [List.getElem?_set_ne (by omega)]; exact h t (by omega)
theorem marks_all (i c : Nat) (cs : List Value) (hc : cs.length = c) (h : ∀ t, t < c → cs[t]? = some (bv (mk i t))) : cs = bvs (marks i c) := by
  apply List.ext_getElem?
  intro t
  by_cases ht : t < c
  · rw [h t ht]; simp [bvs, marks, ht]
  · rw [List.getElem?_eq_none (by omega), List.getElem?_eq_none (by simp [bvs, marks]; omega)]

set_option maxRecDepth 100000 in
set_option maxHeartbeats 2000000 in
theorem apart_any (w : World) (base g : Nat) (bl : List Nat) (L : List Ent) (lv wv : Value) (held : Int) (ws : List Value) (h : BookB w base g bl L lv wv held ws) (hL : L.length ≤ 4001) :
    Calls Try.prog 25 #[.pointer (some ⟨g, 0, none⟩), .func (.func 26) #[] #[]] w fun e w' => e = .returned (.bool true) ∧ Only (bl ++ L.flatMap fun e => e.v.ownBlock.toList) w w' := by
  obtain ⟨Al, cl, hlv, _, _, _⟩ := h.lists.form
  obtain ⟨Aw, cw, hwv, _, _, _⟩ := h.was.form
  rw [List.length_map] at hlv
  rw [h.len] at hwv
  subst hlv hwv
  obtain ⟨m, hm⟩ : ∃ m, m = L.length := ⟨_, rfl⟩
  have Hm := Lib.hid hm
  rw [← hm] at h hL
  clear hm
  go_enter Try.func25, Try.ntmps25
  go_wp2_with (fail)
  refine (stays_any w base g bl L _ _ held ws h (by rw [← Hm.out]; exact hL)).mono ?_
  rintro e w1 ⟨rfl, hB1, hO1⟩
  obtain ⟨Z, hZ⟩ : ∃ Z, Z = bl ++ L.flatMap fun e => e.v.ownBlock.toList := ⟨_, rfl⟩
  obtain ⟨C0, hM0⟩ : ∃ C, Marked w w1 base g m Z L Al Aw cl cw held 0 C := by
    have hch : ∀ t : Nat, ∃ cs, ∀ e : Ent, L[t]? = some e → Whole w1 5 e.v e.n cs := by
      intro t
      cases ht : L[t]? with
      | none => exact ⟨[], by simp⟩
      | some e =>
        obtain ⟨cs, hc⟩ := Whole.of_own (hB1.ents e (List.mem_of_getElem? ht)).1
        exact ⟨cs, by intro f hf; cases hf; exact hc⟩
    refine ⟨fun t => (hch t).choose, hB1.blk, hB1.lists, fun t e he => (hch t).choose_spec e he, by omega, ?_, hO1.mono ?_, ?_⟩
    · intro s t e f hs ht hne k hk
      have hp := List.pairwise_iff_getElem.1 hB1.dist
      obtain ⟨is, es⟩ := List.getElem?_eq_some_iff.1 hs
      obtain ⟨it, et⟩ := List.getElem?_eq_some_iff.1 ht
      rcases Nat.lt_or_gt_of_ne hne with hlt | hlt
      · have := hp s t is it hlt k (by rw [es]; exact hk); rwa [et] at this
      · intro hk2
        have := hp t s it is hlt k (by rw [et]; exact hk2)
        rw [es] at this
        exact this hk
    · intro x hx; simp at hx; subst hx; exact .inl (by rw [hZ]; simp [hB1.ing])
    · intro t e he k hk
      rw [hZ]
      simp only [List.mem_append, List.mem_flatMap, Option.mem_toList]
      exact .inr ⟨e, List.mem_of_getElem? he, hk⟩
  have HZ := Lib.hid hZ
  have hgZ : g ∈ Z := by rw [hZ]; simp [hB1.ing]
  clear hB1 hO1 hZ h
  go_wp2_with (fail)
  go_loopw [5] (fun i wr => ∃ (k : Nat) (C : Nat → List Value), i = .int .i64 (k : Int) ∧ k ≤ m ∧ Marked w wr base g m Z L Al Aw cl cw held k C) (fun i _ => m - (intOf i).toNat)
  case atStart => exact ⟨0, C0, rfl, by omega, hM0⟩
  case round =>
    obtain ⟨k, C, rfl, hk, hM⟩ := hrel
    have k0 : wr.cell? ⟨g, 0, none⟩ = some (.slice Al m cl) := hM.blk.cell 0
    by_cases hlt : k < m
    · obtain ⟨e0, he0⟩ : ∃ e0, L[k]? = some e0 := ⟨_, List.getElem?_eq_getElem (by rw [← Hm.out]; exact hlt)⟩
      obtain ⟨g4, o4, hg4, hix4, hcell4⟩ := hM.lists.index (P := Try.prog) (t := 40) Try.underlying40 (by kernel_rfl) (i := k) (by rw [List.length_map, ← Hm.out]; exact hlt)
      rw [List.getElem?_map, he0, Option.map_some] at hcell4
      obtain ⟨A6, c6, hv6, hCk, hn6, ho6⟩ : ∃ A6 c6, e0.v = .slice A6 e0.n c6 ∧ (C k).length = c6 ∧ c6 ≤ maxLen ∧ (0 < c6 → ∃ ge, A6 = some ⟨ge, 0, none⟩) := by
        rcases hM.whole k e0 he0 with ⟨e1, e2, e3⟩ | ⟨ge, cap, e1, h1, h2, h3, h4⟩
        · exact ⟨none, 0, by rw [e1, e2], by rw [e3]; rfl, by simp [maxLen], by omega⟩
        · exact ⟨_, cap, e1, h4, h2, fun _ => ⟨ge, rfl⟩⟩
      rw [hv6] at hcell4
      have hsh := run_slice_h (P := Try.prog) (A := A6) (n := e0.n) (c := c6) (m := c6) (hi := (c6 : Int)) Try.underlying26 (size := 1) (by kernel_rfl) rfl (Nat.le_refl _)
      replace hn6 : c6 ≤ 9223372036854775807 := by simpa [maxLen] using hn6
      have hc0 : (0 : Int) ≤ (c6 : Int) := by omega
      have Hv6 := Lib.hid hv6
      have He0 := Lib.hid he0
      have HCk := Lib.hid hCk
      clear hv6 he0 hCk
      go_upto_region 6 with (fail)
      go_quiet (fail)
      have hM5 := hM.go ((Only.refl [] wr).drewN nq)
      clear k0 hix4 hcell4 hsh
      go_wp2_with (fail)
      go_loopw [7] (fun i wx => ∃ (j : Nat) (C' : Nat → List Value), i = .int .i64 (j : Int) ∧ j ≤ c6 ∧ Marked w wx base g m Z L Al Aw cl cw held k C' ∧ (C' k).length = c6 ∧ ∀ t, t < j → (C' k)[t]? = some (bv (mk k t))) (fun i _ => c6 - (intOf i).toNat)
      case atStart => exact ⟨0, C, rfl, by omega, hM5, HCk.out, by omega⟩
      case round =>
        obtain ⟨j, C', rfl, hj, hM6, hCk', hmk⟩ := hrel
        have HCk' := Lib.hid hCk'
        have Hmk := Lib.hid hmk
        clear hCk' hmk
        by_cases hlt6 : j < c6
        · obtain ⟨ge, rfl⟩ := ho6 (by omega)
          have hb6 : Blk wr ge 5 (C' k) := by
            rcases hM6.whole k e0 He0.out with ⟨e1, _⟩ | ⟨ge', cap', e1, _, _, hb, _⟩
            · rw [Hv6.out] at e1; cases e1
            · rw [Hv6.out] at e1; cases e1; exact hb
          go_wp2_with (fail)
          refine (bytes_any k j _ (by omega) (by omega)).mono ?_
          rintro e w7 ⟨rfl, rfl⟩
          have h6 : wr.cell? ⟨ge, j, none⟩ = some ((C' k)[j]'(by rw [HCk'.out]; exact hlt6)) := by rw [hb6.cell, List.getElem?_eq_getElem]
          have f6 : wr.frozen? ⟨ge, j, none⟩ = false := hb6.frozen j
          have hput := hM6.put He0.out Hv6.out (j := j) (bv (mk k j))
          generalize (C' k)[j]'(by rw [HCk'.out]; exact hlt6) = z6 at h6
          go_wp2_with (fail)
          go_roundw
          case rel => exact ⟨j + 1, _, by go_num, by omega, hput, by simp [HCk'.out], by simp only [if_true]; exact marks_set k c6 j _ HCk'.out hlt6 Hmk.out⟩
          case measure => simp [intOf]; omega
        · obtain rfl : j = c6 := by omega
          have hall := marks_all k j _ HCk'.out Hmk.out
          go_wp2_with (fail)
          go_roundw
          case rel =>
            refine ⟨k + 1, C', by go_num, by omega, ⟨hM6.blk, hM6.lists, hM6.whole, ?_, hM6.dist, hM6.only, hM6.inz⟩⟩
            intro t ht
            by_cases e : t = k
            · subst e; rw [HCk'.out]; exact hall
            · exact hM6.done t (by omega)
          case measure => simp [intOf]; omega
    · obtain rfl : k = m := by omega
      have h0 := hM
      go_wp2_with (fail)
      clear hM0 hk k0 hlt
      go_loopw [8] (fun i wx => ∃ t : Nat, i = .int .i64 (t : Int) ∧ t ≤ k ∧ Marked w wx base g k Z L Al Aw cl cw held k C) (fun i _ => k - (intOf i).toNat)
      case atStart => exact ⟨0, rfl, by omega, h0⟩
      case round =>
        obtain ⟨t, rfl, ht, hM⟩ := hrel
        clear h0
        have k0 : wr.cell? ⟨g, 0, none⟩ = some (.slice Al k cl) := hM.blk.cell 0
        by_cases hlt : t < k
        · obtain ⟨e0, he0⟩ : ∃ e0, L[t]? = some e0 := ⟨_, List.getElem?_eq_getElem (by rw [← Hm.out]; exact hlt)⟩
          obtain ⟨g4, o4, hg4, hix4, hcell4⟩ := hM.lists.index (P := Try.prog) (t := 40) Try.underlying40 (by kernel_rfl) (i := t) (by rw [List.length_map, ← Hm.out]; exact hlt)
          rw [List.getElem?_map, he0, Option.map_some] at hcell4
          obtain ⟨A6, c6, hv6, hCk, hn6, ho6⟩ : ∃ A6 c6, e0.v = .slice A6 e0.n c6 ∧ (C t).length = c6 ∧ c6 ≤ maxLen ∧ (0 < c6 → ∃ ge, A6 = some ⟨ge, 0, none⟩) := by
            rcases hM.whole t e0 he0 with ⟨e1, e2, e3⟩ | ⟨ge, cap, e1, h1, h2, h3, h4⟩
            · exact ⟨none, 0, by rw [e1, e2], by rw [e3]; rfl, by simp [maxLen], by omega⟩
            · exact ⟨_, cap, e1, h4, h2, fun _ => ⟨ge, rfl⟩⟩
          rw [hv6] at hcell4
          have hsh := run_slice_h (P := Try.prog) (A := A6) (n := e0.n) (c := c6) (m := c6) (hi := (c6 : Int)) Try.underlying26 (size := 1) (by kernel_rfl) rfl (Nat.le_refl _)
          replace hn6 : c6 ≤ 9223372036854775807 := by simpa [maxLen] using hn6
          have hc0 : (0 : Int) ≤ (c6 : Int) := by omega
          have hCm := hM.done t hlt
          rw [hCk] at hCm
          have Hv6 := Lib.hid hv6
          have He0 := Lib.hid he0
          have HCm := Lib.hid hCm
          clear hv6 he0 hCk hCm
          go_upto_region 14 with (fail)
          go_quiet (fail)
          have hM5 := hM.go ((Only.refl [] wr).drewN nq)
          clear k0 hix4 hcell4 hsh
          go_wp2_with (fail)
          go_loopw [10] (fun i wx => ∃ j : Nat, i = .int .i64 (j : Int) ∧ j ≤ c6 ∧ Marked w wx base g k Z L Al Aw cl cw held k C) (fun i _ => c6 - (intOf i).toNat)
          case atStart => exact ⟨0, rfl, by omega, hM5⟩
          case round =>
            obtain ⟨j, rfl, hj, hM6⟩ := hrel
            by_cases hlt6 : j < c6
            · obtain ⟨ge, rfl⟩ := ho6 (by omega)
              have hb6 : Blk wr ge 5 (C t) := by
                rcases hM6.whole t e0 He0.out with ⟨e1, _⟩ | ⟨ge', cap', e1, _, _, hb, _⟩
                · rw [Hv6.out] at e1; cases e1
                · rw [Hv6.out] at e1; cases e1; exact hb
              have h6 : wr.cell? ⟨ge, j, none⟩ = some (.int .u8 ((mk t j).toNat : Int)) := by rw [hb6.cell, HCm.out]; simp [bvs, marks, hlt6, bv]
              have hj0 : (0 : Int) ≤ (j : Int) := by omega
              have hj1 : (j : Int) < (c6 : Int) := by omega
              go_upto_region 18 with (fail)
              go_region_with ((go_at_call 26
                               refine (bytes_any t j _ (by omega) (by omega)).mono ?_
                               rintro e w7 ⟨rfl, rfl⟩))
              all_goals
                clear h6
                go_wp2_with (fail)
                go_roundw
                case rel => exact ⟨j + 1, by go_num, by omega, by first | exact hM6 | exact hM6.go ((Only.refl [] wr).drew) | exact hM6.go ((Only.refl [] wr).drewN _)⟩
                case measure => simp [intOf]; omega
            · obtain rfl : j = c6 := by omega
              go_wp2_with (fail)
              go_roundw
              case rel => exact ⟨t + 1, by go_num, by omega, hM6⟩
              case measure => simp [intOf]; omega
        · obtain rfl : t = k := by omega
          have f0 : wr.frozen? ⟨g, 0, none⟩ = false := hM.blk.frozen 0
          have f1 : wr.frozen? ⟨g, 1, none⟩ = false := hM.blk.frozen 1
          have f2 : wr.frozen? ⟨g, 2, none⟩ = false := hM.blk.frozen 2
          have k1 : wr.cell? ⟨g, 1, none⟩ = some (.slice Aw t cw) := hM.blk.cell 1
          have k2 : wr.cell? ⟨g, 2, none⟩ = some (.int .i64 held) := hM.blk.cell 2
          go_wp2_with (fail)
          go_ret
          refine ⟨rfl, ?_⟩
          rw [← HZ.out]
          exact ((hM.only.setCell (.inl hgZ) _).setCell (.inl hgZ) _).setCell (.inl hgZ) _
end Go.Proofs.Ytjjfnepmnjjemaa
