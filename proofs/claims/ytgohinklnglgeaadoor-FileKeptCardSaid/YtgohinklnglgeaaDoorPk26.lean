/- Several texts in one: Book[byte]: Keep, Stays, Apart.; Book[byte].Stays.; Book[byte].Apart.; A book that is made, and a Keep in the caller's words. -/
import Derived.Test.YtgohinklnglgeaaDoorPk25
import Derived.Test.YtgohinklnglgeaaDoorPk2
import Derived.Deep.RegionLaw
import Derived.Deep.RegionHeld3
import Derived.Deep.DeepCutAuto
set_option linter.unusedVariables false
set_option linter.unusedSimpArgs false
namespace Go.Proofs.YtgohinklnglgeaaDoor
open Go.RowKit

theorem listInfo : (Tryd.prog.info? 22).map (fun i => (i.zero, i.size, i.bytes)) = some (some (.slice none 0 0), 1, 24) := by kernel_rfl

abbrev BookB (w : World) (base g : Nat) (bl : List Nat) (L : List Ent) (lv wv : Value) (held : Int) (ws : List Value) : Prop := BookAt (fun e => ∃ l, e.xs = bvs l ∧ e.n ≤ 70368744177664) w base 57 22 5 1 g bl L lv wv held ws

def KeptB (w w' : World) (base g : Nat) (bl : List Nat) (L : List Ent) : Prop :=
  ∃ j bl' lv' wv' held' ws', BookB w' base g bl' (L.drop j) lv' wv' held' ws' ∧ (L.drop j).length ≤ 4000 ∧ j < L.length ∧ Only bl w w' ∧ ∀ x ∈ bl', x ∈ bl ∨ w.heap.size ≤ x

/-- how many lists the book holds, off its first cell -/
def lenAt (w : World) (g : Nat) : Nat := match w.cell? ⟨g, 0, none⟩ with
  | some (.slice _ n _) => n
  | _ => 0

set_option maxRecDepth 100000 in
set_option maxHeartbeats 2000000 in
theorem keep_any (w : World) (base g : Nat) (bl : List Nat) (L : List Ent) (lv wv : Value) (held : Int) (ws : List Value) (h : BookB w base g bl L lv wv held ws) (hL : L.length ≤ 4000)
    (A : Option Addr) (n c : Nat) (l : List UInt8) (hv : w.ownsRow base 5 1 (.slice A n c) n (bvs l)) (hfar : ∀ k, (Value.slice A n c).ownBlock = some k → k ∉ bl) (hd : ∀ e ∈ L, ∀ k, e.v.ownBlock = some k → (Value.slice A n c).ownBlock ≠ some k) (hn : n ≤ 70368744177664) :
    Calls Tryd.prog 23 #[.pointer (some ⟨g, 0, none⟩), .slice A n c] w fun e w' => e = .returned (.tuple #[]) ∧ KeptB w w' base g bl (L ++ [⟨.slice A n c, n, bvs l⟩]) := by
  have hbase : base ≤ w.heap.size := by have := h.own g h.ing; omega
  obtain ⟨Al, cl, hlv, _, _, _⟩ := h.lists.form
  obtain ⟨Aw, cw, hwv, _, _, _⟩ := h.was.form
  rw [List.length_map] at hlv
  rw [h.len] at hwv
  have hbl := h.blk
  have c0 : w.cell? ⟨g, 0, none⟩ = some lv := hbl.cell 0
  subst hlv hwv
  obtain ⟨h0, hh0⟩ : ∃ h0, h0 = w.heap.size := ⟨_, rfl⟩
  go_enter Tryd.func23, Tryd.ntmps23
  have hg1 : ∀ k, (Value.slice Al L.length cl).ownBlock = some k → k ≠ g := fun k hk => blockNe h.lists hbl h.ne.1 hk
  go_wp2_with ((at_builtin
                refine wpList_append_own1 (o := ⟨some 11, _, _, _, _, _⟩) (by rfl) (.tmp 8) (.tmp 10) 55 (by rfl) base 22 (.slice none 0 0) 24 Tryd.underlying55 listInfo rfl (by rfl) (h.lists.only ((Only.refl [] w).alloc _) (by simp)) 1 (by rfl) (by exact Rd.whole (Blk.new' _ _ _ rfl rfl) rfl) (by rfl) (by simp only [maxLen, List.length_map]; omega) (by simp only [List.length_map]; omega) (by simp; omega) ?_
                intro lv1 w1 ho1 hO1 hn1
                obtain ⟨A1, c1, rfl, _, _, _⟩ := ho1.form
                simp only [List.length_append, List.length_map, List.length_singleton] at ho1 hn1 hO1 ⊢
                have hb1 : Blk w1 g 57 [.slice Al L.length cl, .slice Aw L.length cw, .int .i64 held, .bool false] := (hbl.alloc _).only hO1 (by intro hx; exact hg1 g (by simpa using hx) rfl)
                have d0 : w1.cell? ⟨g, 0, none⟩ = some (.slice Al L.length cl) := hb1.cell 0
                have d1 : w1.frozen? ⟨g, 0, none⟩ = false := hb1.frozen 0
                replace hO1 := ((Only.refl (Value.slice Al L.length cl).ownBlock.toList w).alloc _).trans hO1))
  refine name_it (p := fun y => Code.wp _ _ _ _ y) ?_
  intro w2 H2
  have hb2 : Blk w2 g 57 [.slice A1 (L.length + 1) c1, .slice Aw L.length cw, .int .i64 held, .bool false] := by rw [H2.out]; exact hb1.set 0 _
  have hne1 : ∀ k, (Value.slice A1 (L.length + 1) c1).ownBlock = some k → k ≠ g := fun k hk => blockNe ho1 hb1 h.ne.1 hk
  replace ho1 : OwnS w2 base 22 (.slice A1 (L.length + 1) c1) (L.map Ent.v ++ [.slice A n c]) := by
    rw [H2.out]; exact ho1.only ((Only.refl [g] w1).setCell (.inl (by simp)) _) (by intro k hk; simpa using hne1 k hk)
  have hO2 : Only (g :: (Value.slice Al L.length cl).ownBlock.toList) w w2 := by
    rw [H2.out]; exact (hO1.mono (fun x hx => .inl (List.mem_cons_of_mem _ hx))).setCell (.inl (by simp)) _
  have hln : ∀ k, (Value.slice A1 (L.length + 1) c1).ownBlock = some k → (Value.slice Al L.length cl).ownBlock = some k ∨ w.heap.size ≤ k := by
    intro k hk; rcases hn1 with e | e
    · rw [e] at hk; exact .inl hk
    · rw [e] at hk; simp at hk; omega
  have hwas : OwnS w2 base 22 (.slice Aw L.length cw) ws := h.was.only hO2 (by
    intro k hk hkl; simp at hkl
    rcases hkl with rfl | hkl
    · exact blockNe h.was hbl h.ne.1 hk rfl
    · exact h.apart k hkl hk)
  have hv2 : w2.ownsRow base 5 1 (.slice A n c) n (bvs l) := own_only hv hO2 (by
    intro k hk hkl; simp at hkl
    rcases hkl with rfl | hkl
    · exact hfar _ hk h.ing
    · exact hfar _ hk (h.inl k hkl))
  have hlw1 : ∀ k, (Value.slice A1 (L.length + 1) c1).ownBlock = some k → (Value.slice Aw L.length cw).ownBlock ≠ some k := by
    intro k hk hkw
    rcases hln k hk with e | e
    · exact h.apart k e hkw
    · have := h.was.lt hkw; omega
  have hw1lt : ∀ k, (Value.slice A1 (L.length + 1) c1).ownBlock = some k → k < w2.heap.size := fun k hk => (ho1.lt hk).2
  have hwg : ∀ k, (Value.slice Aw L.length cw).ownBlock = some k → k ≠ g := fun k hk => blockNe hwas hb2 h.ne.1 hk
  have hrd2 : Rd w2 w2.heap.size 1 A n (bvs l) := Rd.of_own hv2
  have c1' : w2.cell? ⟨g, 1, none⟩ = some (.slice Aw L.length cw) := hb2.cell 1
  have hsz2 : w.heap.size ≤ w2.heap.size := hO2.size
  clear H2 hb1 hO1 hn1 c0
  go_cut [] (fun wx => ∃ bl' lv' wv' u, BookB wx base g bl' (L ++ [⟨.slice A n c, n, bvs l⟩]) lv' wv' held (ws ++ [u]) ∧ Only bl w wx ∧ ∀ x ∈ bl', x ∈ bl ∨ w.heap.size ≤ x)
  case first =>
    go_region_law (first
      | (refine step_append_row (v := .slice none 0 0) (by rfl) (.const (.slice none 0 0)) (.tmp 19) 22 (by rfl) base 5 (.int .u8 0) 1 1 Tryd.underlying22 byteInfo'' rfl (by omega) (n := 0) (xs := []) (by rfl) (by exact ⟨rfl, .inl ⟨rfl, rfl⟩⟩) c (by rfl) (by exact hrd2) (bvs_one _) (by simp only [maxLen]; omega) (by omega) (by first | exact Nat.le_trans hbase hsz2) ?_
         intro v3 w3 ho3 hO3 hn3
         replace hO3 : Only [] w2 w3 := by first | exact hO3 | exact hO3.ofDrew | exact hO3.ofDrew.ofDrew
         have hb3 : Blk w3 g 57 [.slice A1 (L.length + 1) c1, .slice Aw L.length cw, .int .i64 held, .bool false] := by exact hb2.only hO3 (by simp)
         have c3 : w3.cell? ⟨g, 1, none⟩ = some (.slice Aw L.length cw) := hb3.cell 1
         have c3' : ∀ o, (w3.alloc o).cell? ⟨g, 1, none⟩ = some (.slice Aw L.length cw) := fun o => (hb3.alloc o).cell 1
         obtain ⟨A3, cc3, rfl, hc3, hr3, _⟩ := own_slice ho3
         have hwas3 := hwas.only hO3 (by simp)
         clear hr3)
      | (refine step_append_own1 (v := .slice Aw L.length cw) (by rfl) (.tmp 18) (.tmp 21) 55 (by rfl) base 22 (.slice none 0 0) 24 Tryd.underlying55 listInfo rfl (by rfl)
           (by first | exact hwas3.only ((Only.refl [] w3).alloc _) (by simp) | exact hwas3.only ((Only.refl [] w3).alloc _).drew (by simp) | exact hwas3.only (((Only.refl [] w3).drew).alloc _) (by simp)) 1 (by rfl)
           (by first | exact Rd.whole (Blk.new' _ _ _ rfl rfl) rfl | exact (Rd.whole (Blk.new' _ _ _ rfl rfl) rfl).drew) (by rfl) (by rw [h.len]; simp only [maxLen]; omega) (by rw [h.len]; omega) (by have := hO3.size; simp; omega) ?_
         intro v4 w4 ho4 hO4 hn4
         replace hO4 : Only (Value.slice Aw L.length cw).ownBlock.toList w3 w4 := by first | exact ((Only.refl _ w3).alloc _).trans hO4 | exact (((Only.refl _ w3).alloc _).drew).trans hO4 | exact (((Only.refl _ w3).drew).alloc _).trans hO4
         have hb4 : Blk w4 g 57 [.slice A1 (L.length + 1) c1, .slice Aw L.length cw, .int .i64 held, .bool false] := by exact hb3.only hO4 (by intro hx; exact hwg g (by simpa using hx) rfl)
         have d4 : w4.cell? ⟨g, 1, none⟩ = some (.slice Aw L.length cw) := hb4.cell 1
         have d5 : w4.frozen? ⟨g, 1, none⟩ = false := hb4.frozen 1
         obtain ⟨A4, cc4, rfl, hc4, hr4, _⟩ := ho4.form
         simp only [List.length_append, h.len, List.length_singleton] at ho4 hn4 ⊢
         clear hr4))
    all_goals
      go_wp2
      go_meet
      case rel =>
        have hne4 : ∀ k, (Value.slice A4 (L.length + 1) cc4).ownBlock = some k → k ≠ g := fun k hk => blockNe ho4 hb4 h.ne.1 hk
        have hS := (Only.refl [g] w4).setCell (p := ⟨g, 1, none⟩) (.inl (by simp)) (.slice A4 (L.length + 1) cc4)
        have hwn : ∀ k, (Value.slice A4 (L.length + 1) cc4).ownBlock = some k → (Value.slice Aw L.length cw).ownBlock = some k ∨ w3.heap.size ≤ k := by
          intro k hk; rcases hn4 with e | e
          · rw [e] at hk; exact .inl hk
          · rw [e] at hk; simp at hk; omega
        have hs3 := hO3.size
        have hl3 : OwnS w3 base 22 (.slice A1 (L.length + 1) c1) (L.map Ent.v ++ [.slice A n c]) := ho1.only hO3 (by simp)
        have hu3 : ∀ k, (Value.slice A3 (0 + n) cc3).ownBlock = some k → w2.heap.size ≤ k := by
          intro k hk; rcases hn3 with e | e
          · rw [e] at hk; simp [Value.ownBlock] at hk
          · rw [e] at hk; simp at hk; omega
        have hall : Only (g :: ((Value.slice Al L.length cl).ownBlock.toList ++ (Value.slice Aw L.length cw).ownBlock.toList)) w (w4.setCell ⟨g, 1, none⟩ (.slice A4 (L.length + 1) cc4)) := by
          refine (((hO2.mono ?_).trans0 hO3).trans' hO4 ?_).trans' hS ?_
          · intro x hx; simp at hx ⊢; rcases hx with e | e <;> simp [e]
          · intro x hx; simp at hx ⊢; simp [hx]
          · intro x hx; simp at hx ⊢; simp [hx]
        obtain ⟨bl', hB, hbl'⟩ := h.push (u := .slice A3 (0 + n) cc3) (e := ⟨.slice A n c, n, bvs l⟩) (lv' := .slice A1 (L.length + 1) c1) (wv' := .slice A4 (L.length + 1) cc4) (held' := held) hall
          (by intro k hk; simp at hk; exact hk) (hb4.set 1 _)
          ((hl3.only hO4 (by intro k hk hkw; exact hlw1 k hk (by simpa using hkw))).only hS (by intro k hk; simpa using hne1 k hk))
          ((by simpa using ho4.only hS (by intro k hk; simpa using hne4 k hk)))
          (by
            have h0 : w4.ownsRow base 5 1 (.slice A3 (0 + n) cc3) (0 + n) ([] ++ bvs l) := own_only ho3 hO4 (by intro k hk hkw; have h1 := hu3 k hk; have h2 := hwas.lt (by simpa using hkw); omega)
            have h1 := own_only h0 hS (by
              intro k hk hkg; simp at hkg; subst hkg
              have h1 := hu3 k hk; have h2 := hb2.lt; omega)
            simpa using h1)
          (by intro k hk; have := hu3 k hk; omega) hln
          (by intro k hk; rcases hwn k hk with e | e
              · exact .inl e
              · exact .inr (by omega))
          (by intro k hk hkw; rcases hwn k hkw with e | e
              · exact hlw1 k hk e
              · have := hw1lt k hk; omega)
          hv hfar hd ⟨l, rfl, hn⟩
        exact ⟨bl', _, _, _, hB, hall.mono (by
          intro x hx; simp at hx
          rcases hx with rfl | e | e
          · exact .inl h.ing
          · exact .inl (h.inl x e)
          · exact .inl (h.inw x e)), hbl'⟩
  case rest =>
  obtain ⟨bl1, lv1, wv1, u1, hB1, hO1', hbl1⟩ := hcut
  clear hne1 ho1 hO2 hln hwas hv2 hlw1 hw1lt hwg hrd2 c1' hsz2 hb2 d0 d1 hg1 hbl hh0 w2
  obtain ⟨M0, hM0⟩ : ∃ M0, M0 = L ++ [(⟨.slice A n c, n, bvs l⟩ : Ent)] := ⟨_, rfl⟩
  rw [← hM0] at hB1
  have hM1 : M0.length = L.length + 1 := by rw [hM0]; simp
  have HM0 := Lib.hid hM0
  clear hM0
  have c2 : wc.cell? ⟨g, 2, none⟩ = some (.int .i64 held) := hB1.blk.cell 2
  have d2 : wc.frozen? ⟨g, 2, none⟩ = false := hB1.blk.frozen 2
  go_wp2_with (fail)
  have hS := (Only.refl [g] wc).setCell (p := ⟨g, 2, none⟩) (.inl (by simp))
  refine name_it (p := fun y => Code.wp _ _ _ _ y) ?_
  intro wd Hd
  obtain ⟨held1, hB2, hO2⟩ : ∃ held1, BookB wd base g bl1 M0 lv1 wv1 held1 (ws ++ [u1]) ∧ Only bl w wd := by
    rw [Hd.out]
    exact ⟨_, hB1.poke (hS _) (hB1.blk.set 2 _), hO1'.trans' (hS _) (by intro x hx; simp at hx; subst hx; exact .inl h.ing)⟩
  clear hS Hd c2 d2 hB1 hO1'
  go_loopw [] (fun wr => ∃ j bl' lv' wv' held' ws', BookB wr base g bl' (M0.drop j) lv' wv' held' ws' ∧ j ≤ L.length ∧ Only bl w wr ∧ ∀ x ∈ bl', x ∈ bl ∨ w.heap.size ≤ x) (fun wr => lenAt wr g)
  case atStart => exact ⟨0, _, _, _, _, _, hB2, by omega, hO2, hbl1⟩
  case round =>
    obtain ⟨j, bl2, lv2, wv2, held2, ws2, hB, hj, hO, hbl2⟩ := hrel
    clear hB2 hO2 hbl1
    obtain ⟨M, hM⟩ : ∃ M, M = M0.drop j := ⟨_, rfl⟩
    have hMl : M.length = L.length + 1 - j := by rw [hM, List.length_drop, hM1]
    rw [← hM] at hB
    have HM := Lib.hid hM
    clear hM
    obtain ⟨A2, c2, hlv2, hc2, hr2, _⟩ := hB.lists.form
    obtain ⟨A3, c3, hwv2, hc3, hr3, _⟩ := hB.was.form
    rw [List.length_map] at hlv2 hc2 hr2
    rw [hB.len] at hwv2 hc3 hr3
    subst hlv2 hwv2
    have k0 : wr.cell? ⟨g, 0, none⟩ = some (.slice A2 M.length c2) := hB.blk.cell 0
    have k1 : wr.cell? ⟨g, 1, none⟩ = some (.slice A3 M.length c3) := hB.blk.cell 1
    have k2 : wr.cell? ⟨g, 2, none⟩ = some (.int .i64 held2) := hB.blk.cell 2
    have k3 : wr.cell? ⟨g, 3, none⟩ = some (.bool false) := hB.blk.cell 3
    have HMl := Lib.hid hMl
    have hm1 : 0 < M.length := by omega
    clear hMl
    go_upto_region 3 with (fail)
    go_cut [56] (fun s wx => wr = wx ∧ s = .bool (decide (1 < M.length ∧ (1000000 < held2 ∨ 4000 < M.length))))
    case first =>
      by_cases h1 : 1 < M.length
      case' pos => by_cases h2 : 1000000 < held2
      case' neg => by_cases h3 : 4000 < M.length
      all_goals
        go_wp2
        go_meet
        case rel => exact ⟨rfl, by congr 1; rw [Bool.eq_iff_iff]; first | (simp; done) | (simp; omega)⟩
    case rest =>
    obtain ⟨rfl, hs56⟩ := hcut
    by_cases hgo : 1 < M.length ∧ (1000000 < held2 ∨ 4000 < M.length)
    · rw [decide_eq_true hgo] at hs56
      subst hs56
      obtain ⟨h1, _⟩ := hgo
      obtain ⟨e0, M', rfl⟩ : ∃ e0 M', M = e0 :: M' := by
        cases M with
        | nil => simp at h1
        | cons a b => exact ⟨a, b, rfl⟩
      obtain ⟨u0, ws', rfl⟩ : ∃ u0 ws', ws2 = u0 :: ws' := by
        cases ws2 with
        | nil => have := hB.len; simp at this
        | cons a b => exact ⟨a, b, rfl⟩
      obtain ⟨g4, o4, hg4, hix4, hcell4⟩ := hB.lists.index (P := Tryd.prog) (t := 55) Tryd.underlying55 (by kernel_rfl) (i := 0) (by simp)
      obtain ⟨g5, o5, hg5, hix5, hcell5⟩ := hB.was.index (P := Tryd.prog) (t := 55) Tryd.underlying55 (by kernel_rfl) (i := 0) (by simp)
      have hn4 : g4 ≠ g := blockNe hB.lists hB.blk hB.ne.1 hg4
      have hn5 : g5 ≠ g := blockNe hB.was hB.blk hB.ne.1 hg5
      replace hcell4 : wr.cell? ⟨g4, o4, none⟩ = some e0.v := hcell4
      replace hcell5 : wr.cell? ⟨g5, o5, none⟩ = some u0 := hcell5
      obtain ⟨A6, c6, hv6, hc6, hr6, _⟩ := own_slice (hB.ents e0 (by simp)).1
      obtain ⟨A7, c7, hv7, hc7, hr7, _⟩ := own_slice (hB.data 0 e0 u0 rfl rfl).1
      rw [hv6] at hcell4
      rw [hv7] at hcell5
      obtain ⟨l0, hl0, hl0n⟩ := hB.good e0 (by simp)
      rw [hl0] at hr6 hr7
      clear hl0
      generalize hml : (e0 :: M').length = m at *
      replace hix4 : ∀ (q : IntKind) (W : World), (Instr.indexAt 55 (.slice A2 m c2) (.int q 0)).run Tryd.prog W = .ok (.pointer (some ⟨g4, o4, none⟩)) W := hix4
      replace hix5 : ∀ (q : IntKind) (W : World), (Instr.indexAt 55 (.slice A3 m c3) (.int q 0)).run Tryd.prog W = .ok (.pointer (some ⟨g5, o5, none⟩)) W := hix5
      go_upto_region 4 with (fail)
      go_cut [] (fun wx => ∃ k, wx = (wr.drewN k).setCell ⟨g, 3, none⟩ (.bool false))
      case first =>
        have k3f : ∀ k, (wr.drewN k).frozen? ⟨g, 3, none⟩ = false := fun k => hB.blk.frozen 3
        have hs6 : w.heap.size ≤ wr.heap.size := hO.size
        have kS : ∀ k, ((wr.drewN k).setCell ⟨g, 3, none⟩ (.bool false)).cell? ⟨g, 3, none⟩ = some (.bool false) ∧ ((wr.drewN k).setCell ⟨g, 3, none⟩ (.bool false)).cell? ⟨g, 0, none⟩ = some (.slice A2 m c2) ∧ ((wr.drewN k).setCell ⟨g, 3, none⟩ (.bool false)).cell? ⟨g, 1, none⟩ = some (.slice A3 m c3) ∧ ((wr.drewN k).setCell ⟨g, 3, none⟩ (.bool false)).cell? ⟨g4, o4, none⟩ = some (.slice A6 e0.n c6) ∧ ((wr.drewN k).setCell ⟨g, 3, none⟩ (.bool false)).cell? ⟨g5, o5, none⟩ = some (.slice A7 e0.n c7) := by
          intro k
          have hb := (hB.blk.drewN k).set 3 (.bool false)
          have hO : Only [g] (wr.drewN k) ((wr.drewN k).setCell ⟨g, 3, none⟩ (.bool false)) := (Only.refl _ _).setCell (.inl (by simp)) _
          exact ⟨hb.cell 3, hb.cell 0, hb.cell 1, hO.cellv (p := ⟨g4, o4, none⟩) hcell4 (by simpa using hn4), hO.cellv (p := ⟨g5, o5, none⟩) hcell5 (by simpa using hn5)⟩
        go_region_held3 (fun w' => w'.cell? ⟨g, 3, none⟩ = some (.bool false) ∧ w'.cell? ⟨g, 0, none⟩ = some (.slice A2 m c2) ∧ w'.cell? ⟨g, 1, none⟩ = some (.slice A3 m c3) ∧ w'.cell? ⟨g4, o4, none⟩ = some (.slice A6 e0.n c6) ∧ w'.cell? ⟨g5, o5, none⟩ = some (.slice A7 e0.n c7)) (first | exact kS _ | go_keep)
          ((go_at_call 15
            refine (same_any A6 A7 e0.n c6 e0.n c7 _ _ l0 l0 _ (by exact hr6) (by exact hr7) (by omega)).mono ?_
            rintro e w5 ⟨rfl, k5, rfl⟩))
        all_goals
          go_wp2
          go_meet
          case rel => exact ⟨_, rfl⟩
      case rest =>
      obtain ⟨k4, hcut⟩ := hcut
      have hS := (Only.refl [g] wr).drewN k4 |>.setCell (p := ⟨g, 3, none⟩) (.inl (by simp)) (.bool false)
      rw [← hcut] at hS
      have hB5 : BookB wc base g bl2 (e0 :: M') (.slice A2 m c2) (.slice A3 m c3) held2 (u0 :: ws') := hB.poke hS (by rw [hcut]; exact (hB.blk.drewN k4).set 3 _)
      have hO5 : Only bl w wc := hO.trans' hS (by intro x hx; simp at hx; subst hx; exact .inl h.ing)
      obtain ⟨lv6, hs6, ho6, he6⟩ := hB5.lists.tail (P := Tryd.prog) (t := 55) Tryd.underlying55 (by kernel_rfl)
      obtain ⟨wv6, hs7, ho7, he7⟩ := hB5.was.tail (P := Tryd.prog) (t := 55) Tryd.underlying55 (by kernel_rfl)
      obtain ⟨A8, c8, hv8, _⟩ := ho6.form
      obtain ⟨A9, c9, hv9, _⟩ := ho7.form
      rw [List.length_map] at hv8
      have hwl : ws'.length = M'.length := by have := hB5.len; simpa using this
      rw [hwl] at hv9
      subst hv8 hv9
      have q0 : wc.cell? ⟨g, 0, none⟩ = some (.slice A2 m c2) := hB5.blk.cell 0
      have q1 : wc.cell? ⟨g, 1, none⟩ = some (.slice A3 m c3) := hB5.blk.cell 1
      have q2 : wc.cell? ⟨g, 2, none⟩ = some (.int .i64 held2) := hB5.blk.cell 2
      have f0 : wc.frozen? ⟨g, 0, none⟩ = false := hB5.blk.frozen 0
      have f1 : wc.frozen? ⟨g, 1, none⟩ = false := hB5.blk.frozen 1
      have f2 : wc.frozen? ⟨g, 2, none⟩ = false := hB5.blk.frozen 2
      have q4 : wc.cell? ⟨g4, o4, none⟩ = some (.slice A6 e0.n c6) := hS.cellv hcell4 (by simpa using hn4)
      have hl0 : lenAt wr g = m := by unfold lenAt; rw [k0]
      have Hl0 := Lib.hid hl0
      have Hml := Lib.hid hml
      clear hcut hS hB hO k0 k1 k2 k3 hcell4 hcell5 hix5 hr6 hr7 hwl hl0 hml
      go_upto_region 5 with (fail)
      go_still_tail 16, (by kernel_rfl)
      refine name_it (p := fun y => wpList _ _ _ _ _ y) ?_
      intro w6 H6
      have hw6 : w6 = wc.drew ∨ w6 = wc.drew := .inl H6.out
      have hB6 : BookB w6 base g bl2 (e0 :: M') (.slice A2 m c2) (.slice A3 m c3) held2 (u0 :: ws') := by rw [H6.out]; exact hB5.only0 (Only.refl _ _).drew
      have hO6 : Only bl w w6 := by rw [H6.out]; exact hO5.drew
      replace ho6 : OwnS w6 base 22 (.slice A8 M'.length c8) (M'.map Ent.v) := by rw [H6.out]; exact ho6.only (Only.refl [] _).drew (by simp)
      replace ho7 : OwnS w6 base 22 (.slice A9 M'.length c9) ws' := by rw [H6.out]; exact ho7.only (Only.refl [] _).drew (by simp)
      have q0 : w6.cell? ⟨g, 0, none⟩ = some (.slice A2 m c2) := hB6.blk.cell 0
      have q1 : w6.cell? ⟨g, 1, none⟩ = some (.slice A3 m c3) := hB6.blk.cell 1
      have q2 : w6.cell? ⟨g, 2, none⟩ = some (.int .i64 held2) := hB6.blk.cell 2
      have f0 : w6.frozen? ⟨g, 0, none⟩ = false := hB6.blk.frozen 0
      have f1 : w6.frozen? ⟨g, 1, none⟩ = false := hB6.blk.frozen 1
      have f2 : w6.frozen? ⟨g, 2, none⟩ = false := hB6.blk.frozen 2
      have hpop := fun x : Int => hB6.pop (w' := ((w6.setCell ⟨g, 2, none⟩ (.int .i64 x)).setCell ⟨g, 0, none⟩ (.slice A8 M'.length c8)).setCell ⟨g, 1, none⟩ (.slice A9 M'.length c9))
        ((((Only.refl [g] w6).setCell (.inl (by simp)) _).setCell (.inl (by simp)) _).setCell (.inl (by simp)) _) (((hB6.blk.set 2 _).set 0 _).set 1 _) ho6 ho7 he6 he7
      clear hB5 hO5 hw6 H6
      go_wp2
      go_roundw
      case rel =>
        have hMd : M0.drop (j + 1) = M' := by
          have := congrArg (List.drop 1) HM.out; rw [List.drop_drop] at this; simpa using this.symm
        have hml := Hml.out
        have hMl := HMl.out
        simp only [List.length_cons] at hml hMl
        exact ⟨j + 1, bl2, _, _, _, ws', by rw [hMd]; exact hpop _, by omega, hO6.trans' ((((Only.refl [g] w6).setCell (.inl (by simp)) _).setCell (.inl (by simp)) _).setCell (.inl (by simp)) _) (by intro x hx; simp at hx; subst hx; exact .inl h.ing), hbl2⟩
      case measure =>
        rw [Hl0.out]
        have hml := Hml.out
        simp only [List.length_cons] at hml
        have hlen : ∀ W : World, W.cell? ⟨g, 0, none⟩ = some (.slice A8 M'.length c8) → lenAt W g = M'.length := fun W h => by unfold lenAt; rw [h]
        rw [hlen _ ((hpop _).blk.cell 0)]
        omega
    · rw [decide_eq_false hgo] at hs56
      subst hs56
      go_wp2
      go_end0
      have hMl := HMl.out
      exact ⟨rfl, j, bl2, _, _, held2, ws2, by rw [← HM0.out, ← HM.out]; exact hB, by rw [← HM0.out, ← HM.out]; omega, by rw [← HM0.out, hM1]; omega, hO, hbl2⟩
end Go.Proofs.YtgohinklnglgeaaDoor

set_option linter.unusedVariables false
set_option linter.unusedSimpArgs false
namespace Go.Proofs.YtgohinklnglgeaaDoor
open Go.RowKit

set_option maxRecDepth 100000 in
set_option maxHeartbeats 2000000 in
theorem stays_any (w : World) (base g : Nat) (bl : List Nat) (L : List Ent) (lv wv : Value) (held : Int) (ws : List Value) (h : BookB w base g bl L lv wv held ws) (hL : L.length ≤ 4001) :
    Calls Tryd.prog 55 #[.pointer (some ⟨g, 0, none⟩)] w fun e w' => e = .returned (.bool true) ∧ BookB w' base g bl L lv wv held ws ∧ Only [g] w w' := by
  obtain ⟨Al, cl, hlv, _, _, _⟩ := h.lists.form
  obtain ⟨Aw, cw, hwv, _, _, _⟩ := h.was.form
  rw [List.length_map] at hlv
  rw [h.len] at hwv
  subst hlv hwv
  obtain ⟨m, hm⟩ : ∃ m, m = L.length := ⟨_, rfl⟩
  have Hm := Lib.hid hm
  rw [← hm] at h hL ⊢
  clear hm
  go_enter Tryd.func55, Tryd.ntmps55
  go_wp2_with (fail)
  go_loopw [3] (fun i wr => ∃ k : Nat, i = .int .i64 (k : Int) ∧ k ≤ m ∧ BookB wr base g bl L (.slice Al m cl) (.slice Aw m cw) held ws ∧ Only [g] w wr) (fun i _ => m - (intOf i).toNat)
  case atStart => exact ⟨0, rfl, by omega, h, Only.refl _ _⟩
  case round =>
    obtain ⟨k, rfl, hk, hB, hO⟩ := hrel
    have k0 : wr.cell? ⟨g, 0, none⟩ = some (.slice Al m cl) := hB.blk.cell 0
    have k1 : wr.cell? ⟨g, 1, none⟩ = some (.slice Aw m cw) := hB.blk.cell 1
    have k3 : wr.cell? ⟨g, 3, none⟩ = some (.bool false) := hB.blk.cell 3
    by_cases hlt : k < m
    · obtain ⟨e0, he0⟩ : ∃ e0, L[k]? = some e0 := ⟨_, List.getElem?_eq_getElem (by rw [← Hm.out]; exact hlt)⟩
      obtain ⟨u0, hu0⟩ : ∃ u0, ws[k]? = some u0 := ⟨_, List.getElem?_eq_getElem (by rw [hB.len, ← Hm.out]; exact hlt)⟩
      obtain ⟨g4, o4, hg4, hix4, hcell4⟩ := hB.lists.index (P := Tryd.prog) (t := 55) Tryd.underlying55 (by kernel_rfl) (i := k) (by rw [List.length_map, ← Hm.out]; exact hlt)
      obtain ⟨g5, o5, hg5, hix5, hcell5⟩ := hB.was.index (P := Tryd.prog) (t := 55) Tryd.underlying55 (by kernel_rfl) (i := k) (by rw [hB.len, ← Hm.out]; exact hlt)
      have hn4 : g4 ≠ g := blockNe hB.lists hB.blk hB.ne.1 hg4
      have hn5 : g5 ≠ g := blockNe hB.was hB.blk hB.ne.1 hg5
      rw [List.getElem?_map, he0, Option.map_some] at hcell4
      rw [hu0] at hcell5
      have hmem := List.mem_of_getElem? he0
      obtain ⟨A6, c6, hv6, hc6, hr6, _⟩ := own_slice (hB.ents e0 hmem).1
      obtain ⟨A7, c7, hv7, hc7, hr7, _⟩ := own_slice (hB.data k e0 u0 he0 hu0).1
      rw [hv6] at hcell4
      rw [hv7] at hcell5
      obtain ⟨l0, hl0, hl0n⟩ := hB.good e0 hmem
      rw [hl0] at hr6 hr7
      clear hl0 he0 hu0 hv6 hv7 hmem
      go_upto_region 4 with (fail)
      have k3f : ∀ k, (wr.drewN k).frozen? ⟨g, 3, none⟩ = false := fun k => hB.blk.frozen 3
      have kS : ∀ k, ((wr.drewN k).setCell ⟨g, 3, none⟩ (.bool false)).cell? ⟨g, 3, none⟩ = some (.bool false) ∧ ((wr.drewN k).setCell ⟨g, 3, none⟩ (.bool false)).cell? ⟨g, 0, none⟩ = some (.slice Al m cl) ∧ ((wr.drewN k).setCell ⟨g, 3, none⟩ (.bool false)).cell? ⟨g, 1, none⟩ = some (.slice Aw m cw) ∧ ((wr.drewN k).setCell ⟨g, 3, none⟩ (.bool false)).cell? ⟨g4, o4, none⟩ = some (.slice A6 e0.n c6) ∧ ((wr.drewN k).setCell ⟨g, 3, none⟩ (.bool false)).cell? ⟨g5, o5, none⟩ = some (.slice A7 e0.n c7) := by
        intro k
        have hb := (hB.blk.drewN k).set 3 (.bool false)
        have hO : Only [g] (wr.drewN k) ((wr.drewN k).setCell ⟨g, 3, none⟩ (.bool false)) := (Only.refl _ _).setCell (.inl (by simp)) _
        exact ⟨hb.cell 3, hb.cell 0, hb.cell 1, hO.cellv (p := ⟨g4, o4, none⟩) hcell4 (by simpa using hn4), hO.cellv (p := ⟨g5, o5, none⟩) hcell5 (by simpa using hn5)⟩
      go_region_held3 (fun w' => w'.cell? ⟨g, 3, none⟩ = some (.bool false) ∧ w'.cell? ⟨g, 0, none⟩ = some (.slice Al m cl) ∧ w'.cell? ⟨g, 1, none⟩ = some (.slice Aw m cw) ∧ w'.cell? ⟨g4, o4, none⟩ = some (.slice A6 e0.n c6) ∧ w'.cell? ⟨g5, o5, none⟩ = some (.slice A7 e0.n c7)) (first | exact kS _ | go_keep)
        ((go_at_call 15
          refine (same_any A6 A7 e0.n c6 e0.n c7 _ _ l0 l0 _ (by exact hr6) (by exact hr7) (by omega)).mono ?_
          rintro e w5 ⟨rfl, k5, rfl⟩))
      all_goals
        have hS := (Only.refl [g] wr).drewN (1 + k5) |>.setCell (p := ⟨g, 3, none⟩) (.inl (by simp)) (.bool false)
        have hB5 : BookB ((wr.drewN (1 + k5)).setCell ⟨g, 3, none⟩ (.bool false)) base g bl L (.slice Al m cl) (.slice Aw m cw) held ws := hB.poke hS ((hB.blk.drewN (1 + k5)).set 3 _)
        clear k0 k1 k3 hix4 hix5 hcell4 hcell5 hr6 hr7 kS k3f
        go_wp2
        go_roundw
        case rel => exact ⟨k + 1, by go_num, by omega, hB5, hO.trans hS⟩
        case measure => simp [intOf]; omega
    · go_wp2
      go_ret
      exact ⟨rfl, hB, hO⟩
end Go.Proofs.YtgohinklnglgeaaDoor

set_option linter.unusedVariables false
set_option linter.unusedSimpArgs false
namespace Go.Proofs.YtgohinklnglgeaaDoor
open Go.RowKit

def mk (i j : Nat) : UInt8 := UInt8.ofNat ((i + 1) / 2 ^ (8 * (j % 3)))
set_option maxRecDepth 100000 in
set_option maxHeartbeats 1000000 in
theorem bytes_any (i j : Nat) (w : World) (hi : i ≤ 5000) (hj : j ≤ 9223372036854775807) : Calls Tryd.prog 26 #[.int .i64 (i : Int), .int .i64 (j : Int)] w fun e w' => e = .returned (.int .u8 ((mk i j).toNat : Int)) ∧ w = w' := by
  have hr : ∀ W, (Op.intDiv .rem .i64 (j : Int) 3).run Tryd.prog W = .ok (.int .i64 ((j % 3 : Nat) : Int)) W := fun W => run_rem_nat (P := Tryd.prog) (j : Int) 3 (j % 3) (by omega) (by omega) (by omega) W
  obtain ⟨d, hd⟩ : ∃ d, d = j % 3 := ⟨_, rfl⟩
  have hd3 : d < 3 := by omega
  rw [← hd] at hr
  have Hd := Lib.hid hd
  clear hd
  go_enter Tryd.func26, Tryd.ntmps26
  go_wp2
  go_ret
  refine ⟨?_, rfl⟩
  refine ret_int ?_
  simp [mk]

def marks (i c : Nat) : List UInt8 := (List.range c).map (mk i)
/-- a list's whole room, its cells -/
def Whole (w : World) (te : Nat) (v : Value) (n : Nat) (cs : List Value) : Prop := (v = .slice none 0 0 ∧ n = 0 ∧ cs = []) ∨ ∃ ge cap, v = .slice (some ⟨ge, 0, none⟩) n cap ∧ n ≤ cap ∧ cap ≤ maxLen ∧ Blk w ge te cs ∧ cs.length = cap
theorem Whole.of_own {w : World} {base e n : Nat} {v : Value} {xs : List Value} (h : w.ownsRow base e 1 v n xs) : ∃ cs, Whole w e v n cs := by
  rcases h.2 with ⟨hv, h0⟩ | ⟨g, cap, cur, hv, hb, hg, hnc, hcm, hcs, htake⟩
  · exact ⟨[], .inl ⟨hv, h0, rfl⟩⟩
  · exact ⟨cur.toList, .inr ⟨g, cap, hv, hnc, hcm, Blk.mk' hg rfl, by rw [Array.length_toList, hcs, Nat.mul_one]⟩⟩
theorem Whole.only {w w' : World} {e n : Nat} {v : Value} {cs : List Value} (h : Whole w e v n cs) {l : List Nat} (ho : Only l w w') (hl : ∀ k, v.ownBlock = some k → k ∉ l) : Whole w' e v n cs := by
  rcases h with h | ⟨ge, cap, rfl, h1, h2, h3, h4⟩
  · exact .inl h
  · exact .inr ⟨ge, cap, rfl, h1, h2, h3.only ho (hl ge rfl), h4⟩

/-- the book while its lists are written over: k of them bear their marks -/
structure Marked (w w' : World) (base g m : Nat) (Z : List Nat) (L : List Ent) (Al Aw : Option Addr) (cl cw : Nat) (held : Int) (k : Nat) (C : Nat → List Value) : Prop where
  blk : Blk w' g 57 [.slice Al m cl, .slice Aw m cw, .int .i64 held, .bool false]
  lists : OwnS w' base 22 (.slice Al m cl) (L.map Ent.v)
  whole : ∀ (t : Nat) e, L[t]? = some e → Whole w' 5 e.v e.n (C t)
  done : ∀ t, t < k → C t = bvs (marks t (C t).length)
  dist : ∀ (s t : Nat) e f, L[s]? = some e → L[t]? = some f → s ≠ t → ∀ k, e.v.ownBlock = some k → f.v.ownBlock ≠ some k
  only : Only Z w w'
  inz : ∀ (t : Nat) e, L[t]? = some e → ∀ k, e.v.ownBlock = some k → k ∈ Z
theorem Marked.go {w w' w2 : World} {base g m : Nat} {Z : List Nat} {L : List Ent} {Al Aw : Option Addr} {cl cw : Nat} {held : Int} {k : Nat} {C : Nat → List Value} (h : Marked w w' base g m Z L Al Aw cl cw held k C) (hO : Only [] w' w2) : Marked w w2 base g m Z L Al Aw cl cw held k C where
  blk := h.blk.only hO (by simp)
  lists := h.lists.only hO (by simp)
  whole t e he := (h.whole t e he).only hO (by simp)
  done := h.done
  dist := h.dist
  only := h.only.trans0 hO
  inz := h.inz

/-- one place of list k written -/
theorem Marked.put {w w' : World} {base g m : Nat} {Z : List Nat} {L : List Ent} {Al Aw : Option Addr} {cl cw : Nat} {held : Int} {k : Nat} {C : Nat → List Value} (h : Marked w w' base g m Z L Al Aw cl cw held k C) {e : Ent} (he : L[k]? = some e) {ge cap j : Nat}
    (hv : e.v = .slice (some ⟨ge, 0, none⟩) e.n cap) (u : Value) : Marked w (w'.setCell ⟨ge, j, none⟩ u) base g m Z L Al Aw cl cw held k (fun t => if t = k then (C k).set j u else C t) := by
  have hw := h.whole k e he
  have hown : e.v.ownBlock = some ge := by rw [hv]; rfl
  have hblk : Blk w' ge 5 (C k) := by
    rcases hw with ⟨e1, _⟩ | ⟨ge', cap', e1, _, _, hb, _⟩
    · rw [hv] at e1; cases e1
    · rw [hv] at e1; cases e1; exact hb
  have hS : Only [ge] w' (w'.setCell ⟨ge, j, none⟩ u) := (Only.refl _ _).setCell (.inl (by simp)) u
  refine ⟨h.blk.only hS (by simp; exact fun hg => h.blk.ne hblk (by decide) hg), h.lists.only hS ?_, ?_, ?_, h.dist, h.only.trans' hS ?_, h.inz⟩
  · intro k hk; simp; exact blockNe h.lists hblk (by decide) hk
  · intro t f hf
    by_cases ht : t = k
    · subst ht
      rw [he] at hf; cases hf
      rw [if_pos rfl]
      rcases hw with ⟨e1, _⟩ | ⟨ge', cap', e1, h1, h2, hb, h4⟩
      · rw [hv] at e1; cases e1
      · rw [hv] at e1; cases e1
        exact .inr ⟨ge, cap, hv, h1, h2, hb.set j u, by simpa using h4⟩
    · rw [if_neg ht]
      exact (h.whole t f hf).only hS (by intro x hx; simp; intro hxg; subst hxg; exact h.dist t k f e hf he ht x hx hown)
  · intro t ht
    have : ¬ t = k := by omega
    simp only [this, if_false]
    exact h.done t ht
  · intro x hx; simp at hx; subst hx; exact .inl (h.inz k e he _ hown)
theorem marks_set (i c j : Nat) (cs : List Value) (hc : cs.length = c) (hj : j < c) (h : ∀ t, t < j → cs[t]? = some (bv (mk i t))) : ∀ t, t < j + 1 → (cs.set j (bv (mk i j)))[t]? = some (bv (mk i t)) := by
  intro t ht
  by_cases e : t = j
  · subst e; rw [List.getElem?_set_self (by omega)]
  · rw [List.getElem?_set_ne (by omega)]; exact h t (by omega)
theorem marks_all (i c : Nat) (cs : List Value) (hc : cs.length = c) (h : ∀ t, t < c → cs[t]? = some (bv (mk i t))) : cs = bvs (marks i c) := by
  apply List.ext_getElem?
  intro t
  by_cases ht : t < c
  · rw [h t ht]; simp [bvs, marks, ht]
  · rw [List.getElem?_eq_none (by omega), List.getElem?_eq_none (by simp [bvs, marks]; omega)]

set_option maxRecDepth 100000 in
set_option maxHeartbeats 2000000 in
theorem apart_any (w : World) (base g : Nat) (bl : List Nat) (L : List Ent) (lv wv : Value) (held : Int) (ws : List Value) (h : BookB w base g bl L lv wv held ws) (hL : L.length ≤ 4001) :
    Calls Tryd.prog 25 #[.pointer (some ⟨g, 0, none⟩), .func (.func 26) #[] #[]] w fun e w' => e = .returned (.bool true) ∧ Only (bl ++ L.flatMap fun e => e.v.ownBlock.toList) w w' := by
  obtain ⟨Al, cl, hlv, _, _, _⟩ := h.lists.form
  obtain ⟨Aw, cw, hwv, _, _, _⟩ := h.was.form
  rw [List.length_map] at hlv
  rw [h.len] at hwv
  subst hlv hwv
  obtain ⟨m, hm⟩ : ∃ m, m = L.length := ⟨_, rfl⟩
  have Hm := Lib.hid hm
  rw [← hm] at h hL
  clear hm
  go_enter Tryd.func25, Tryd.ntmps25
  go_wp2_with (fail)
  refine (stays_any w base g bl L _ _ held ws h (by rw [← Hm.out]; exact hL)).mono ?_
  rintro e w1 ⟨rfl, hB1, hO1⟩
  obtain ⟨Z, hZ⟩ : ∃ Z, Z = bl ++ L.flatMap fun e => e.v.ownBlock.toList := ⟨_, rfl⟩
  obtain ⟨C0, hM0⟩ : ∃ C, Marked w w1 base g m Z L Al Aw cl cw held 0 C := by
    have hch : ∀ t : Nat, ∃ cs, ∀ e : Ent, L[t]? = some e → Whole w1 5 e.v e.n cs := by
      intro t
      cases ht : L[t]? with
      | none => exact ⟨[], by simp⟩
      | some e =>
        obtain ⟨cs, hc⟩ := Whole.of_own (hB1.ents e (List.mem_of_getElem? ht)).1
        exact ⟨cs, by intro f hf; cases hf; exact hc⟩
    refine ⟨fun t => (hch t).choose, hB1.blk, hB1.lists, fun t e he => (hch t).choose_spec e he, by omega, ?_, hO1.mono ?_, ?_⟩
    · intro s t e f hs ht hne k hk
      have hp := List.pairwise_iff_getElem.1 hB1.dist
      obtain ⟨is, es⟩ := List.getElem?_eq_some_iff.1 hs
      obtain ⟨it, et⟩ := List.getElem?_eq_some_iff.1 ht
      rcases Nat.lt_or_gt_of_ne hne with hlt | hlt
      · have := hp s t is it hlt k (by rw [es]; exact hk); rwa [et] at this
      · intro hk2
        have := hp t s it is hlt k (by rw [et]; exact hk2)
        rw [es] at this
        exact this hk
    · intro x hx; simp at hx; subst hx; exact .inl (by rw [hZ]; simp [hB1.ing])
    · intro t e he k hk
      rw [hZ]
      simp only [List.mem_append, List.mem_flatMap, Option.mem_toList]
      exact .inr ⟨e, List.mem_of_getElem? he, hk⟩
  have HZ := Lib.hid hZ
  have hgZ : g ∈ Z := by rw [hZ]; simp [hB1.ing]
  clear hB1 hO1 hZ h
  go_wp2_with (fail)
  go_loopw [5] (fun i wr => ∃ (k : Nat) (C : Nat → List Value), i = .int .i64 (k : Int) ∧ k ≤ m ∧ Marked w wr base g m Z L Al Aw cl cw held k C) (fun i _ => m - (intOf i).toNat)
  case atStart => exact ⟨0, C0, rfl, by omega, hM0⟩
  case round =>
    obtain ⟨k, C, rfl, hk, hM⟩ := hrel
    have k0 : wr.cell? ⟨g, 0, none⟩ = some (.slice Al m cl) := hM.blk.cell 0
    by_cases hlt : k < m
    · obtain ⟨e0, he0⟩ : ∃ e0, L[k]? = some e0 := ⟨_, List.getElem?_eq_getElem (by rw [← Hm.out]; exact hlt)⟩
      obtain ⟨g4, o4, hg4, hix4, hcell4⟩ := hM.lists.index (P := Tryd.prog) (t := 55) Tryd.underlying55 (by kernel_rfl) (i := k) (by rw [List.length_map, ← Hm.out]; exact hlt)
      rw [List.getElem?_map, he0, Option.map_some] at hcell4
      obtain ⟨A6, c6, hv6, hCk, hn6, ho6⟩ : ∃ A6 c6, e0.v = .slice A6 e0.n c6 ∧ (C k).length = c6 ∧ c6 ≤ maxLen ∧ (0 < c6 → ∃ ge, A6 = some ⟨ge, 0, none⟩) := by
        rcases hM.whole k e0 he0 with ⟨e1, e2, e3⟩ | ⟨ge, cap, e1, h1, h2, h3, h4⟩
        · exact ⟨none, 0, by rw [e1, e2], by rw [e3]; rfl, by simp [maxLen], by omega⟩
        · exact ⟨_, cap, e1, h4, h2, fun _ => ⟨ge, rfl⟩⟩
      rw [hv6] at hcell4
      have hsh := run_slice_h (P := Tryd.prog) (A := A6) (n := e0.n) (c := c6) (m := c6) (hi := (c6 : Int)) Tryd.underlying22 (size := 1) (by kernel_rfl) rfl (Nat.le_refl _)
      replace hn6 : c6 ≤ 9223372036854775807 := by simpa [maxLen] using hn6
      have hc0 : (0 : Int) ≤ (c6 : Int) := by omega
      have Hv6 := Lib.hid hv6
      have He0 := Lib.hid he0
      have HCk := Lib.hid hCk
      clear hv6 he0 hCk
      go_upto_region 6 with (fail)
      go_quiet (fail)
      have hM5 := hM.go ((Only.refl [] wr).drewN nq)
      clear k0 hix4 hcell4 hsh
      go_wp2_with (fail)
      go_loopw [7] (fun i wx => ∃ (j : Nat) (C' : Nat → List Value), i = .int .i64 (j : Int) ∧ j ≤ c6 ∧ Marked w wx base g m Z L Al Aw cl cw held k C' ∧ (C' k).length = c6 ∧ ∀ t, t < j → (C' k)[t]? = some (bv (mk k t))) (fun i _ => c6 - (intOf i).toNat)
      case atStart => exact ⟨0, C, rfl, by omega, hM5, HCk.out, by omega⟩
      case round =>
        obtain ⟨j, C', rfl, hj, hM6, hCk', hmk⟩ := hrel
        have HCk' := Lib.hid hCk'
        have Hmk := Lib.hid hmk
        clear hCk' hmk
        by_cases hlt6 : j < c6
        · obtain ⟨ge, rfl⟩ := ho6 (by omega)
          have hb6 : Blk wr ge 5 (C' k) := by
            rcases hM6.whole k e0 He0.out with ⟨e1, _⟩ | ⟨ge', cap', e1, _, _, hb, _⟩
            · rw [Hv6.out] at e1; cases e1
            · rw [Hv6.out] at e1; cases e1; exact hb
          go_wp2_with (fail)
          refine (bytes_any k j _ (by omega) (by omega)).mono ?_
          rintro e w7 ⟨rfl, rfl⟩
          have h6 : wr.cell? ⟨ge, j, none⟩ = some ((C' k)[j]'(by rw [HCk'.out]; exact hlt6)) := by rw [hb6.cell, List.getElem?_eq_getElem]
          have f6 : wr.frozen? ⟨ge, j, none⟩ = false := hb6.frozen j
          have hput := hM6.put He0.out Hv6.out (j := j) (bv (mk k j))
          generalize (C' k)[j]'(by rw [HCk'.out]; exact hlt6) = z6 at h6
          go_wp2_with (fail)
          go_roundw
          case rel => exact ⟨j + 1, _, by go_num, by omega, hput, by simp [HCk'.out], by simp only [if_true]; exact marks_set k c6 j _ HCk'.out hlt6 Hmk.out⟩
          case measure => simp [intOf]; omega
        · obtain rfl : j = c6 := by omega
          have hall := marks_all k j _ HCk'.out Hmk.out
          go_wp2_with (fail)
          go_roundw
          case rel =>
            refine ⟨k + 1, C', by go_num, by omega, ⟨hM6.blk, hM6.lists, hM6.whole, ?_, hM6.dist, hM6.only, hM6.inz⟩⟩
            intro t ht
            by_cases e : t = k
            · subst e; rw [HCk'.out]; exact hall
            · exact hM6.done t (by omega)
          case measure => simp [intOf]; omega
    · obtain rfl : k = m := by omega
      have h0 := hM
      go_wp2_with (fail)
      clear hM0 hk k0 hlt
      go_loopw [8] (fun i wx => ∃ t : Nat, i = .int .i64 (t : Int) ∧ t ≤ k ∧ Marked w wx base g k Z L Al Aw cl cw held k C) (fun i _ => k - (intOf i).toNat)
      case atStart => exact ⟨0, rfl, by omega, h0⟩
      case round =>
        obtain ⟨t, rfl, ht, hM⟩ := hrel
        clear h0
        have k0 : wr.cell? ⟨g, 0, none⟩ = some (.slice Al k cl) := hM.blk.cell 0
        by_cases hlt : t < k
        · obtain ⟨e0, he0⟩ : ∃ e0, L[t]? = some e0 := ⟨_, List.getElem?_eq_getElem (by rw [← Hm.out]; exact hlt)⟩
          obtain ⟨g4, o4, hg4, hix4, hcell4⟩ := hM.lists.index (P := Tryd.prog) (t := 55) Tryd.underlying55 (by kernel_rfl) (i := t) (by rw [List.length_map, ← Hm.out]; exact hlt)
          rw [List.getElem?_map, he0, Option.map_some] at hcell4
          obtain ⟨A6, c6, hv6, hCk, hn6, ho6⟩ : ∃ A6 c6, e0.v = .slice A6 e0.n c6 ∧ (C t).length = c6 ∧ c6 ≤ maxLen ∧ (0 < c6 → ∃ ge, A6 = some ⟨ge, 0, none⟩) := by
            rcases hM.whole t e0 he0 with ⟨e1, e2, e3⟩ | ⟨ge, cap, e1, h1, h2, h3, h4⟩
            · exact ⟨none, 0, by rw [e1, e2], by rw [e3]; rfl, by simp [maxLen], by omega⟩
            · exact ⟨_, cap, e1, h4, h2, fun _ => ⟨ge, rfl⟩⟩
          rw [hv6] at hcell4
          have hsh := run_slice_h (P := Tryd.prog) (A := A6) (n := e0.n) (c := c6) (m := c6) (hi := (c6 : Int)) Tryd.underlying22 (size := 1) (by kernel_rfl) rfl (Nat.le_refl _)
          replace hn6 : c6 ≤ 9223372036854775807 := by simpa [maxLen] using hn6
          have hc0 : (0 : Int) ≤ (c6 : Int) := by omega
          have hCm := hM.done t hlt
          rw [hCk] at hCm
          have Hv6 := Lib.hid hv6
          have He0 := Lib.hid he0
          have HCm := Lib.hid hCm
          clear hv6 he0 hCk hCm
          go_upto_region 14 with (fail)
          go_quiet (fail)
          have hM5 := hM.go ((Only.refl [] wr).drewN nq)
          clear k0 hix4 hcell4 hsh
          go_wp2_with (fail)
          go_loopw [10] (fun i wx => ∃ j : Nat, i = .int .i64 (j : Int) ∧ j ≤ c6 ∧ Marked w wx base g k Z L Al Aw cl cw held k C) (fun i _ => c6 - (intOf i).toNat)
          case atStart => exact ⟨0, rfl, by omega, hM5⟩
          case round =>
            obtain ⟨j, rfl, hj, hM6⟩ := hrel
            by_cases hlt6 : j < c6
            · obtain ⟨ge, rfl⟩ := ho6 (by omega)
              have hb6 : Blk wr ge 5 (C t) := by
                rcases hM6.whole t e0 He0.out with ⟨e1, _⟩ | ⟨ge', cap', e1, _, _, hb, _⟩
                · rw [Hv6.out] at e1; cases e1
                · rw [Hv6.out] at e1; cases e1; exact hb
              have h6 : wr.cell? ⟨ge, j, none⟩ = some (.int .u8 ((mk t j).toNat : Int)) := by rw [hb6.cell, HCm.out]; simp [bvs, marks, hlt6, bv]
              have hj0 : (0 : Int) ≤ (j : Int) := by omega
              have hj1 : (j : Int) < (c6 : Int) := by omega
              go_upto_region 18 with (fail)
              go_region_with ((go_at_call 26
                               refine (bytes_any t j _ (by omega) (by omega)).mono ?_
                               rintro e w7 ⟨rfl, rfl⟩))
              all_goals
                clear h6
                go_wp2_with (fail)
                go_roundw
                case rel => exact ⟨j + 1, by go_num, by omega, by first | exact hM6 | exact hM6.go ((Only.refl [] wr).drew) | exact hM6.go ((Only.refl [] wr).drewN _)⟩
                case measure => simp [intOf]; omega
            · obtain rfl : j = c6 := by omega
              go_wp2_with (fail)
              go_roundw
              case rel => exact ⟨t + 1, by go_num, by omega, hM6⟩
              case measure => simp [intOf]; omega
        · obtain rfl : t = k := by omega
          have f0 : wr.frozen? ⟨g, 0, none⟩ = false := hM.blk.frozen 0
          have f1 : wr.frozen? ⟨g, 1, none⟩ = false := hM.blk.frozen 1
          have f2 : wr.frozen? ⟨g, 2, none⟩ = false := hM.blk.frozen 2
          have k1 : wr.cell? ⟨g, 1, none⟩ = some (.slice Aw t cw) := hM.blk.cell 1
          have k2 : wr.cell? ⟨g, 2, none⟩ = some (.int .i64 held) := hM.blk.cell 2
          go_wp2_with (fail)
          go_ret
          refine ⟨rfl, ?_⟩
          rw [← HZ.out]
          exact ((hM.only.setCell (.inl hgZ) _).setCell (.inl hgZ) _).setCell (.inl hgZ) _
end Go.Proofs.YtgohinklnglgeaaDoor

set_option linter.unusedVariables false
set_option linter.unusedSimpArgs false
namespace Go.Proofs.YtgohinklnglgeaaDoor
open Go.RowKit

/-- an empty book -/
theorem book_new {w : World} {base g : Nat} (hb : Blk w g 57 [.slice none 0 0, .slice none 0 0, .int .i64 0, .bool false]) (h : base ≤ g) : BookB w base g [g] [] (.slice none 0 0) (.slice none 0 0) 0 [] where
  blk := hb
  lists := OwnS.nil _ _ _
  was := OwnS.nil _ _ _
  len := rfl
  apart k hk := by simp [Value.ownBlock] at hk
  inl k hk := by simp [Value.ownBlock] at hk
  inw k hk := by simp [Value.ownBlock] at hk
  ing := by simp
  data i e u he := by simp at he
  ents e he := by simp at he
  dist := List.Pairwise.nil
  own x hx := by simp at hx; subst hx; exact ⟨h, hb.lt⟩
  ne := ⟨by decide, by decide, by decide⟩
  good e he := by simp at he

theorem own_row {w : World} {base o m : Nat} {l : List UInt8} (hb : Blk w o 5 (bvs l)) (hl : l.length = m) (hbo : base ≤ o) (hm : m ≤ 70368744177664) : w.ownsRow base 5 1 (.slice (some ⟨o, 0, none⟩) m m) m (bvs l) :=
  own_of_blk (sp := []) (by simpa using hb) hbo (by rw [bvs_length, hl, Nat.mul_one]) (by simp) (Nat.le_refl _) (by simp only [maxLen]; omega)
theorem keep_blk (w : World) (base g : Nat) (bl : List Nat) (L : List Ent) (lv wv : Value) (held : Int) (ws : List Value) (h : BookB w base g bl L lv wv held ws) (hL : L.length ≤ 4000) (o m : Nat) (l : List UInt8) (hb : Blk w o 5 (bvs l)) (hl : l.length = m) (hm : m ≤ 70368744177664)
    (hbo : base ≤ o) (ho : o ∉ bl) (hd : ∀ e ∈ L, e.v.ownBlock ≠ some o) :
    Calls Tryd.prog 23 #[.pointer (some ⟨g, 0, none⟩), .slice (some ⟨o, 0, none⟩) m m] w fun e w' => e = .returned (.tuple #[]) ∧ KeptB w w' base g bl (L ++ [⟨.slice (some ⟨o, 0, none⟩) m m, m, bvs l⟩]) :=
  keep_any w base g bl L lv wv held ws h hL _ m m l (own_row hb hl hbo hm) (by intro k hk; simp [Value.ownBlock] at hk; subst hk; exact ho) (by intro e he k hk hk2; simp [Value.ownBlock] at hk2; subst hk2; exact hd e he hk) hm

/-- behind a Keep: the book, and what it left alone -/
theorem KeptB.next {w0 wP w' : World} {base g lo : Nat} {bl : List Nat} {L : List Ent} (h : KeptB wP w' base g bl L) (hlo : ∀ x ∈ bl, lo ≤ x) (hs : lo ≤ wP.heap.size) (hb : w0.heap.size ≤ lo) (hO : Only [] w0 wP) :
    ∃ j bl' lv' wv' held' ws', BookB w' base g bl' (L.drop j) lv' wv' held' ws' ∧ (L.drop j).length ≤ 4000 ∧ (∀ x ∈ bl', lo ≤ x) ∧ Only bl wP w' ∧ Only [] w0 w' ∧ ∀ x ∈ bl', x ∈ bl ∨ wP.heap.size ≤ x := by
  obtain ⟨j, bl', lv', wv', held', ws', hB, hl, hj, hO2, hbl⟩ := h
  refine ⟨j, bl', lv', wv', held', ws', hB, hl, ?_, hO2, hO.trans' hO2 ?_, hbl⟩
  · intro x hx
    rcases hbl x hx with h1 | h1
    · exact hlo x h1
    · omega
  · intro x hx; have := hlo x hx; omega

end Go.Proofs.YtgohinklnglgeaaDoor
