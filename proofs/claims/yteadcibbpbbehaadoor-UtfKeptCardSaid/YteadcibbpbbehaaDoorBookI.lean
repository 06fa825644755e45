/- Book[tessera/utf.Item]: Keep, Stays, Apart. -/
import Derived.Test.YteadcibbpbbehaaDoorBook1
import Derived.Test.YteadcibbpbbehaaDoorIBk
import Derived.Deep.RegionLaw
import Derived.Deep.RegionHeld3
import Derived.Deep.DeepCutAuto
set_option linter.unusedVariables false
set_option linter.unusedSimpArgs false
namespace Go.Proofs.YteadcibbpbbehaaDoor
open Go.RowKit

theorem listInfoI : (Tryd.prog.info? 24).map (fun i => (i.zero, i.size, i.bytes)) = some (some (.slice none 0 0), 1, 24) := by kernel_rfl

abbrev BookBI (w : World) (base g : Nat) (bl : List Nat) (L : List Ent) (lv wv : Value) (held : Int) (ws : List Value) : Prop := BookAt (fun e => ∃ l, e.xs = its l ∧ e.n ≤ 1000000) w base 47 24 33 4 g bl L lv wv held ws

def KeptBI (w w' : World) (base g : Nat) (bl : List Nat) (L : List Ent) : Prop :=
  ∃ j bl' lv' wv' held' ws', BookBI w' base g bl' (L.drop j) lv' wv' held' ws' ∧ (L.drop j).length ≤ 4000 ∧ j < L.length ∧ Only bl w w' ∧ ∀ x ∈ bl', x ∈ bl ∨ w.heap.size ≤ x

/-- how many lists the book holds, off its first cell -/
def lenAtI (w : World) (g : Nat) : Nat := match w.cell? ⟨g, 0, none⟩ with
  | some (.slice _ n _) => n
  | _ => 0

set_option maxRecDepth 100000 in
set_option maxHeartbeats 2000000 in
theorem keep_anyI (w : World) (base g : Nat) (bl : List Nat) (L : List Ent) (lv wv : Value) (held : Int) (ws : List Value) (h : BookBI w base g bl L lv wv held ws) (hL : L.length ≤ 4000)
    (A : Option Addr) (n c : Nat) (l : List It) (hv : w.ownsRow base 33 4 (.slice A n c) n (its l)) (hfar : ∀ k, (Value.slice A n c).ownBlock = some k → k ∉ bl) (hd : ∀ e ∈ L, ∀ k, e.v.ownBlock = some k → (Value.slice A n c).ownBlock ≠ some k) (hn : n ≤ 1000000) :
    Calls Tryd.prog 23 #[.pointer (some ⟨g, 0, none⟩), .slice A n c] w fun e w' => e = .returned (.tuple #[]) ∧ KeptBI w w' base g bl (L ++ [⟨.slice A n c, n, its l⟩]) := by
  have hbase : base ≤ w.heap.size := by have := h.own g h.ing; omega
  obtain ⟨Al, cl, hlv, _, _, _⟩ := h.lists.form
  obtain ⟨Aw, cw, hwv, _, _, _⟩ := h.was.form
  rw [List.length_map] at hlv
  rw [h.len] at hwv
  have hbl := h.blk
  have c0 : w.cell? ⟨g, 0, none⟩ = some lv := hbl.cell 0
  subst hlv hwv
  obtain ⟨h0, hh0⟩ : ∃ h0, h0 = w.heap.size := ⟨_, rfl⟩
  go_enter Tryd.func23, Tryd.ntmps23
  have hg1 : ∀ k, (Value.slice Al L.length cl).ownBlock = some k → k ≠ g := fun k hk => blockNe h.lists hbl h.ne.1 hk
  go_wp2_with ((at_builtin
                refine wpList_append_own1 (o := ⟨some 11, _, _, _, _, _⟩) (by rfl) (.tmp 8) (.tmp 10) 45 (by rfl) base 24 (.slice none 0 0) 24 Tryd.underlying45 listInfoI rfl (by rfl) (h.lists.only ((Only.refl [] w).alloc _) (by simp)) 1 (by rfl) (by exact Rd.whole (Blk.new' _ _ _ rfl rfl) rfl) (by rfl) (by simp only [maxLen, List.length_map]; omega) (by simp only [List.length_map]; omega) (by simp; omega) ?_
                intro lv1 w1 ho1 hO1 hn1
                obtain ⟨A1, c1, rfl, _, _, _⟩ := ho1.form
                simp only [List.length_append, List.length_map, List.length_singleton] at ho1 hn1 hO1 ⊢
                have hb1 : Blk w1 g 47 [.slice Al L.length cl, .slice Aw L.length cw, .int .i64 held, .bool false] := (hbl.alloc _).only hO1 (by intro hx; exact hg1 g (by simpa using hx) rfl)
                have d0 : w1.cell? ⟨g, 0, none⟩ = some (.slice Al L.length cl) := hb1.cell 0
                have d1 : w1.frozen? ⟨g, 0, none⟩ = false := hb1.frozen 0
                replace hO1 := ((Only.refl (Value.slice Al L.length cl).ownBlock.toList w).alloc _).trans hO1))
  refine name_it (p := fun y => Code.wp _ _ _ _ y) ?_
  intro w2 H2
  have hb2 : Blk w2 g 47 [.slice A1 (L.length + 1) c1, .slice Aw L.length cw, .int .i64 held, .bool false] := by rw [H2.out]; exact hb1.set 0 _
  have hne1 : ∀ k, (Value.slice A1 (L.length + 1) c1).ownBlock = some k → k ≠ g := fun k hk => blockNe ho1 hb1 h.ne.1 hk
  replace ho1 : OwnS w2 base 24 (.slice A1 (L.length + 1) c1) (L.map Ent.v ++ [.slice A n c]) := by
    rw [H2.out]; exact ho1.only ((Only.refl [g] w1).setCell (.inl (by simp)) _) (by intro k hk; simpa using hne1 k hk)
  have hO2 : Only (g :: (Value.slice Al L.length cl).ownBlock.toList) w w2 := by
    rw [H2.out]; exact (hO1.mono (fun x hx => .inl (List.mem_cons_of_mem _ hx))).setCell (.inl (by simp)) _
  have hln : ∀ k, (Value.slice A1 (L.length + 1) c1).ownBlock = some k → (Value.slice Al L.length cl).ownBlock = some k ∨ w.heap.size ≤ k := by
    intro k hk; rcases hn1 with e | e
    · rw [e] at hk; exact .inl hk
    · rw [e] at hk; simp at hk; omega
  have hwas : OwnS w2 base 24 (.slice Aw L.length cw) ws := h.was.only hO2 (by
    intro k hk hkl; simp at hkl
    rcases hkl with rfl | hkl
    · exact blockNe h.was hbl h.ne.1 hk rfl
    · exact h.apart k hkl hk)
  have hv2 : w2.ownsRow base 33 4 (.slice A n c) n (its l) := own_only hv hO2 (by
    intro k hk hkl; simp at hkl
    rcases hkl with rfl | hkl
    · exact hfar _ hk h.ing
    · exact hfar _ hk (h.inl k hkl))
  have hlw1 : ∀ k, (Value.slice A1 (L.length + 1) c1).ownBlock = some k → (Value.slice Aw L.length cw).ownBlock ≠ some k := by
    intro k hk hkw
    rcases hln k hk with e | e
    · exact h.apart k e hkw
    · have := h.was.lt hkw; omega
  have hw1lt : ∀ k, (Value.slice A1 (L.length + 1) c1).ownBlock = some k → k < w2.heap.size := fun k hk => (ho1.lt hk).2
  have hwg : ∀ k, (Value.slice Aw L.length cw).ownBlock = some k → k ≠ g := fun k hk => blockNe hwas hb2 h.ne.1 hk
  have hrd2 : Rd w2 w2.heap.size 4 A n (its l) := Rd.of_own hv2
  have c1' : w2.cell? ⟨g, 1, none⟩ = some (.slice Aw L.length cw) := hb2.cell 1
  have hsz2 : w.heap.size ≤ w2.heap.size := hO2.size
  clear H2 hb1 hO1 hn1 c0
  go_cut [] (fun wx => ∃ bl' lv' wv' u, BookBI wx base g bl' (L ++ [⟨.slice A n c, n, its l⟩]) lv' wv' held (ws ++ [u]) ∧ Only bl w wx ∧ ∀ x ∈ bl', x ∈ bl ∨ w.heap.size ≤ x)
  case first =>
    go_region_law (first
      | (refine step_append_row (v := .slice none 0 0) (by rfl) (.const (.slice none 0 0)) (.tmp 19) 24 (by rfl) base 33 (.agg #[.int .i64 0, .int .i64 0, .int .i32 0, .bool false]) 4 24 Tryd.underlying24 (by kernel_rfl) rfl (by omega) (n := 0) (xs := []) (by rfl) (by exact ⟨rfl, .inl ⟨rfl, rfl⟩⟩) c (by rfl) (by exact hrd2) (its_one _) (by simp only [maxLen]; omega) (by omega) (by first | exact Nat.le_trans hbase hsz2) ?_
         intro v3 w3 ho3 hO3 hn3
         replace hO3 : Only [] w2 w3 := by first | exact hO3 | exact hO3.ofDrew | exact hO3.ofDrew.ofDrew
         have hb3 : Blk w3 g 47 [.slice A1 (L.length + 1) c1, .slice Aw L.length cw, .int .i64 held, .bool false] := by exact hb2.only hO3 (by simp)
         have c3 : w3.cell? ⟨g, 1, none⟩ = some (.slice Aw L.length cw) := hb3.cell 1
         have c3' : ∀ o, (w3.alloc o).cell? ⟨g, 1, none⟩ = some (.slice Aw L.length cw) := fun o => (hb3.alloc o).cell 1
         obtain ⟨A3, cc3, rfl, hc3, hr3, _⟩ := own_slice ho3
         have hwas3 := hwas.only hO3 (by simp)
         clear hr3)
      | (refine step_append_own1 (v := .slice Aw L.length cw) (by rfl) (.tmp 18) (.tmp 21) 45 (by rfl) base 24 (.slice none 0 0) 24 Tryd.underlying45 listInfoI rfl (by rfl)
           (by first | exact hwas3.only ((Only.refl [] w3).alloc _) (by simp) | exact hwas3.only ((Only.refl [] w3).alloc _).drew (by simp) | exact hwas3.only (((Only.refl [] w3).drew).alloc _) (by simp)) 1 (by rfl)
           (by first | exact Rd.whole (Blk.new' _ _ _ rfl rfl) rfl | exact (Rd.whole (Blk.new' _ _ _ rfl rfl) rfl).drew) (by rfl) (by rw [h.len]; simp only [maxLen]; omega) (by rw [h.len]; omega) (by have := hO3.size; simp; omega) ?_
         intro v4 w4 ho4 hO4 hn4
         replace hO4 : Only (Value.slice Aw L.length cw).ownBlock.toList w3 w4 := by first | exact ((Only.refl _ w3).alloc _).trans hO4 | exact (((Only.refl _ w3).alloc _).drew).trans hO4 | exact (((Only.refl _ w3).drew).alloc _).trans hO4
         have hb4 : Blk w4 g 47 [.slice A1 (L.length + 1) c1, .slice Aw L.length cw, .int .i64 held, .bool false] := by exact hb3.only hO4 (by intro hx; exact hwg g (by simpa using hx) rfl)
         have d4 : w4.cell? ⟨g, 1, none⟩ = some (.slice Aw L.length cw) := hb4.cell 1
         have d5 : w4.frozen? ⟨g, 1, none⟩ = false := hb4.frozen 1
         obtain ⟨A4, cc4, rfl, hc4, hr4, _⟩ := ho4.form
         simp only [List.length_append, h.len, List.length_singleton] at ho4 hn4 ⊢
         clear hr4))
    all_goals
      go_wp2
      go_meet
      case rel =>
        have hne4 : ∀ k, (Value.slice A4 (L.length + 1) cc4).ownBlock = some k → k ≠ g := fun k hk => blockNe ho4 hb4 h.ne.1 hk
        have hS := (Only.refl [g] w4).setCell (p := ⟨g, 1, none⟩) (.inl (by simp)) (.slice A4 (L.length + 1) cc4)
        have hwn : ∀ k, (Value.slice A4 (L.length + 1) cc4).ownBlock = some k → (Value.slice Aw L.length cw).ownBlock = some k ∨ w3.heap.size ≤ k := by
          intro k hk; rcases hn4 with e | e
          · rw [e] at hk; exact .inl hk
          · rw [e] at hk; simp at hk; omega
        have hs3 := hO3.size
        have hl3 : OwnS w3 base 24 (.slice A1 (L.length + 1) c1) (L.map Ent.v ++ [.slice A n c]) := ho1.only hO3 (by simp)
        have hu3 : ∀ k, (Value.slice A3 (0 + n) cc3).ownBlock = some k → w2.heap.size ≤ k := by
          intro k hk; rcases hn3 with e | e
          · rw [e] at hk; simp [Value.ownBlock] at hk
          · rw [e] at hk; simp at hk; omega
        have hall : Only (g :: ((Value.slice Al L.length cl).ownBlock.toList ++ (Value.slice Aw L.length cw).ownBlock.toList)) w (w4.setCell ⟨g, 1, none⟩ (.slice A4 (L.length + 1) cc4)) := by
          refine (((hO2.mono ?_).trans0 hO3).trans' hO4 ?_).trans' hS ?_
          · intro x hx; simp at hx ⊢; rcases hx with e | e <;> simp [e]
          · intro x hx; simp at hx ⊢; simp [hx]
          · intro x hx; simp at hx ⊢; simp [hx]
        obtain ⟨bl', hB, hbl'⟩ := h.push (u := .slice A3 (0 + n) cc3) (e := ⟨.slice A n c, n, its l⟩) (lv' := .slice A1 (L.length + 1) c1) (wv' := .slice A4 (L.length + 1) cc4) (held' := held) hall
          (by intro k hk; simp at hk; exact hk) (hb4.set 1 _)
          ((hl3.only hO4 (by intro k hk hkw; exact hlw1 k hk (by simpa using hkw))).only hS (by intro k hk; simpa using hne1 k hk))
          ((by simpa using ho4.only hS (by intro k hk; simpa using hne4 k hk)))
          (by
            have h0 : w4.ownsRow base 33 4 (.slice A3 (0 + n) cc3) (0 + n) ([] ++ its l) := own_only ho3 hO4 (by intro k hk hkw; have h1 := hu3 k hk; have h2 := hwas.lt (by simpa using hkw); omega)
            have h1 := own_only h0 hS (by
              intro k hk hkg; simp at hkg; subst hkg
              have h1 := hu3 k hk; have h2 := hb2.lt; omega)
            simpa using h1)
          (by intro k hk; have := hu3 k hk; omega) hln
          (by intro k hk; rcases hwn k hk with e | e
              · exact .inl e
              · exact .inr (by omega))
          (by intro k hk hkw; rcases hwn k hkw with e | e
              · exact hlw1 k hk e
              · have := hw1lt k hk; omega)
          hv hfar hd ⟨l, rfl, hn⟩
        exact ⟨bl', _, _, _, hB, hall.mono (by
          intro x hx; simp at hx
          rcases hx with rfl | e | e
          · exact .inl h.ing
          · exact .inl (h.inl x e)
          · exact .inl (h.inw x e)), hbl'⟩
  case rest =>
  obtain ⟨bl1, lv1, wv1, u1, hB1, hO1', hbl1⟩ := hcut
  clear hne1 ho1 hO2 hln hwas hv2 hlw1 hw1lt hwg hrd2 c1' hsz2 hb2 d0 d1 hg1 hbl hh0 w2
  obtain ⟨M0, hM0⟩ : ∃ M0, M0 = L ++ [(⟨.slice A n c, n, its l⟩ : Ent)] := ⟨_, rfl⟩
  rw [← hM0] at hB1
  have hM1 : M0.length = L.length + 1 := by rw [hM0]; simp
  have HM0 := Lib.hid hM0
  clear hM0
  have c2 : wc.cell? ⟨g, 2, none⟩ = some (.int .i64 held) := hB1.blk.cell 2
  have d2 : wc.frozen? ⟨g, 2, none⟩ = false := hB1.blk.frozen 2
  go_wp2_with (fail)
  have hS := (Only.refl [g] wc).setCell (p := ⟨g, 2, none⟩) (.inl (by simp))
  refine name_it (p := fun y => Code.wp _ _ _ _ y) ?_
  intro wd Hd
  obtain ⟨held1, hB2, hO2⟩ : ∃ held1, BookBI wd base g bl1 M0 lv1 wv1 held1 (ws ++ [u1]) ∧ Only bl w wd := by
    rw [Hd.out]
    exact ⟨_, hB1.poke (hS _) (hB1.blk.set 2 _), hO1'.trans' (hS _) (by intro x hx; simp at hx; subst hx; exact .inl h.ing)⟩
  clear hS Hd c2 d2 hB1 hO1'
  go_loopw [] (fun wr => ∃ j bl' lv' wv' held' ws', BookBI wr base g bl' (M0.drop j) lv' wv' held' ws' ∧ j ≤ L.length ∧ Only bl w wr ∧ ∀ x ∈ bl', x ∈ bl ∨ w.heap.size ≤ x) (fun wr => lenAtI wr g)
  case atStart => exact ⟨0, _, _, _, _, _, hB2, by omega, hO2, hbl1⟩
  case round =>
    obtain ⟨j, bl2, lv2, wv2, held2, ws2, hB, hj, hO, hbl2⟩ := hrel
    clear hB2 hO2 hbl1
    obtain ⟨M, hM⟩ : ∃ M, M = M0.drop j := ⟨_, rfl⟩
    have hMl : M.length = L.length + 1 - j := by rw [hM, List.length_drop, hM1]
    rw [← hM] at hB
    have HM := Lib.hid hM
    clear hM
    obtain ⟨A2, c2, hlv2, hc2, hr2, _⟩ := hB.lists.form
    obtain ⟨A3, c3, hwv2, hc3, hr3, _⟩ := hB.was.form
    rw [List.length_map] at hlv2 hc2 hr2
    rw [hB.len] at hwv2 hc3 hr3
    subst hlv2 hwv2
    have k0 : wr.cell? ⟨g, 0, none⟩ = some (.slice A2 M.length c2) := hB.blk.cell 0
    have k1 : wr.cell? ⟨g, 1, none⟩ = some (.slice A3 M.length c3) := hB.blk.cell 1
    have k2 : wr.cell? ⟨g, 2, none⟩ = some (.int .i64 held2) := hB.blk.cell 2
    have k3 : wr.cell? ⟨g, 3, none⟩ = some (.bool false) := hB.blk.cell 3
    have HMl := Lib.hid hMl
    have hm1 : 0 < M.length := by omega
    clear hMl
    go_upto_region 3 with (fail)
    go_cut [56] (fun s wx => wr = wx ∧ s = .bool (decide (1 < M.length ∧ (1000000 < held2 ∨ 4000 < M.length))))
    case first =>
      by_cases h1 : 1 < M.length
      case' pos => by_cases h2 : 1000000 < held2
      case' neg => by_cases h3 : 4000 < M.length
      all_goals
        go_wp2
        go_meet
        case rel => exact ⟨rfl, by congr 1; rw [Bool.eq_iff_iff]; first | (simp; done) | (simp; omega)⟩
    case rest =>
    obtain ⟨rfl, hs56⟩ := hcut
    by_cases hgo : 1 < M.length ∧ (1000000 < held2 ∨ 4000 < M.length)
    · rw [decide_eq_true hgo] at hs56
      subst hs56
      obtain ⟨h1, _⟩ := hgo
      obtain ⟨e0, M', rfl⟩ : ∃ e0 M', M = e0 :: M' := by
        cases M with
        | nil => simp at h1
        | cons a b => exact ⟨a, b, rfl⟩
      obtain ⟨u0, ws', rfl⟩ : ∃ u0 ws', ws2 = u0 :: ws' := by
        cases ws2 with
        | nil => have := hB.len; simp at this
        | cons a b => exact ⟨a, b, rfl⟩
      obtain ⟨g4, o4, hg4, hix4, hcell4⟩ := hB.lists.index (P := Tryd.prog) (t := 45) Tryd.underlying45 (by kernel_rfl) (i := 0) (by simp)
      obtain ⟨g5, o5, hg5, hix5, hcell5⟩ := hB.was.index (P := Tryd.prog) (t := 45) Tryd.underlying45 (by kernel_rfl) (i := 0) (by simp)
      have hn4 : g4 ≠ g := blockNe hB.lists hB.blk hB.ne.1 hg4
      have hn5 : g5 ≠ g := blockNe hB.was hB.blk hB.ne.1 hg5
      replace hcell4 : wr.cell? ⟨g4, o4, none⟩ = some e0.v := hcell4
      replace hcell5 : wr.cell? ⟨g5, o5, none⟩ = some u0 := hcell5
      obtain ⟨A6, c6, hv6, hc6, hr6, _⟩ := own_slice (hB.ents e0 (by simp)).1
      obtain ⟨A7, c7, hv7, hc7, hr7, _⟩ := own_slice (hB.data 0 e0 u0 rfl rfl).1
      rw [hv6] at hcell4
      rw [hv7] at hcell5
      obtain ⟨l0, hl0, hl0n⟩ := hB.good e0 (by simp)
      rw [hl0] at hr6 hr7
      have Hlen := Lib.hid hr6.1
      clear hl0
      generalize hml : (e0 :: M').length = m at *
      replace hix4 : ∀ (q : IntKind) (W : World), (Instr.indexAt 45 (.slice A2 m c2) (.int q 0)).run Tryd.prog W = .ok (.pointer (some ⟨g4, o4, none⟩)) W := hix4
      replace hix5 : ∀ (q : IntKind) (W : World), (Instr.indexAt 45 (.slice A3 m c3) (.int q 0)).run Tryd.prog W = .ok (.pointer (some ⟨g5, o5, none⟩)) W := hix5
      go_upto_region 4 with (fail)
      go_cut [] (fun wx => ∃ k, wx = (wr.drewN k).setCell ⟨g, 3, none⟩ (.bool false))
      case first =>
        have k3f : ∀ k, (wr.drewN k).frozen? ⟨g, 3, none⟩ = false := fun k => hB.blk.frozen 3
        have hs6 : w.heap.size ≤ wr.heap.size := hO.size
        have kS : ∀ k, ((wr.drewN k).setCell ⟨g, 3, none⟩ (.bool false)).cell? ⟨g, 3, none⟩ = some (.bool false) ∧ ((wr.drewN k).setCell ⟨g, 3, none⟩ (.bool false)).cell? ⟨g, 0, none⟩ = some (.slice A2 m c2) ∧ ((wr.drewN k).setCell ⟨g, 3, none⟩ (.bool false)).cell? ⟨g, 1, none⟩ = some (.slice A3 m c3) ∧ ((wr.drewN k).setCell ⟨g, 3, none⟩ (.bool false)).cell? ⟨g4, o4, none⟩ = some (.slice A6 e0.n c6) ∧ ((wr.drewN k).setCell ⟨g, 3, none⟩ (.bool false)).cell? ⟨g5, o5, none⟩ = some (.slice A7 e0.n c7) := by
          intro k
          have hb := (hB.blk.drewN k).set 3 (.bool false)
          have hO : Only [g] (wr.drewN k) ((wr.drewN k).setCell ⟨g, 3, none⟩ (.bool false)) := (Only.refl _ _).setCell (.inl (by simp)) _
          exact ⟨hb.cell 3, hb.cell 0, hb.cell 1, hO.cellv (p := ⟨g4, o4, none⟩) hcell4 (by simpa using hn4), hO.cellv (p := ⟨g5, o5, none⟩) hcell5 (by simpa using hn5)⟩
        go_region_held3 (fun w' => w'.cell? ⟨g, 3, none⟩ = some (.bool false) ∧ w'.cell? ⟨g, 0, none⟩ = some (.slice A2 m c2) ∧ w'.cell? ⟨g, 1, none⟩ = some (.slice A3 m c3) ∧ w'.cell? ⟨g4, o4, none⟩ = some (.slice A6 e0.n c6) ∧ w'.cell? ⟨g5, o5, none⟩ = some (.slice A7 e0.n c7)) (first | exact kS _ | go_keep)
          ((go_at_call 39
            refine (sameI_any A6 A7 e0.n c6 0 c7 _ _ l0 _ (by exact hr6) (by exact hr7) (by have := Hlen.out; rw [its_length] at this; omega) (by omega)).mono ?_
            rintro e w5 ⟨rfl, k5, rfl⟩))
        all_goals
          go_wp2
          go_meet
          case rel => exact ⟨_, rfl⟩
      case rest =>
      obtain ⟨k4, hcut⟩ := hcut
      have hS := (Only.refl [g] wr).drewN k4 |>.setCell (p := ⟨g, 3, none⟩) (.inl (by simp)) (.bool false)
      rw [← hcut] at hS
      have hB5 : BookBI wc base g bl2 (e0 :: M') (.slice A2 m c2) (.slice A3 m c3) held2 (u0 :: ws') := hB.poke hS (by rw [hcut]; exact (hB.blk.drewN k4).set 3 _)
      have hO5 : Only bl w wc := hO.trans' hS (by intro x hx; simp at hx; subst hx; exact .inl h.ing)
      obtain ⟨lv6, hs6, ho6, he6⟩ := hB5.lists.tail (P := Tryd.prog) (t := 45) Tryd.underlying45 (by kernel_rfl)
      obtain ⟨wv6, hs7, ho7, he7⟩ := hB5.was.tail (P := Tryd.prog) (t := 45) Tryd.underlying45 (by kernel_rfl)
      obtain ⟨A8, c8, hv8, _⟩ := ho6.form
      obtain ⟨A9, c9, hv9, _⟩ := ho7.form
      rw [List.length_map] at hv8
      have hwl : ws'.length = M'.length := by have := hB5.len; simpa using this
      rw [hwl] at hv9
      subst hv8 hv9
      have q0 : wc.cell? ⟨g, 0, none⟩ = some (.slice A2 m c2) := hB5.blk.cell 0
      have q1 : wc.cell? ⟨g, 1, none⟩ = some (.slice A3 m c3) := hB5.blk.cell 1
      have q2 : wc.cell? ⟨g, 2, none⟩ = some (.int .i64 held2) := hB5.blk.cell 2
      have f0 : wc.frozen? ⟨g, 0, none⟩ = false := hB5.blk.frozen 0
      have f1 : wc.frozen? ⟨g, 1, none⟩ = false := hB5.blk.frozen 1
      have f2 : wc.frozen? ⟨g, 2, none⟩ = false := hB5.blk.frozen 2
      have q4 : wc.cell? ⟨g4, o4, none⟩ = some (.slice A6 e0.n c6) := hS.cellv hcell4 (by simpa using hn4)
      have hl0 : lenAtI wr g = m := by unfold lenAtI; rw [k0]
      have Hl0 := Lib.hid hl0
      have Hml := Lib.hid hml
      clear hcut hS hB hO k0 k1 k2 k3 hcell4 hcell5 hix5 hr6 hr7 hwl hl0 hml
      go_upto_region 5 with (fail)
      go_still_tail 16, (by kernel_rfl)
      refine name_it (p := fun y => wpList _ _ _ _ _ y) ?_
      intro w6 H6
      have hw6 : w6 = wc.drew ∨ w6 = wc.drew := .inl H6.out
      have hB6 : BookBI w6 base g bl2 (e0 :: M') (.slice A2 m c2) (.slice A3 m c3) held2 (u0 :: ws') := by rw [H6.out]; exact hB5.only0 (Only.refl _ _).drew
      have hO6 : Only bl w w6 := by rw [H6.out]; exact hO5.drew
      replace ho6 : OwnS w6 base 24 (.slice A8 M'.length c8) (M'.map Ent.v) := by rw [H6.out]; exact ho6.only (Only.refl [] _).drew (by simp)
      replace ho7 : OwnS w6 base 24 (.slice A9 M'.length c9) ws' := by rw [H6.out]; exact ho7.only (Only.refl [] _).drew (by simp)
      have q0 : w6.cell? ⟨g, 0, none⟩ = some (.slice A2 m c2) := hB6.blk.cell 0
      have q1 : w6.cell? ⟨g, 1, none⟩ = some (.slice A3 m c3) := hB6.blk.cell 1
      have q2 : w6.cell? ⟨g, 2, none⟩ = some (.int .i64 held2) := hB6.blk.cell 2
      have f0 : w6.frozen? ⟨g, 0, none⟩ = false := hB6.blk.frozen 0
      have f1 : w6.frozen? ⟨g, 1, none⟩ = false := hB6.blk.frozen 1
      have f2 : w6.frozen? ⟨g, 2, none⟩ = false := hB6.blk.frozen 2
      have hpop := fun x : Int => hB6.pop (w' := ((w6.setCell ⟨g, 2, none⟩ (.int .i64 x)).setCell ⟨g, 0, none⟩ (.slice A8 M'.length c8)).setCell ⟨g, 1, none⟩ (.slice A9 M'.length c9))
        ((((Only.refl [g] w6).setCell (.inl (by simp)) _).setCell (.inl (by simp)) _).setCell (.inl (by simp)) _) (((hB6.blk.set 2 _).set 0 _).set 1 _) ho6 ho7 he6 he7
      clear hB5 hO5 hw6 H6
      go_wp2
      go_roundw
      case rel =>
        have hMd : M0.drop (j + 1) = M' := by
          have := congrArg (List.drop 1) HM.out; rw [List.drop_drop] at this; simpa using this.symm
        have hml := Hml.out
        have hMl := HMl.out
        simp only [List.length_cons] at hml hMl
        exact ⟨j + 1, bl2, _, _, _, ws', by rw [hMd]; exact hpop _, by omega, hO6.trans' ((((Only.refl [g] w6).setCell (.inl (by simp)) _).setCell (.inl (by simp)) _).setCell (.inl (by simp)) _) (by intro x hx; simp at hx; subst hx; exact .inl h.ing), hbl2⟩
      case measure =>
        rw [Hl0.out]
        have hml := Hml.out
        simp only [List.length_cons] at hml
        have hlen : ∀ W : World, W.cell? ⟨g, 0, none⟩ = some (.slice A8 M'.length c8) → lenAtI W g = M'.length := fun W h => by unfold lenAtI; rw [h]
        rw [hlen _ ((hpop _).blk.cell 0)]
        omega
    · rw [decide_eq_false hgo] at hs56
      subst hs56
      go_wp2
      go_end0
      have hMl := HMl.out
      exact ⟨rfl, j, bl2, _, _, held2, ws2, by rw [← HM0.out, ← HM.out]; exact hB, by rw [← HM0.out, ← HM.out]; omega, by rw [← HM0.out, hM1]; omega, hO, hbl2⟩
end Go.Proofs.YteadcibbpbbehaaDoor
