/- Several texts in one: model.copied.; A model in memory; what it says.; model.words.; model.pairs: its closure; what is wrong with a merge. -/
import Derived.Test.YtgohinklnglgeaaDoorPk8
import Derived.Deep.RegionHeld3
import Derived.Deep.QuietTactic
import Derived.BigQuiet
set_option linter.unusedVariables false
set_option linter.unusedSimpArgs false
namespace Go.Proofs.YtgohinklnglgeaaDoor
open Go.RowKit

theorem results_cellD {fn : Func} {p : Tmp} {ty : TypeId} (h : fn.results = #[.cell p ty]) (tmps : Array Value) (P : Program) (w : World) :
    (results fn tmps).run P w = ((asAddr (tmps.getD p undef)).run P w).andThen fun a w₁ => (loadVar ty a).run P w₁ := by
  unfold results
  rw [h]
  simp [Sem.run_bind, Result.andThen, Sem.run_pure]
theorem load5 {w : World} {h0 : Nat} {v0 v1 v2 v3 v4 : Value} (hb : Blk w h0 38 [v0, v1, v2, v3, v4]) :
    (((asAddr (.pointer (some ⟨h0, 0, none⟩))).run Tryd.prog w).andThen fun a w₁ => (loadVar 38 a).run Tryd.prog w₁) = Result.ok (Value.agg #[v0, v1, v2, v3, v4]) w := by
  have c0 : w.cell? ⟨h0, 0, none⟩ = some v0 := hb.cell 0
  have c1 : w.cell? ⟨h0, 1, none⟩ = some v1 := hb.cell 1
  have c2 : w.cell? ⟨h0, 2, none⟩ = some v2 := hb.cell 2
  have c3 : w.cell? ⟨h0, 3, none⟩ = some v3 := hb.cell 3
  have c4 : w.cell? ⟨h0, 4, none⟩ = some v4 := hb.cell 4
  go_simp

set_option maxRecDepth 100000 in
set_option maxHeartbeats 8000000 in
theorem copied_any (w : World) (v0 v1 v2 v3 v4 : Value) (ws : List ByteArray) (ms : List Mg) (a b d : List Sp) (hR : Rd5 w v0 v1 v2 v3 v4 ws ms a b d) (s0 : ws.length ≤ 4096) (s1 : ms.length ≤ 4096) (s2 : a.length ≤ 512) (s3 : b.length ≤ 512) (s4 : d.length ≤ 512) :
    Calls Tryd.prog 54 #[.agg #[v0, v1, v2, v3, v4]] w fun e w' => ∃ u0 u1 u2 u3 u4, e = .returned (.agg #[u0, u1, u2, u3, u4]) ∧ Own5 w' w.heap.size u0 u1 u2 u3 u4 ws ms a b d ∧ Only [] w w' := by
  obtain ⟨h, hh⟩ : ∃ h, h = w.heap.size := ⟨_, rfl⟩
  obtain ⟨W1, hW1⟩ : ∃ W1, W1 = (w.alloc (.cells #[v0, v1, v2, v3, v4] 38)).alloc (.cells #[.slice none 0 0, .slice none 0 0, .slice none 0 0, .slice none 0 0, .slice none 0 0] 38) := ⟨_, rfl⟩
  have hb : Blk W1 h 38 [v0, v1, v2, v3, v4] := by rw [hW1]; exact (Blk.new' _ _ _ hh.symm rfl).alloc _
  have hb2 : Blk W1 (h + 1) 38 [.slice none 0 0, .slice none 0 0, .slice none 0 0, .slice none 0 0, .slice none 0 0] := by rw [hW1]; exact Blk.new' _ _ _ (by simp; omega) rfl
  have hO : Only [] w W1 := by rw [hW1]; exact ((Only.refl _ _).alloc _).alloc _
  have hwh : w.heap.size ≤ h := by omega
  have hz : W1.heap.size = h + 2 := by rw [hW1]; simp; omega
  obtain ⟨⟨A0, c0, rfl, -, r0⟩, ⟨A1, c1, rfl, -, r1⟩, ⟨A2, c2, rfl, -, r2⟩, ⟨A3, c3, rfl, -, r3⟩, ⟨A4, c4, rfl, -, r4⟩⟩ := hR
  have r0 := r0.only hO (by simp)
  have r1 := r1.only hO (by simp)
  have r2 := r2.only hO (by simp)
  have r3 := r3.only hO (by simp)
  have r4 := r4.only hO (by simp)
  have Hw := Lib.hid hW1
  have Hh := Lib.hid hh
  obtain ⟨n0, hn0⟩ : ∃ n, n = ws.length := ⟨_, rfl⟩
  obtain ⟨n1, hn1⟩ : ∃ n, n = ms.length := ⟨_, rfl⟩
  obtain ⟨n2, hn2⟩ : ∃ n, n = a.length := ⟨_, rfl⟩
  obtain ⟨n3, hn3⟩ : ∃ n, n = b.length := ⟨_, rfl⟩
  obtain ⟨n4, hn4⟩ : ∃ n, n = d.length := ⟨_, rfl⟩
  rw [← hn0] at s0 r0 hb Hw ⊢
  rw [← hn1] at s1 r1 hb Hw ⊢
  rw [← hn2] at s2 r2 hb Hw ⊢
  rw [← hn3] at s3 r3 hb Hw ⊢
  rw [← hn4] at s4 r4 hb Hw ⊢
  have N0 := Lib.hid hn0
  have N1 := Lib.hid hn1
  have N2 := Lib.hid hn2
  have N3 := Lib.hid hn3
  have N4 := Lib.hid hn4
  have Hb2 := Lib.hid hb2
  have Hb := Lib.hid hb
  have kS : ∀ w', Only [h + 1] W1 w' → (w'.cell? ⟨h, 0, none⟩ = some (.slice A0 n0 c0) ∧ w'.cell? ⟨h, 1, none⟩ = some (.slice A1 n1 c1) ∧ w'.cell? ⟨h, 2, none⟩ = some (.slice A2 n2 c2) ∧ w'.cell? ⟨h, 3, none⟩ = some (.slice A3 n3 c3) ∧ w'.cell? ⟨h, 4, none⟩ = some (.slice A4 n4 c4) ∧ Only [h + 1] W1 w') := fun w' hO' => by
    have e1 := Hb.out.only hO' (by simp)
    exact ⟨e1.cell 0, e1.cell 1, e1.cell 2, e1.cell 3, e1.cell 4, hO'⟩
  have KS := Lib.hid kS
  clear hW1 hh hn0 hn1 hn2 hn3 hn4 hb hb2 kS
  go_enter Tryd.func54, Tryd.ntmps54
  go_wp2_with (fail)
  rw [← Hw.out, ← Hh.out]
  go_region_held3 (fun w' => w'.cell? ⟨h, 0, none⟩ = some (.slice A0 n0 c0) ∧ w'.cell? ⟨h, 1, none⟩ = some (.slice A1 n1 c1) ∧ w'.cell? ⟨h, 2, none⟩ = some (.slice A2 n2 c2) ∧ w'.cell? ⟨h, 3, none⟩ = some (.slice A3 n3 c3) ∧ w'.cell? ⟨h, 4, none⟩ = some (.slice A4 n4 c4) ∧ Only [h + 1] W1 w')
    (first | exact KS.out _ (Only.drew (Only.refl _ _)) | exact KS.out _ (by assumption))
    (first
      | (go_at_call 70
         obtain ⟨-, -, -, -, -, hcur⟩ := (by assumption : _ ∧ _ ∧ _ ∧ _ ∧ _ ∧ Only [h + 1] W1 _)
         refine (cloneW_any n0 c0 A0 ws _ _ (r0.only hcur (by simp; omega)) (by omega)).mono ?_
         rintro e w5 ⟨u0, rfl, o0, hO5⟩
         obtain ⟨B0, x0, rfl, -⟩ := own_slice o0
         have g5 := hcur.size
         have hP5 := hcur.trans0 hO5
         have bb := Hb2.out.drew.only hO5 (by simp)
         clear hcur)
      | (go_at_call 71
         obtain ⟨-, -, -, -, -, hcur⟩ := (by assumption : _ ∧ _ ∧ _ ∧ _ ∧ _ ∧ Only [h + 1] W1 _)
         refine (cloneM_any n1 c1 A1 ms _ _ (r1.only hcur (by simp; omega)) (by omega)).mono ?_
         rintro e w6 ⟨u1, rfl, o1, hO6⟩
         obtain ⟨B1, x1, rfl, -⟩ := own_slice o1
         have g6 := hcur.size
         have o0 := own_only o0 hO6 (by simp)
         have hP6 := hcur.trans0 hO6
         have bb := bb.only hO6 (by simp)
         clear hcur)
      | (go_at_call 72
         obtain ⟨-, -, -, -, -, hcur⟩ := (by assumption : _ ∧ _ ∧ _ ∧ _ ∧ _ ∧ Only [h + 1] W1 _)
         ((with_reducible refine (cloneS_any n2 c2 A2 a _ _ (r2.only hcur (by simp; omega)) (by omega)).mono ?_))
         rintro e w7 ⟨u2, rfl, o2, hO7⟩
         obtain ⟨B2, x2, rfl, -⟩ := own_slice o2
         have g7 := hcur.size
         have o0 := own_only o0 hO7 (by simp)
         have o1 := own_only o1 hO7 (by simp)
         have hP7 := hcur.trans0 hO7
         have bb := bb.only hO7 (by simp)
         clear hcur)
      | (go_at_call 72
         obtain ⟨-, -, -, -, -, hcur⟩ := (by assumption : _ ∧ _ ∧ _ ∧ _ ∧ _ ∧ Only [h + 1] W1 _)
         ((with_reducible refine (cloneS_any n3 c3 A3 b _ _ (r3.only hcur (by simp; omega)) (by omega)).mono ?_))
         rintro e w8 ⟨u3, rfl, o3, hO8⟩
         obtain ⟨B3, x3, rfl, -⟩ := own_slice o3
         have g8 := hcur.size
         have q23 : ∀ k, (Value.slice B2 n2 x2).ownBlock = some k → (Value.slice B3 n3 x3).ownBlock ≠ some k := fun k hk hk2 => by have := (own_lt o2 hk).2; have := (own_lt o3 hk2).1; omega
         have o0 := own_only o0 hO8 (by simp)
         have o1 := own_only o1 hO8 (by simp)
         have o2 := own_only o2 hO8 (by simp)
         have Q23 := Lib.hid q23
         have hP8 := hcur.trans0 hO8
         have bb := bb.only hO8 (by simp)
         clear hcur q23)
      | (go_at_call 72
         obtain ⟨-, -, -, -, -, hcur⟩ := (by assumption : _ ∧ _ ∧ _ ∧ _ ∧ _ ∧ Only [h + 1] W1 _)
         ((with_reducible refine (cloneS_any n4 c4 A4 d _ _ (r4.only hcur (by simp; omega)) (by omega)).mono ?_))
         rintro e w9 ⟨u4, rfl, o4, hO9⟩
         obtain ⟨B4, x4, rfl, -⟩ := own_slice o4
         have g9 := hcur.size
         have q24 : ∀ k, (Value.slice B2 n2 x2).ownBlock = some k → (Value.slice B4 n4 x4).ownBlock ≠ some k := fun k hk hk2 => by have := (own_lt o2 hk).2; have := (own_lt o4 hk2).1; omega
         have q34 : ∀ k, (Value.slice B3 n3 x3).ownBlock = some k → (Value.slice B4 n4 x4).ownBlock ≠ some k := fun k hk hk2 => by have := (own_lt o3 hk).2; have := (own_lt o4 hk2).1; omega
         have o0 := own_only o0 hO9 (by simp)
         have o1 := own_only o1 hO9 (by simp)
         have o2 := own_only o2 hO9 (by simp)
         have o3 := own_only o3 hO9 (by simp)
         have Q24 := Lib.hid q24
         have Q34 := Lib.hid q34
         have hP9 := hcur.trans0 hO9
         have bb := bb.only hO9 (by simp)
         have e0 : w9.cell? ⟨h + 1, 0, none⟩ = some _ := bb.cell 0
         have e1 : w9.cell? ⟨h + 1, 1, none⟩ = some _ := bb.cell 1
         have e2 : w9.cell? ⟨h + 1, 2, none⟩ = some _ := bb.cell 2
         have e3 : w9.cell? ⟨h + 1, 3, none⟩ = some _ := bb.cell 3
         have e4 : w9.cell? ⟨h + 1, 4, none⟩ = some _ := bb.cell 4
         have z0 := bb.frozen 0
         have z1 := bb.frozen 1
         have z2 := bb.frozen 2
         have z3 := bb.frozen 3
         have z4 := bb.frozen 4
         have hPs := ((((hP9.setCell (p := ⟨h + 1, 0, none⟩) (.inl (by simp)) (.slice B0 n0 x0)).setCell (p := ⟨h + 1, 1, none⟩) (.inl (by simp)) (.slice B1 n1 x1)).setCell (p := ⟨h + 1, 2, none⟩) (.inl (by simp)) (.slice B2 n2 x2)).setCell (p := ⟨h + 1, 3, none⟩) (.inl (by simp)) (.slice B3 n3 x3)).setCell (p := ⟨h + 1, 4, none⟩) (.inl (by simp)) (.slice B4 n4 x4)
         clear hcur q24 q34))
  all_goals
    go_wp2_with (fail)
    (try simp only [Exit.inBlock, Exit.then])
    have hb9 := ((((bb.set 0 (.slice B0 n0 x0)).set 1 (.slice B1 n1 x1)).set 2 (.slice B2 n2 x2)).set 3 (.slice B3 n3 x3)).set 4 (.slice B4 n4 x4)
    have hOs : Only [h + 1] w9 (((((w9.setCell ⟨h + 1, 0, none⟩ (.slice B0 n0 x0)).setCell ⟨h + 1, 1, none⟩ (.slice B1 n1 x1)).setCell ⟨h + 1, 2, none⟩ (.slice B2 n2 x2)).setCell ⟨h + 1, 3, none⟩ (.slice B3 n3 x3)).setCell ⟨h + 1, 4, none⟩ (.slice B4 n4 x4)) := (((((Only.refl [h + 1] _).setCell (.inl (by simp)) _).setCell (.inl (by simp)) _).setCell (.inl (by simp)) _).setCell (.inl (by simp)) _).setCell (.inl (by simp)) _
    have hfr : ∀ {e : TypeId} {size : Nat} {v : Value} {n : Nat} {xs : List Value} {base : Nat}, h + 2 ≤ base → w9.ownsRow base e size v n xs → ∀ k, v.ownBlock = some k → k ∉ [h + 1] := fun hb ho k hk hm => by
      have := (own_lt ho hk).1
      simp at hm; omega
    have k5 : h + 2 ≤ W1.heap.size := by omega
    refine bodyPost_ret (v := .agg #[.slice B0 n0 x0, .slice B1 n1 x1, .slice B2 n2 x2, .slice B3 n3 x3, .slice B4 n4 x4]) ?_ rfl ⟨_, _, _, _, _, rfl, ?_, hO.trans' hPs (by simp; omega)⟩
    · rw [results_cellD rfl]
      exact load5 hb9
    · have hws : w.heap.size ≤ W1.heap.size := by omega
      have p0 := own_base (base' := w.heap.size) (own_only o0 hOs (hfr (by omega) o0)) (by omega)
      have p1 := own_base (base' := w.heap.size) (own_only o1 hOs (hfr (by omega) o1)) (by omega)
      have p2 := own_base (base' := w.heap.size) (own_only o2 hOs (hfr (by omega) o2)) (by omega)
      have p3 := own_base (base' := w.heap.size) (own_only o3 hOs (hfr (by omega) o3)) (by omega)
      have p4 := own_base (base' := w.heap.size) (own_only o4 hOs (hfr (by omega) o4)) (by omega)
      have m0 := N0.out
      have m1 := N1.out
      have m2 := N2.out
      have m3 := N3.out
      have m4 := N4.out
      clear Hw Hb Hb2 KS hb9 hOs hPs hfr
      subst m0 m1 m2 m3 m4
      refine ⟨p0, p1, p2, p3, p4, ?_, ?_, ?_⟩
      · exact Q23.out
      · exact Q24.out
      · exact Q34.out
end Go.Proofs.YtgohinklnglgeaaDoor

set_option linter.unusedVariables false
set_option linter.unusedSimpArgs false
namespace Go.Proofs.YtgohinklnglgeaaDoor
open Go.RowKit

/-- a table whose blocks lie below 'top' -/
def TabK (w : World) (base top tb : Nat) (a b d : List Sp) : Prop := ∃ w0, Tab w0 base tb a b d ∧ w0.heap.size ≤ top ∧ top ≤ w.heap.size ∧ ∀ x, base ≤ x → x < w0.heap.size → w.heap[x]? = w0.heap[x]?
theorem TabK.only {w w' : World} {base top tb : Nat} {a b d : List Sp} (h : TabK w base top tb a b d) {l : List Nat} (hO : Only l w w') (hl : ∀ x ∈ l, x < base ∨ top ≤ x) : TabK w' base top tb a b d := by
  obtain ⟨w0, h1, h2, h3, h4⟩ := h
  exact ⟨w0, h1, h2, Nat.le_trans h3 hO.size, fun x hb hx => (hO.block x (by omega) (fun hm => by have := hl x hm; omega)).trans (h4 x hb hx)⟩
theorem TabK.tab {w : World} {base top tb : Nat} {a b d : List Sp} (h : TabK w base top tb a b d) : Tab w base tb a b d := by
  obtain ⟨w0, h, h2, h3, h4⟩ := h
  refine ⟨?_, h.small, h.right⟩
  obtain ⟨A1, A2, A3, c1, c2, c3, hb, hg, r1, r2, r3, b1, b2, b3⟩ := h.at_
  have key : ∀ {A : Option Addr} {n : Nat} {xs : List Value}, Rd w0 w0.heap.size 2 A n xs → (∀ ad, A = some ad → base ≤ ad.block) → Rd w w.heap.size 2 A n xs := by
    intro A n xs r hb
    refine ⟨r.1, fun hn => ?_⟩
    obtain ⟨ad, e, hB, hw, hsp, hc⟩ := r.2 hn
    refine ⟨ad, e, by omega, by omega, hsp, fun j u hu => ?_⟩
    exact (World.cell?_of_block (h4 _ (by rw [add_block]; exact hb ad e) (by rw [add_block]; exact hw))).trans (hc j u hu)
  exact ⟨A1, A2, A3, c1, c2, c3, (h4 _ hg hb.lt).trans hb, hg, key r1 b1, key r2 b2, key r3 b3, b1, b2, b3⟩
/-- a model at block g; what it was made of lies in blocks from base on -/
structure MdX (w : World) (base g : Nat) (v0 v1 v2 v3 v4 : Value) (tb mq : Nat) (ws : List ByteArray) (ms : List Mg) (a b d : List Sp) (N : Nat) (f : Int × Int → Option (Nat × Int)) (lg : Nat) : Prop where
  blk : Blk w g 111 [v0, v1, v2, v3, v4, .pointer (some ⟨tb, 0, none⟩), .map (some mq), .int .i64 (lg : Int)]
  own : Own5 w base v0 v1 v2 v3 v4 ws ms a b d
  tab : TabK w base mq tb a b d
  map : MapIs pairTy w mq N f
  hb : base ≤ mq
  hg : mq < g
  small : ws.length ≤ 4096 ∧ ms.length ≤ 4096 ∧ a.length ≤ 512 ∧ b.length ≤ 512 ∧ d.length ≤ 512
structure MdAt (w : World) (base g : Nat) (ws : List ByteArray) (ms : List Mg) (a b d : List Sp) (N : Nat) (f : Int × Int → Option (Nat × Int)) (lg : Nat) : Prop where
  at_ : ∃ v0 v1 v2 v3 v4 tb mq, MdX w base g v0 v1 v2 v3 v4 tb mq ws ms a b d N f lg
section
variable {w w' : World} {base g : Nat} {v0 v1 v2 v3 v4 : Value} {tb mq : Nat} {ws : List ByteArray} {ms : List Mg} {a b d : List Sp} {N : Nat} {f : Int × Int → Option (Nat × Int)} {lg : Nat}
theorem MdX.at_ (h : MdX w base g v0 v1 v2 v3 v4 tb mq ws ms a b d N f lg) : MdAt w base g ws ms a b d N f lg := ⟨⟨v0, v1, v2, v3, v4, tb, mq, h⟩⟩
theorem MdX.ne (h : MdX w base g v0 v1 v2 v3 v4 tb mq ws ms a b d N f lg) : mq ≠ g := by have := h.hg; omega
theorem MdX.only (h : MdX w base g v0 v1 v2 v3 v4 tb mq ws ms a b d N f lg) {l : List Nat} (hO : Only l w w') (hl : ∀ x ∈ l, x < base ∨ (mq < x ∧ x ≠ g ∧ ∃ (t : TypeId) (cs : List Value), Blk w x t cs ∧ t ≠ 9 ∧ t ≠ 75 ∧ t ≠ 70)) : MdX w' base g v0 v1 v2 v3 v4 tb mq ws ms a b d N f lg := by
  have hb := h.hb
  have hg := h.hg
  refine ⟨h.blk.only hO (fun hm => ?_), h.own.only hO (fun x hx => ?_), h.tab.only hO (fun x hx => ?_), h.map.only hO (fun hm => ?_), hb, hg, h.small⟩
  · rcases hl g hm with e | ⟨_, e, _⟩
    · omega
    · exact e rfl
  · rcases hl x hx with e | ⟨_, _, t, cs, e⟩
    · exact .inl e
    · exact .inr ⟨t, cs, .inl e⟩
  · rcases hl x hx with e | ⟨e, _⟩
    · exact .inl e
    · exact .inr (by omega)
  · rcases hl mq hm with e | ⟨e, _⟩ <;> omega
theorem MdX.only0 (h : MdX w base g v0 v1 v2 v3 v4 tb mq ws ms a b d N f lg) (hO : Only [] w w') : MdX w' base g v0 v1 v2 v3 v4 tb mq ws ms a b d N f lg := h.only hO (by simp)
theorem MdAt.only (h : MdAt w base g ws ms a b d N f lg) {l : List Nat} (hO : Only l w w') (hl : ∀ x ∈ l, x < base) : MdAt w' base g ws ms a b d N f lg := by
  obtain ⟨v0, v1, v2, v3, v4, tb, mq, hX⟩ := h.at_
  exact (hX.only hO (fun x hx => .inl (hl x hx))).at_
theorem MdAt.only0 (h : MdAt w base g ws ms a b d N f lg) (hO : Only [] w w') : MdAt w' base g ws ms a b d N f lg := h.only hO (by simp)
theorem MdAt.small (h : MdAt w base g ws ms a b d N f lg) : ws.length ≤ 4096 ∧ ms.length ≤ 4096 ∧ a.length ≤ 512 ∧ b.length ≤ 512 ∧ d.length ≤ 512 := by
  obtain ⟨v0, v1, v2, v3, v4, tb, mq, hX⟩ := h.at_; exact hX.small
theorem MdAt.lt (h : MdAt w base g ws ms a b d N f lg) : base ≤ g ∧ g < w.heap.size := by
  obtain ⟨v0, v1, v2, v3, v4, tb, mq, hX⟩ := h.at_
  have := hX.hb
  have := hX.hg
  exact ⟨by omega, hX.blk.lt⟩
end
/-- an id's bytes -/
def wordB (ws : List ByteArray) (id : Int) : ByteArray := if 0 ≤ id ∧ id < 256 then str [UInt8.ofNat id.toNat] else if 256 ≤ id ∧ id < 256 + ws.length then ws.getD (id - 256).toNat ⟨#[]⟩ else ⟨#[]⟩
def isWord (ws : List ByteArray) (id : Int) : Bool := decide (0 ≤ id ∧ id < 256 + (ws.length : Int))
section
variable (w : World) (base g : Nat) (ws : List ByteArray) (ms : List Mg) (a b d : List Sp) (N : Nat) (f : Int × Int → Option (Nat × Int)) (lg : Nat) (hM : MdAt w base g ws ms a b d N f lg)
include hM
set_option maxRecDepth 100000 in
set_option maxHeartbeats 2000000 in
theorem size_any : Calls Tryd.prog 40 #[.pointer (some ⟨g, 0, none⟩)] w fun e w' => e = .returned (.int .i64 ((256 + ws.length : Nat) : Int)) ∧ w = w' := by
  obtain ⟨v0, v1, v2, v3, v4, tb, mp, ⟨hb, h5, ht, hm, hmp, hg, -⟩⟩ := hM.at_
  obtain ⟨A, c, rfl, -, -, -⟩ := own_slice h5.o0
  have c0 : w.cell? ⟨g, 0, none⟩ = some (.slice A ws.length c) := hb.cell 0
  have hs := hM.small.1
  obtain ⟨n, hn⟩ : ∃ n, n = ws.length := ⟨_, rfl⟩
  rw [← hn] at c0 hs ⊢
  obtain ⟨sz, hsz⟩ : ∃ sz, sz = 256 + n := ⟨_, rfl⟩
  rw [← hsz]
  have Hsz := Lib.hid hsz
  clear hb h5 ht hm hsz hn hM
  go_enter Tryd.func40, Tryd.ntmps40
  go_wp2_with (fail)
  go_ret
  exact ⟨ret_int (by rw [Hsz.out]; first | rfl | simp), rfl⟩
set_option maxRecDepth 100000 in
set_option maxHeartbeats 2000000 in
theorem longest_any : Calls Tryd.prog 27 #[.pointer (some ⟨g, 0, none⟩)] w fun e w' => e = .returned (.int .i64 (lg : Int)) ∧ w = w' := by
  obtain ⟨v0, v1, v2, v3, v4, tb, mp, ⟨hb, h5, ht, hm, hmp, hg, -⟩⟩ := hM.at_
  have c0 : w.cell? ⟨g, 7, none⟩ = some (.int .i64 (lg : Int)) := hb.cell 7
  clear hb h5 ht hm
  go_enter Tryd.func27, Tryd.ntmps27
  go_wp2_with (fail)
  go_ret
  exact ⟨rfl, rfl⟩
set_option maxRecDepth 100000 in
set_option maxHeartbeats 4000000 in
theorem word_any (id : Int) (hid : i64ok id) : Calls Tryd.prog 77 #[.pointer (some ⟨g, 0, none⟩), .int .i64 id] w fun e w' => e = .returned (.tuple #[.string (wordB ws id), .bool (isWord ws id)]) ∧ Only [] w w' := by
  obtain ⟨v0, v1, v2, v3, v4, tb, mp, ⟨hb, h5, ht, hm, hmp, hg, -⟩⟩ := hM.at_
  obtain ⟨A, c, rfl, -, hR, -⟩ := own_slice h5.o0
  have c0 : w.cell? ⟨g, 0, none⟩ = some (.slice A ws.length c) := hb.cell 0
  have hs := hM.small.1
  have hsz := size_any w base g ws ms a b d N f lg hM
  unfold i64ok at hid
  obtain ⟨n, hn⟩ : ∃ n, n = ws.length := ⟨_, rfl⟩
  have hwb : wordB ws id = if 0 ≤ id ∧ id < 256 then str [UInt8.ofNat id.toNat] else if 256 ≤ id ∧ id < 256 + n then ws.getD (id - 256).toNat ⟨#[]⟩ else ⟨#[]⟩ := by rw [hn]; rfl
  have hiw : isWord ws id = decide (0 ≤ id ∧ id < 256 + (n : Int)) := by rw [hn]; rfl
  obtain ⟨V, hV⟩ : ∃ V, V = wordB ws id := ⟨_, rfl⟩
  obtain ⟨I, hI⟩ : ∃ I, I = isWord ws id := ⟨_, rfl⟩
  rw [← hV, ← hI]
  rw [hwb] at hV
  rw [hiw] at hI
  have HV := Lib.hid hV
  have HI := Lib.hid hI
  rw [← hn] at c0 hs hR hsz
  obtain ⟨sz, hsz2⟩ : ∃ sz, sz = 256 + n := ⟨_, rfl⟩
  rw [← hsz2] at hsz
  have Hs2 := Lib.hid hsz2
  have Hn := Lib.hid hn
  have Hsz := Lib.hid hsz
  have HR := Lib.hid hR
  clear hb h5 ht hm hwb hiw hn hsz hR hV hI hsz2 hM
  go_enter Tryd.func77, Tryd.ntmps77
  by_cases h0 : id < 0
  · go_wp2_with (fail)
    go_ret2
    exact ⟨by rw [HV.out, HI.out, if_neg (by have := Hs2.out; omega), if_neg (by have := Hs2.out; omega), decide_eq_false (by have := Hs2.out; omega)]; rfl, .refl _ _⟩
  · by_cases h1 : (sz : Int) ≤ id
    · go_wp2_with (fail)
      refine Hsz.out.mono ?_
      rintro e w1 ⟨rfl, rfl⟩
      go_wp2_with (fail)
      go_ret2
      exact ⟨by rw [HV.out, HI.out, if_neg (by have := Hs2.out; omega), if_neg (by have := Hs2.out; omega), decide_eq_false (by have := Hs2.out; omega)]; rfl, .refl _ _⟩
    · by_cases h2 : id < 256
      · obtain ⟨k, hk⟩ : ∃ k : Nat, id = (k : Int) := ⟨id.toNat, by omega⟩
        subst hk
        have hbl : Blk (w.alloc (.cells #[.int .u8 (k : Int)] 5)) w.heap.size 5 (bvs [UInt8.ofNat k]) := Blk.new' _ _ _ rfl (by simp [bvs, bv]; omega)
        have hcv := run_string_rd (P := Tryd.prog) 22 9 5 (by kernel_rfl) (by kernel_rfl) (by kernel_rfl) 1 (Rd.whole (t := 5) (n := 1) (size := 1) hbl rfl)
        have hmod : (k : Int) % 256 = (k : Int) := by omega
        clear hbl
        go_wp2_with (fail)
        refine Hsz.out.mono ?_
        rintro e w1 ⟨rfl, rfl⟩
        go_wp2_with (fail)
        go_ret2
        have e1 : V = str [UInt8.ofNat k] := by rw [HV.out, if_pos ⟨by omega, by omega⟩]; rfl
        have e2 : I = true := by rw [HI.out]; exact decide_eq_true ⟨by omega, by have := Hs2.out; omega⟩
        exact ⟨by rw [e1, e2]; rfl, (Only.refl _ _).alloc _⟩
      · obtain ⟨k, hk⟩ : ∃ k : Nat, id - 256 = (k : Int) := ⟨(id - 256).toNat, by omega⟩
        obtain ⟨s, hs'⟩ : ∃ s, ws[k]? = some s := ⟨_, List.getElem?_eq_getElem (by rw [← Hn.out]; have := Hs2.out; omega)⟩
        obtain ⟨g', o', rfl, _, q⟩ := HR.out.wd hs'
        have hgd : ws.getD k ⟨#[]⟩ = s := by rw [List.getD_eq_getElem?_getD, hs']; rfl
        have hkn : k < n := by have := Hs2.out; omega
        have Hgd := Lib.hid hgd
        have Hk := Lib.hid hk
        clear hs' hgd
        go_wp2_with (fail)
        refine Hsz.out.mono ?_
        rintro e w1 ⟨rfl, rfl⟩
        go_wp2_with (fail)
        go_ret2
        have e1 : V = s := by rw [HV.out, if_neg (by omega), if_pos ⟨by omega, by have := Hs2.out; omega⟩, Hk.out, Int.toNat_natCast, Hgd.out]
        have e2 : I = true := by rw [HI.out]; exact decide_eq_true ⟨by omega, by have := Hs2.out; omega⟩
        exact ⟨by rw [e1, e2]; rfl, .refl _ _⟩
set_option maxRecDepth 100000 in
set_option maxHeartbeats 4000000 in
theorem data_any : Calls Tryd.prog 21 #[.pointer (some ⟨g, 0, none⟩)] w fun e w' => ∃ u0 u1 u2 u3 u4, e = .returned (.agg #[u0, u1, u2, u3, u4]) ∧ Own5 w' w.heap.size u0 u1 u2 u3 u4 ws ms a b d ∧ Only [] w w' := by
  obtain ⟨v0, v1, v2, v3, v4, tb, mp, ⟨hb, h5, ht, hm, hmp, hg, -⟩⟩ := hM.at_
  obtain ⟨s0, s1, s2, s3, s4⟩ := hM.small
  obtain ⟨h, hh⟩ : ∃ h, h = w.heap.size := ⟨_, rfl⟩
  obtain ⟨W1, hW1⟩ : ∃ W1, W1 = w.alloc (.cells #[.slice none 0 0, .slice none 0 0, .slice none 0 0, .slice none 0 0, .slice none 0 0] 38) := ⟨_, rfl⟩
  have hb2 : Blk W1 h 38 [.slice none 0 0, .slice none 0 0, .slice none 0 0, .slice none 0 0, .slice none 0 0] := by rw [hW1]; exact Blk.new' _ _ _ hh.symm rfl
  have hO : Only [] w W1 := by rw [hW1]; exact (Only.refl _ _).alloc _
  have hc := copied_any W1 v0 v1 v2 v3 v4 ws ms a b d (h5.rd.only hO) s0 s1 s2 s3 s4
  have hb1 := hb.only hO (by simp)
  have c0 : W1.cell? ⟨g, 0, none⟩ = some v0 := hb1.cell 0
  have c1 : W1.cell? ⟨g, 1, none⟩ = some v1 := hb1.cell 1
  have c2 : W1.cell? ⟨g, 2, none⟩ = some v2 := hb1.cell 2
  have c3 : W1.cell? ⟨g, 3, none⟩ = some v3 := hb1.cell 3
  have c4 : W1.cell? ⟨g, 4, none⟩ = some v4 := hb1.cell 4
  have hws : w.heap.size ≤ h := by omega
  have hz : W1.heap.size = h + 1 := by rw [hW1]; simp; omega
  obtain ⟨A0, x0, rfl, -⟩ := own_slice h5.o0
  obtain ⟨A1, x1, rfl, -⟩ := own_slice h5.o1
  obtain ⟨A2, x2, rfl, -⟩ := own_slice h5.o2
  obtain ⟨A3, x3, rfl, -⟩ := own_slice h5.o3
  obtain ⟨A4, x4, rfl, -⟩ := own_slice h5.o4
  have Hc := Lib.hid hc
  have Hw := Lib.hid hW1
  have Hh := Lib.hid hh
  clear hc hb hb1 h5 ht hm hW1 hh
  go_enter Tryd.func21, Tryd.ntmps21
  go_upto_region 1 with (fail)
  rw [← Hw.out, ← Hh.out]
  go_wp2_with (fail)
  refine Hc.out.mono ?_
  rintro e w2 ⟨u0, u1, u2, u3, u4, rfl, h5, hO2⟩
  have hb3 := hb2.only hO2 (by simp)
  obtain ⟨B0, y0, rfl, -⟩ := own_slice h5.o0
  obtain ⟨B1, y1, rfl, -⟩ := own_slice h5.o1
  obtain ⟨B2, y2, rfl, -⟩ := own_slice h5.o2
  obtain ⟨B3, y3, rfl, -⟩ := own_slice h5.o3
  obtain ⟨B4, y4, rfl, -⟩ := own_slice h5.o4
  have e0 : w2.cell? ⟨h, 0, none⟩ = some _ := hb3.cell 0
  have e1 : w2.cell? ⟨h, 1, none⟩ = some _ := hb3.cell 1
  have e2 : w2.cell? ⟨h, 2, none⟩ = some _ := hb3.cell 2
  have e3 : w2.cell? ⟨h, 3, none⟩ = some _ := hb3.cell 3
  have e4 : w2.cell? ⟨h, 4, none⟩ = some _ := hb3.cell 4
  have z0 := hb3.frozen 0
  have z1 := hb3.frozen 1
  have z2 := hb3.frozen 2
  have z3 := hb3.frozen 3
  have z4 := hb3.frozen 4
  have H5 := Lib.hid h5
  have hO3 := hO.trans hO2
  clear h5 c0 c1 c2 c3 c4
  go_wp2_with (fail)
  (try simp only [Exit.inBlock, Exit.then])
  have hb9 := ((((hb3.set 0 (.slice B0 ws.length y0)).set 1 (.slice B1 ms.length y1)).set 2 (.slice B2 a.length y2)).set 3 (.slice B3 b.length y3)).set 4 (.slice B4 d.length y4)
  refine bodyPost_ret (v := .agg #[.slice B0 ws.length y0, .slice B1 ms.length y1, .slice B2 a.length y2, .slice B3 b.length y3, .slice B4 d.length y4]) ?_ rfl ⟨_, _, _, _, _, rfl, ?_, (((((hO3.setCell (.inr hws) _).setCell (.inr hws) _).setCell (.inr hws) _).setCell (.inr hws) _).setCell (.inr hws) _)⟩
  · rw [results_cellD rfl]
    exact load5 hb9
  · have h6 := H5.out.only (l := [h]) (((((((Only.refl [h] w2).setCell (p := ⟨h, 0, none⟩) (.inl (by simp)) (.slice B0 ws.length y0)).setCell (p := ⟨h, 1, none⟩) (.inl (by simp)) (.slice B1 ms.length y1)).setCell (p := ⟨h, 2, none⟩) (.inl (by simp)) (.slice B2 a.length y2)).setCell (p := ⟨h, 3, none⟩) (.inl (by simp)) (.slice B3 b.length y3)).setCell (p := ⟨h, 4, none⟩) (.inl (by simp)) (.slice B4 d.length y4))) (fun x hx => .inl (by simp at hx; omega))
    exact h6.down (by omega)
end
end Go.Proofs.YtgohinklnglgeaaDoor

set_option linter.unusedVariables false
set_option linter.unusedSimpArgs false
namespace Go.Proofs.YtgohinklnglgeaaDoor
open Go.RowKit

/-- is the word on the list? -/
def inB (s : ByteArray) (l : List ByteArray) : Bool := (l.map fun t => t.data.toList).contains s.data.toList
theorem inB_iff (s : ByteArray) (l : List ByteArray) : inB s l = true ↔ s ∈ l := by
  unfold inB
  rw [List.contains_iff_mem, List.mem_map]
  constructor
  · rintro ⟨t, ht, e⟩
    have : t = s := by apply ByteArray.ext; exact Array.toList_inj.1 e
    rw [← this]; exact ht
  · intro h; exact ⟨s, h, rfl⟩
theorem inB_snoc (s t : ByteArray) (l : List ByteArray) : inB s (l ++ [t]) = (inB s l || decide (s.data.toList = t.data.toList)) := by
  unfold inB
  rw [List.map_append, Bool.eq_iff_iff]
  simp
/-- what is wrong with a word: its place, why -/
def wordsAt (seen : List ByteArray) (i : Nat) : List ByteArray → Nat × Nat
  | [] => (0, 0)
  | s :: r => if s.size < 2 ∨ 256 < s.size then (i, 21) else if inB s seen = true then (i, 22) else wordsAt (seen ++ [s]) (i + 1) r
def lgF (ws : List ByteArray) : Nat := ws.foldl (fun m s => max m s.size) 1
theorem lgF_snoc (ws : List ByteArray) (s : ByteArray) : lgF (ws ++ [s]) = max (lgF ws) s.size := by simp [lgF]
theorem take_snoc' {α : Type} {l : List α} {i : Nat} {x : α} (h : l[i]? = some x) : l.take (i + 1) = l.take i ++ [x] := by rw [List.take_add_one, h]; rfl
theorem drop_cons' {α : Type} {l : List α} {i : Nat} {x : α} (h : l[i]? = some x) : l.drop i = x :: l.drop (i + 1) := by
  obtain ⟨hl, e⟩ := List.getElem?_eq_some_iff.1 h
  rw [List.drop_eq_getElem_cons hl, e]

def WdRel (w : World) (g mp : Nat) (vs : List Value) (ws : List ByteArray) (i : Nat) (wr : World) : Prop :=
  (∃ fs, MapIs seenTy wr mp i fs ∧ ∀ s, (fs s).isSome = inB s (ws.take i)) ∧ Blk wr g 111 (vs ++ [.int .i64 (lgF (ws.take i) : Int)]) ∧ Only [g, mp] w wr ∧ wordsAt (ws.take i) i (ws.drop i) = wordsAt [] 0 ws ∧ lgF (ws.take i) ≤ 256
set_option maxRecDepth 100000 in
set_option maxHeartbeats 4000000 in
theorem words_any (w : World) (base g : Nat) (ws : List ByteArray) (ms : List Mg) (a b d : List Sp) (N : Nat) (f : Int × Int → Option (Nat × Int)) (v0 v1 v2 v3 v4 : Value) (tb mq : Nat) (hM : MdX w base g v0 v1 v2 v3 v4 tb mq ws ms a b d N f 1) (hws : ∀ s ∈ ws, s.size ≤ maxLen) :
    Calls Tryd.prog 60 #[.pointer (some ⟨g, 0, none⟩)] w fun e w' => e = .returned (.tuple #[.int .i64 ((wordsAt [] 0 ws).1 : Int), .int .i64 ((wordsAt [] 0 ws).2 : Int)]) ∧ Only [g] w w' ∧ ((wordsAt [] 0 ws).2 = 0 → MdX w' base g v0 v1 v2 v3 v4 tb mq ws ms a b d N f (lgF ws)) := by
  have hMs := hM.small
  obtain ⟨hb, h5, ht, hm, hmq, hg, -⟩ := hM
  obtain ⟨A, c, rfl, -, hR, hA⟩ := own_slice h5.o0
  have hs := hMs
  obtain ⟨T, hT⟩ : ∃ T, T = wordsAt [] 0 ws := ⟨_, rfl⟩
  obtain ⟨vs, hvs⟩ : ∃ vs : List Value, vs = [.slice A ws.length c, v1, v2, v3, v4, .pointer (some ⟨tb, 0, none⟩), .map (some mq)] := ⟨_, rfl⟩
  have hb' : Blk w g 111 (vs ++ [.int .i64 1]) := by rw [hvs]; exact hb
  obtain ⟨mp, hmp⟩ : ∃ mp, mp = w.heap.size := ⟨_, rfl⟩
  have hgm : g < mp := by rw [hmp]; exact hb.lt
  have hnew : MapIs seenTy (w.alloc (.map #[] 0)) mp 0 (fun _ => none) := MapIs.new seenTy w hmp.symm
  have hAg : ∀ ad, A = some ad → ad.block ≠ g ∧ ad.block ≠ mp := fun ad e => by
    obtain ⟨h1, h2⟩ := hA ad e
    have h3 := own_type h5.o0 h1 hb (by decide)
    have h4 := (own_lt h5.o0 h1).2
    exact ⟨fun h => h3 h.symm, by omega⟩
  obtain ⟨n, hn⟩ : ∃ n, n = ws.length := ⟨_, rfl⟩
  have hmm := @run_makeMap Tryd.prog
  have hO0 : Only [g, mp] w (w.alloc (.map #[] 0)) := (Only.refl _ _).alloc _
  have H0 : WdRel w g mp vs ws 0 (w.alloc (.map #[] 0)) := ⟨⟨_, hnew, fun s => rfl⟩, hb'.alloc _, hO0, by simp, by simp [lgF]⟩
  rw [← hT]
  have c0 : w.cell? ⟨g, 0, none⟩ = some (.slice A ws.length c) := hb.cell 0
  rw [← hn] at c0 hR
  have c0 := ((Only.refl [] w).alloc (.map #[] 0)).cellv c0 (by simp)
  have HR := Lib.hid hR
  have HT := Lib.hid hT
  have Hvs := Lib.hid hvs
  have Hn := Lib.hid hn
  have HA := Lib.hid hAg
  have Hmp := Lib.hid hmp
  have hwz : w.heap.size ≤ mp := by omega
  have Hb := Lib.hid hb
  have H5 := Lib.hid h5
  have Ht := Lib.hid ht
  have Hm := Lib.hid hm
  have Hsm := Lib.hid hs
  have Hws := Lib.hid hws
  have hn4 : n ≤ 4096 := by rw [hn]; exact hs.1
  have HH0 := Lib.hid H0
  clear hb hb' h5 ht hm hR hA hs hT hMs hvs hnew hAg hn hO0 H0 hmp hws
  go_enter Tryd.func60, Tryd.ntmps60
  go_wp2_with (fail)
  rw [← Hmp.out]
  go_loopw [5, 6, 7, 8, 16] (fun _ _ _ _ v16 wr => ∃ i : Nat, v16 = .int .i64 (i : Int) ∧ i ≤ n ∧ WdRel w g mp vs ws i wr) (fun _ _ _ _ v16 _ => n - (intOf v16).toNat)
  case atStart => exact ⟨0, rfl, by omega, HH0.out⟩
  case round =>
    obtain ⟨i, rfl, hi, hrel⟩ := hrel
    by_cases hlt : i < n
    · obtain ⟨⟨fs, hmap, hfs⟩, hbm, hO, hw, hlg⟩ := hrel
      obtain ⟨s, hsi⟩ : ∃ s, ws[i]? = some s := ⟨_, List.getElem?_eq_getElem (by rw [← Hn.out]; exact hlt)⟩
      obtain ⟨gw, ow, rfl, _, q⟩ := (HR.out.only' hO (fun ad e _ hm => by have := HA.out ad e; simp at hm; omega)).wd hsi
      have hsz := Hws.out s (List.mem_of_getElem? hsi)
      have hdr := drop_cons' hsi
      have htk := take_snoc' hsi
      have hfss := hfs s
      have hlook : (Instr.lookup 143 (.map (some mp)) (.string s) true).run Tryd.prog wr = .ok (.tuple #[.int .i64 ((fs s).getD 0), .bool (fs s).isSome]) wr := hmap.look (a := s) hsz
      rw [hfss] at hlook
      obtain ⟨x, hx⟩ : ∃ x, x = (fs s).getD 0 := ⟨_, rfl⟩
      rw [← hx] at hlook
      rw [hdr, wordsAt] at hw
      unfold maxLen at hsz
      obtain ⟨lg, hlge⟩ : ∃ lg, lg = lgF (ws.take i) := ⟨_, rfl⟩
      rw [← hlge] at hbm hlg
      have cl : wr.cell? ⟨g, 7, none⟩ = some (.int .i64 (lg : Int)) := by rw [Hvs.out] at hbm; exact hbm.cell 7
      have Hw := Lib.hid hw
      have Hsi := Lib.hid hsi
      have Htk := Lib.hid htk
      have Hx := Lib.hid hx
      have Hlg := Lib.hid hlge
      have Hmap := Lib.hid hmap
      have Hfs := Lib.hid hfs
      clear hw hsi hdr htk hx hlge hmap hfs hfss
      by_cases h2 : s.size < 2
      · clear hlook
        have h2' : decide (s.size < 2) = true := decide_eq_true h2
        have hT2 : T = (i, 21) := by rw [HT.out, ← Hw.out, if_pos (.inl h2)]
        have HT2 := Lib.hid hT2
        clear hT2
        go_wp2_with (fail)
        go_ret2
        exact ⟨by rw [HT2.out]; rfl, hO.mono (by simp; omega), fun h => by rw [HT2.out] at h; cases h⟩
      · by_cases h3 : 256 < s.size
        · clear hlook
          have h3' : decide (256 < s.size) = true := decide_eq_true h3
          have hT2 : T = (i, 21) := by rw [HT.out, ← Hw.out, if_pos (.inr h3)]
          have HT2 := Lib.hid hT2
          clear hT2
          go_wp2_with (fail)
          go_ret2
          exact ⟨by rw [HT2.out]; rfl, hO.mono (by simp; omega), fun h => by rw [HT2.out] at h; cases h⟩
        · cases hin : inB s (ws.take i) with
          | true =>
            rw [hin] at hlook
            have hT2 : T = (i, 22) := by rw [HT.out, ← Hw.out, if_neg (by omega), if_pos hin]
            have HT2 := Lib.hid hT2
            clear hT2 hin
            go_wp2_with (fail)
            go_ret2
            exact ⟨by rw [HT2.out]; rfl, hO.mono (by simp; omega), fun h => by rw [HT2.out] at h; cases h⟩
          | false =>
            rw [hin] at hlook
            obtain ⟨w', hrun, hO', hst⟩ := Hmap.out.store (a := s) (by unfold seenTy maxLen; exact hsz) (i : Int) (by unfold maxLen; omega)
            have hrun : (Instr.mapUpdate 143 (.map (some mp)) (.string s) (.int .i64 (i : Int))).run Tryd.prog wr = .ok () w' := hrun
            have hbm2 := hbm.only hO' (by simp; omega)
            have cl2 : w'.cell? ⟨g, 7, none⟩ = some (.int .i64 (lg : Int)) := by rw [Hvs.out] at hbm2; exact hbm2.cell 7
            have fl2 : w'.frozen? ⟨g, 7, none⟩ = false := hbm2.frozen 7
            have hmax : ∀ W, (Builtin.max_ #[3, 3] 3 #[.int .i64 (lg : Int), .int .i64 (s.size : Int)]).run Tryd.prog W = .ok (.int .i64 ((max lg s.size : Nat) : Int)) W := fun W => by
              rw [run_max_int2]; congr 2; split <;> omega
            have Hin := Lib.hid hin
            have Hst := Lib.hid hst
            have hOn : Only [g, mp] w (w'.setCell ⟨g, 7, none⟩ (.int .i64 ((max lg s.size : Nat) : Int))) := (hO.trans (hO'.mono (by simp))).setCell (.inl (by simp)) _
            have hbn : Blk (w'.setCell ⟨g, 7, none⟩ (.int .i64 ((max lg s.size : Nat) : Int))) g 111 (vs ++ [.int .i64 ((max lg s.size : Nat) : Int)]) := by
              have h := hbm2.set 7 (.int .i64 ((max lg s.size : Nat) : Int))
              rw [Hvs.out] at h ⊢
              exact h
            have hmn : ∀ gf : ByteArray → Option Int, gf s = some (i : Int) → (∀ a', a' ≠ s → gf a' = fs a') → MapIs seenTy (w'.setCell ⟨g, 7, none⟩ (.int .i64 ((max lg s.size : Nat) : Int))) mp (i + 1) gf := fun gf h1 h2 => (hst gf h1 h2).only (l := [g]) ((Only.refl [g] _).setCell (.inl (by simp)) _) (by simp; omega)
            have Hmn := Lib.hid hmn
            have Hbn := Lib.hid hbn
            have HOn := Lib.hid hOn
            clear hin hst hmn hbn hOn hO' hbm2
            go_wp2_with (fail)
            refine ⟨⟨i + 1, by go_num, by omega, ⟨⟨fun t => if t.data.toList = s.data.toList then some (i : Int) else fs t, Hmn.out _ (if_pos rfl) (fun a' ha' => if_neg (fun e => ha' (by apply ByteArray.ext; exact Array.toList_inj.1 e))), fun t => ?_⟩, ?_, HOn.out, ?_, ?_⟩⟩, by simp [intOf]; omega⟩
            · show (if t.data.toList = s.data.toList then some (i : Int) else fs t).isSome = inB t (ws.take (i + 1))
              rw [Htk.out, inB_snoc]
              by_cases ht : t.data.toList = s.data.toList
              · rw [if_pos ht, decide_eq_true ht, Bool.or_true]; rfl
              · rw [if_neg ht, decide_eq_false ht, Bool.or_false]; exact Hfs.out t
            · rw [Htk.out, lgF_snoc, ← Hlg.out]; exact Hbn.out
            · rw [Htk.out, ← Hw.out, if_neg (by omega), if_neg (by rw [Hin.out]; simp)]
            · rw [Htk.out, lgF_snoc, ← Hlg.out]; omega
    · obtain rfl : i = n := by omega
      obtain ⟨-, hbm, hO, hw, -⟩ := hrel
      have htk : ws.take i = ws := List.take_of_length_le (by rw [← Hn.out]; exact Nat.le_refl _)
      have hdr : ws.drop i = [] := List.drop_of_length_le (by rw [← Hn.out]; exact Nat.le_refl _)
      rw [hdr, wordsAt] at hw
      rw [htk] at hbm
      have hT2 : T = (0, 0) := by rw [HT.out, ← hw]
      have HT2 := Lib.hid hT2
      have Hbm := Lib.hid hbm
      clear hT2 hw htk hdr hbm
      go_wp2_with (fail)
      go_ret2
      have hO1 : Only [g] w wr := hO.mono (by simp; omega)
      refine ⟨by rw [HT2.out]; rfl, hO1, fun _ => ?_⟩
      have hb7 := Hbm.out
      rw [Hvs.out] at hb7
      exact ⟨hb7, H5.out.only hO1 (fun x hx => .inr (by
        obtain rfl : x = g := by simpa using hx
        exact ⟨_, _, .inl ⟨Hb.out, by decide, by decide, by decide⟩⟩)), Ht.out.only hO1 (fun x hx => .inr (by simp at hx; omega)), Hm.out.only hO1 (by simp; omega), hmq, hg, Hsm.out⟩
end Go.Proofs.YtgohinklnglgeaaDoor

set_option linter.unusedVariables false
set_option linter.unusedSimpArgs false
namespace Go.Proofs.YtgohinklnglgeaaDoor
open Go.RowKit

def partB (ids : List Int) (id : Int) : Bool := decide (0 ≤ id ∧ id < 256) || (decide (256 ≤ id) && ids.contains id)
/-- the row of what was made -/
structure MadeAt (w : World) (base : Nat) (A : Option Addr) (n : Nat) (ids : List Int) (mk : List Bool) : Prop where
  rd : Rd w base 1 A n (mk.map Value.bool)
  len : mk.length = n
  is_ : ∀ j, j < n → mk[j]? = some (ids.contains (256 + (j : Int)))
  rng : ∀ x ∈ ids, 256 ≤ x ∧ x < 256 + (n : Int)
theorem MadeAt.only {w w' : World} {base : Nat} {A : Option Addr} {n : Nat} {ids : List Int} {mk : List Bool} (h : MadeAt w base A n ids mk) {l : List Nat} (hO : Only l w w') (hl : ∀ ad, A = some ad → ad.block ∉ l) : MadeAt w' base A n ids mk :=
  ⟨h.rd.only' hO (fun ad e _ => hl ad e), h.len, h.is_, h.rng⟩
theorem MadeAt.cell {w : World} {base : Nat} {A : Option Addr} {n : Nat} {ids : List Int} {mk : List Bool} (h : MadeAt w base A n ids mk) {j : Nat} (hj : j < n) : ∃ g o, A = some ⟨g, o, none⟩ ∧ w.cell? ⟨g, o + j, none⟩ = some (.bool (ids.contains (256 + (j : Int)))) := by
  obtain ⟨g, o, rfl, _, _, hc⟩ := h.rd.addr (by omega)
  exact ⟨g, o, rfl, hc j _ (by rw [List.getElem?_map, h.is_ j hj]; rfl)⟩
theorem contains_far {ids : List Int} {n : Nat} (h : ∀ x ∈ ids, 256 ≤ x ∧ x < 256 + (n : Int)) {id : Int} (hid : 256 + (n : Int) ≤ id) : ids.contains id = false := by
  rw [Bool.eq_false_iff]
  intro e
  have := h id (List.contains_iff_mem.1 e); omega

set_option maxRecDepth 100000 in
set_option maxHeartbeats 4000000 in
theorem part_any (w : World) (base g : Nat) (ws : List ByteArray) (ms : List Mg) (a b d : List Sp) (N : Nat) (f : Int × Int → Option (Nat × Int)) (lg : Nat) (hM : MdAt w base g ws ms a b d N f lg) (bx b4 : Nat) (A : Option Addr) (c B n : Nat) (ids : List Int) (mk : List Bool) (hn : n = ws.length)
    (hbx : w.cell? ⟨bx, 0, none⟩ = some (.pointer (some ⟨g, 0, none⟩))) (hb4 : w.cell? ⟨b4, 0, none⟩ = some (.slice A n c)) (hmk : MadeAt w B A n ids mk) (id : Int) (hid : i64ok id) :
    Calls Tryd.prog 76 #[.int .i64 id, .pointer (some ⟨bx, 0, none⟩), .pointer (some ⟨b4, 0, none⟩)] w fun e w' => e = .returned (.bool (partB ids id)) ∧ w = w' := by
  have hsz := size_any w base g ws ms a b d N f lg hM
  have hs := hM.small.1
  rw [← hn] at hsz hs
  obtain ⟨sz, hsz2⟩ : ∃ sz, sz = 256 + n := ⟨_, rfl⟩
  rw [← hsz2] at hsz
  obtain ⟨V, hV⟩ : ∃ V, V = partB ids id := ⟨_, rfl⟩
  rw [← hV]
  unfold partB at hV
  unfold i64ok at hid
  have Hs2 := Lib.hid hsz2
  have Hsz := Lib.hid hsz
  have HV := Lib.hid hV
  have Hmk := Lib.hid hmk
  have Hn := Lib.hid hn
  clear hsz2 hsz hV hmk hM hn
  go_enter Tryd.func76, Tryd.ntmps76
  by_cases h0 : id < 0
  · have e1 : V = false := by rw [HV.out, decide_eq_false (by omega), decide_eq_false (by omega)]; rfl
    have E1 := Lib.hid e1
    have h1 : ¬ 0 ≤ id := by omega
    clear e1
    go_wp2_with (fail)
    go_ret
    exact ⟨ret_bool (by rw [E1.out]), rfl⟩
  · by_cases h1 : id < 256
    · have e1 : V = true := by rw [HV.out, decide_eq_true ⟨by omega, h1⟩]; rfl
      have E1 := Lib.hid e1
      have h2 : 0 ≤ id := by omega
      clear e1
      go_wp2_with (fail)
      go_ret
      exact ⟨ret_bool (by rw [E1.out]), rfl⟩
    · by_cases h2 : id < (sz : Int)
      · obtain ⟨j, hj⟩ : ∃ j : Nat, id - 256 = (j : Int) := ⟨(id - 256).toNat, by omega⟩
        have hjn : j < n := by have := Hs2.out; omega
        obtain ⟨gm, om, rfl, q⟩ := Hmk.out.cell hjn
        have hje : (256 : Int) + (j : Int) = id := by omega
        rw [hje] at q
        have e1 : V = ids.contains id := by rw [HV.out, decide_eq_false (by omega), decide_eq_true (by omega)]; simp
        obtain ⟨C, hC⟩ : ∃ C, C = ids.contains id := ⟨_, rfl⟩
        rw [← hC] at q e1
        have E1 := Lib.hid e1
        have h3 : 0 ≤ id := by omega
        have h4 : 256 ≤ id := by omega
        clear e1 hC hje
        go_wp2_with (fail)
        refine Hsz.out.mono ?_
        rintro e w1 ⟨rfl, rfl⟩
        go_wp2_with (fail)
        go_ret
        exact ⟨ret_bool (by rw [E1.out]), rfl⟩
      · have e1 : V = false := by rw [HV.out, decide_eq_false (by omega), contains_far Hmk.out.rng (by have := Hs2.out; omega)]; simp
        have E1 := Lib.hid e1
        have h3 : 0 ≤ id := by omega
        have h4 : 256 ≤ id := by omega
        clear e1
        go_wp2_with (fail)
        refine Hsz.out.mono ?_
        rintro e w1 ⟨rfl, rfl⟩
        go_wp2_with (fail)
        go_ret
        exact ⟨ret_bool (by rw [E1.out]), rfl⟩

/-! ### what is wrong with a merge -/
def lookM (i : Nat) : List Mg → Int × Int → Option (Nat × Int)
  | [], _ => none
  | m :: r, p => if (m.l, m.r) = p then some (i, m.id) else lookM (i + 1) r p
theorem lookM_snoc (m : Mg) (p : Int × Int) : ∀ (l : List Mg) (i : Nat), lookM i (l ++ [m]) p = match lookM i l p with | some x => some x | none => if (m.l, m.r) = p then some (i + l.length, m.id) else none
  | [], i => by simp [lookM]
  | x :: l, i => by
    rw [List.cons_append, lookM, lookM, lookM_snoc m p l (i + 1)]
    by_cases h : (x.l, x.r) = p
    · rw [if_pos h, if_pos h]
    · rw [if_neg h, if_neg h, List.length_cons, show i + 1 + l.length = i + (l.length + 1) by omega]
def idsOf (l : List Mg) : List Int := l.map Mg.id
def badId (ws : List ByteArray) (done : List Mg) (id : Int) : Bool := decide (id < 256 ∨ 256 + (ws.length : Int) ≤ id) || (idsOf done).contains id
/-- its place, why -/
def pairsAt (ws : List ByteArray) (done : List Mg) (i : Nat) : List Mg → Nat × Nat
  | [] => (0, 0)
  | m :: r => if badId ws done m.id = true then (i, 24) else if (partB (idsOf done) m.l && partB (idsOf done) m.r) = false then (i, 23)
    else if ¬ (wordB ws m.id).data.toList = (wordB ws m.l ++ wordB ws m.r).data.toList then (i, 25) else if (lookM 0 done (m.l, m.r)).isSome = true then (i, 22) else pairsAt ws (done ++ [m]) (i + 1) r
theorem idsOf_snoc (l : List Mg) (m : Mg) : idsOf (l ++ [m]) = idsOf l ++ [m.id] := by simp [idsOf]
theorem part_word {ws : List ByteArray} {ids : List Int} {n : Nat} (hn : n = ws.length) (hr : ∀ x ∈ ids, 256 ≤ x ∧ x < 256 + (n : Int)) {id : Int} (h : partB ids id = true) : 0 ≤ id ∧ id < 256 + (ws.length : Int) := by
  unfold partB at h
  rw [Bool.or_eq_true, Bool.and_eq_true] at h
  rcases h with h | ⟨_, h⟩
  · have := of_decide_eq_true h; omega
  · have := hr id (List.contains_iff_mem.1 h); omega
theorem wordB_size {ws : List ByteArray} (h : ∀ s ∈ ws, s.size ≤ 256) (id : Int) : (wordB ws id).size ≤ 256 := by
  unfold wordB
  by_cases h1 : 0 ≤ id ∧ id < 256
  · rw [if_pos h1, str_size]; simp
  · rw [if_neg h1]
    by_cases h2 : 256 ≤ id ∧ id < 256 + (ws.length : Int)
    · rw [if_pos h2, List.getD_eq_getElem?_getD]
      cases h3 : ws[(id - 256).toNat]? with
      | none => decide
      | some s => exact h s (List.mem_of_getElem? h3)
    · rw [if_neg h2]; decide
theorem words_small : ∀ (ws : List ByteArray) (seen : List ByteArray) (i : Nat), (wordsAt seen i ws).2 = 0 → ∀ s ∈ ws, 2 ≤ s.size ∧ s.size ≤ 256
  | [], _, _, _, s, hs => by cases hs
  | t :: ws, seen, i, h, s, hs => by
    rw [wordsAt] at h
    by_cases h1 : t.size < 2 ∨ 256 < t.size
    · rw [if_pos h1] at h; cases h
    · rw [if_neg h1] at h
      by_cases h2 : inB t seen = true
      · rw [if_pos h2] at h; cases h
      · rw [if_neg h2] at h
        rcases List.mem_cons.1 hs with rfl | hs
        · omega
        · exact words_small ws _ _ h s hs
end Go.Proofs.YtgohinklnglgeaaDoor
