/- strings.Builder: WriteRune. -/
import Derived.Test.YteadcibbpbbehaaDoorUtfI
import Derived.Test.YteadcibbpbbehaaDoorAp
import Derived.Lib.MapLaws
set_option linter.unusedVariables false
set_option linter.unusedSimpArgs false
namespace Go.Proofs.YteadcibbpbbehaaDoor
open Go.RowKit

theorem own_type {w : World} {base : Nat} {e : TypeId} {size : Nat} {v : Value} {n : Nat} {xs : List Value} (h : w.ownsRow base e size v n xs) {k : Nat} (hk : v.ownBlock = some k) {b : Nat} {t : TypeId} {cs : List Value} (hb : Blk w b t cs) (ht : t ≠ e) : b ≠ k := by
  rcases h.2 with ⟨rfl, _⟩ | ⟨g, cap, cur, rfl, _, hg, _⟩
  · simp [Value.ownBlock] at hk
  · have hgk : g = k := by simpa [Value.ownBlock] using hk
    subst hgk
    exact hb.ne (cs' := cur.toList) (Blk.mk' hg rfl) ht
/-- a builder in a box of the call's own -/
def BldAt (w : World) (g : Nat) (l : List UInt8) : Prop := ∃ p A c, Blk w g 62 [.pointer p, .slice A l.length c] ∧ (p = none ∨ p = some ⟨g, 0, none⟩) ∧ w.ownsRow (g + 1) 5 1 (.slice A l.length c) l.length (bvs l)

set_option maxRecDepth 100000 in
set_option maxHeartbeats 2000000 in
theorem copyCheck_any (w : World) (g : Nat) (p : Option Addr) (v : Value) (hb : Blk w g 62 [.pointer p, v]) (hp : p = none ∨ p = some ⟨g, 0, none⟩) :
    Calls Tryd.prog 45 #[.pointer (some ⟨g, 0, none⟩)] w fun e w' => e = .returned (.tuple #[]) ∧ Blk w' g 62 [.pointer (some ⟨g, 0, none⟩), v] ∧ Only [g] w w' := by
  have c0 : w.cell? ⟨g, 0, none⟩ = some (.pointer p) := hb.cell 0
  have z0 : w.frozen? ⟨g, 0, none⟩ = false := hb.frozen 0
  have hjm : (Tryd.prog.info? 62).map (·.size) = some 2 := by kernel_rfl
  obtain ⟨j, hj, hjs⟩ := Option.map_eq_some_iff.1 hjm
  have hsh : w.shape? g = some (62, 2) := by
    have h : w.heap[g]? = some (.cells #[.pointer p, v] 62 (0, 0)) := hb
    simp [World.shape?, h]
  rcases hp with rfl | rfl
  · go_enter Tryd.func45, Tryd.ntmps45
    go_wp2
    rw [Lib.run_to_unsafe w ⟨g, 0, none⟩ Tryd.underlying60 Tryd.underlying86 hj (by rw [hjs]; decide) hsh (Nat.zero_lt_succ 1)]
    simp only [Result.andThen]
    rw [Oper.upon_value]
    go_wp2
    rw [run_callFunc_extern Tryd.func50 (by kernel_rfl) (by kernel_rfl) (by kernel_rfl) (e := Extern.AbiNoEscape.same) (by kernel_rfl)]
    rw [Lib.run_noEscape]
    simp only [Result.andThen]
    rw [Oper.upon_value]
    go_wp2
    rw [Lib.run_from_unsafe w ⟨g, 0, none⟩ Tryd.underlying86 Tryd.underlying60 hj hsh (by kernel_rfl)]
    simp only [Result.andThen]
    rw [Oper.upon_value]
    go_wp2
    go_end0
    exact ⟨rfl, hb.set 0 _, (Only.refl _ _).setCell (.inl (by simp)) _⟩
  · go_enter Tryd.func45, Tryd.ntmps45
    go_wp2
    rw [Lib.run_neq_ptr_same w _ Tryd.underlying60 hj]
    go_wp2
    go_end0
    exact ⟨rfl, hb, .refl _ _⟩

theorem runeCells_bvs (r : Nat) : Lib.runeCells (r : Int) = bvs (Lib.encodeRune (r : Int)) := by
  have h : ∀ x ∈ Lib.encodeRuneZ (r : Int), 0 ≤ x ∧ x ≤ 255 := by
    intro x hx
    unfold Lib.encodeRuneZ at hx
    (repeat' split at hx) <;> simp at hx <;> omega
  unfold Lib.runeCells Lib.encodeRune bvs
  rw [List.map_map]
  apply List.map_congr_left
  intro x hx
  have := h x hx
  simp [bv]
  omega

set_option maxRecDepth 100000 in
set_option maxHeartbeats 2000000 in
theorem writeRune_any (w : World) (g : Nat) (l : List UInt8) (h : BldAt w g l) (r : Nat) (hr : r ≤ 2147483647) (hl : l.length + 4 ≤ 140737488355328) :
    Calls Tryd.prog 35 #[.pointer (some ⟨g, 0, none⟩), .int .i32 (r : Int)] w fun e w' => (∃ v, e = .returned v) ∧ BldAt w' g (l ++ Lib.encodeRune (r : Int)) ∧ (∀ w0, Only [] w0 w → w0.heap.size ≤ g → Only [] w0 w') ∧ (∀ b t cs, Blk w b t cs → t ≠ 62 → t ≠ 5 → Blk w' b t cs) := by
  obtain ⟨p, A, c, hb, hp, hown⟩ := h
  have hb0 := hb
  go_enter Tryd.func35, Tryd.ntmps35
  go_wp2_with (fail)
  refine (copyCheck_any w g p _ hb hp).mono ?_
  rintro e w1 ⟨rfl, hb1, hO1⟩
  have hown1 := own_only hown hO1 (by
    intro k hk hm
    have := (own_lt hown hk).1
    simp at hm; omega)
  have c1 : w1.cell? ⟨g, 1, none⟩ = some (.slice A l.length c) := hb1.cell 1
  have hgl := hb1.lt
  go_wp2_with (fail)
  refine (Tryd.utf8_AppendRune_plain (g + 1) _ l.length (bvs l) r (by omega) (by omega) w1 hown1 hl (by omega)).mono ?_
  rintro e w2 ⟨v', rfl, hown2, o, hgrow⟩
  rw [runeCells_bvs, bvs_append, bvs_length] at hown2
  have hOg : Only (Value.slice A l.length c).ownBlock.toList w1 w2 := ((Only.refl _ _).alloc o).grown hgrow (fun k hk => .inl (by simp [hk]))
  have hgn : g ∉ (Value.slice A l.length c).ownBlock.toList := by
    intro hm
    have := (own_lt hown1 (by simpa using hm)).1; omega
  have hb2 := hb1.only hOg hgn
  obtain ⟨A2, c2, rfl, _⟩ := own_slice hown2
  have e0 : w2.cell? ⟨g, 0, none⟩ = some (.pointer (some ⟨g, 0, none⟩)) := hb2.cell 0
  have e1 : w2.cell? ⟨g, 1, none⟩ = some (.slice A l.length c) := hb2.cell 1
  have z1 : w2.frozen? ⟨g, 1, none⟩ = false := hb2.frozen 1
  obtain ⟨m, hm⟩ : ∃ m, m = l.length + (Lib.encodeRune (r : Int)).length := ⟨_, rfl⟩
  rw [← hm] at hown2 ⊢
  have Hm := Lib.hid hm
  have hml : l.length ≤ m := by omega
  have hmx : m ≤ 140737488355328 := by
    have := (Lib.runeCells_le (r : Int)).2
    rw [Lib.runeCells_length] at this
    omega
  clear c1 hm
  go_wp2_with (fail)
  go_ret2
  have hb3 := hb2.set 1 (.slice A2 m c2)
  have hOs : Only [g] w2 (w2.setCell ⟨g, 1, none⟩ (.slice A2 m c2)) := (Only.refl _ _).setCell (.inl (by simp)) _
  have hlen : m = (l ++ Lib.encodeRune (r : Int)).length := by rw [List.length_append]; exact Hm.out
  refine ⟨⟨_, rfl⟩, ⟨some ⟨g, 0, none⟩, A2, c2, by rw [← hlen]; exact hb3, .inr rfl, ?_⟩, ?_, ?_⟩
  · rw [← hlen]
    exact own_only hown2 hOs (by
      intro k hk hm
      have := (own_lt hown2 hk).1
      simp at hm; omega)
  · intro w0 h0 hg
    refine ((h0.trans' hO1 (by intro x hx; simp at hx; omega)).trans' hOg ?_).trans' hOs (by intro x hx; simp at hx; omega)
    intro x hx
    exact .inr (by have := (own_lt hown1 (by simpa using hx)).1; omega)
  · intro b t cs hB h1 h2
    have n1 : b ≠ g := hB.ne hb0 h1
    have hB1 := hB.only hO1 (by simp [n1])
    have hB2 := hB1.only hOg (by
      intro hm
      exact own_type hown1 (by simpa using hm) hB1 h2 rfl)
    exact hB2.only hOs (by simp [n1])
end Go.Proofs.YteadcibbpbbehaaDoor
