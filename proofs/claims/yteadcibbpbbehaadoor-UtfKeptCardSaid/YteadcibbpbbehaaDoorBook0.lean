/- Rows of the call's own that may begin within their block; a book of lists: over any program. -/
import Derived.Test.YteadcibbpbbehaaDoorApStep
import Derived.Test.YteadcibbpbbehaaDoorTo
import Derived.ArgAppend
set_option linter.unusedVariables false
set_option linter.unusedSimpArgs false
namespace Go.Proofs.YteadcibbpbbehaaDoor
open Go.RowKit

/-- a slice whose places (one cell each), its spare room too, lie in a block of the call's own -/
def OwnS (w : World) (base : Nat) (e : TypeId) (v : Value) (xs : List Value) : Prop :=
  (v = .slice none 0 0 ∧ xs = []) ∨ ∃ g o cap cs, v = .slice (some ⟨g, o, none⟩) xs.length cap ∧ base ≤ g ∧ Blk w g e cs ∧ o + cap ≤ cs.length ∧ xs.length ≤ cap ∧ cap ≤ maxLen ∧ (cs.drop o).take xs.length = xs

theorem OwnS.nil (w : World) (base : Nat) (e : TypeId) : OwnS w base e (.slice none 0 0) [] := .inl ⟨rfl, rfl⟩
theorem OwnS.of_own {w : World} {base : Nat} {e : TypeId} {v : Value} {n : Nat} {xs : List Value} (h : w.ownsRow base e 1 v n xs) : OwnS w base e v xs := by
  have hl : xs.length = n := by have := h.1; omega
  rcases h.2 with ⟨hv, h0⟩ | ⟨g, cap, cur, hv, hb, hg, hnc, hcm, hcs, htake⟩
  · subst h0
    exact .inl ⟨hv, List.eq_nil_of_length_eq_zero hl⟩
  · refine .inr ⟨g, 0, cap, cur.toList, by rw [hl]; exact hv, hb, Blk.mk' hg rfl, by rw [Array.length_toList, hcs]; omega, by omega, hcm, ?_⟩
    rw [List.drop_zero, hl]
    rwa [Nat.mul_one] at htake
theorem OwnS.only {w w' : World} {base : Nat} {e : TypeId} {v : Value} {xs : List Value} (h : OwnS w base e v xs) {l : List Nat} (ho : Only l w w') (hl : ∀ k, v.ownBlock = some k → k ∉ l) : OwnS w' base e v xs := by
  rcases h with h | ⟨g, o, cap, cs, rfl, hb, hg, r⟩
  · exact .inl h
  · exact .inr ⟨g, o, cap, cs, rfl, hb, hg.only ho (hl g rfl), r⟩
theorem OwnS.lt {w : World} {base : Nat} {e : TypeId} {v : Value} {xs : List Value} (h : OwnS w base e v xs) {k : Nat} (hk : v.ownBlock = some k) : base ≤ k ∧ k < w.heap.size := by
  rcases h with ⟨rfl, _⟩ | ⟨g, o, cap, cs, rfl, hb, hg, _⟩
  · simp [Value.ownBlock] at hk
  · simp [Value.ownBlock] at hk; subst hk; exact ⟨hb, hg.lt⟩
theorem OwnS.form {w : World} {base : Nat} {e : TypeId} {v : Value} {xs : List Value} (h : OwnS w base e v xs) : ∃ A c, v = .slice A xs.length c ∧ xs.length ≤ c ∧ Rd w w.heap.size 1 A xs.length xs ∧ ∀ ad, A = some ad → v.ownBlock = some ad.block := by
  rcases h with ⟨rfl, rfl⟩ | ⟨g, o, cap, cs, rfl, hb, hg, hoc, hnc, hcm, ht⟩
  · exact ⟨none, 0, rfl, by simp, Rd.zero _ _ _ _, by simp⟩
  · refine ⟨_, cap, rfl, hnc, ?_, by intro ad e; injection e with e; subst e; rfl⟩
    have := Rd.of_blk (n := xs.length) (size := 1) hg hg.lt (o := o) (by omega)
    rwa [Nat.mul_one, ht] at this

/-- one element more: in place, or in a new block -/
theorem run_append_own1 {P : Program} {w : World} (base t ty e : Nat) (z : Value) (bytes : Nat) (ht : P.underlying t = some (.slice e)) (hinfo : (P.info? e).map (fun i => (i.zero, i.size, i.bytes)) = some (some z, 1, bytes))
    (hzs : z.cells.size = 1) {v : Value} {xs : List Value} (h : OwnS w base e v xs) {B : Nat} {X : Option Addr} (c : Nat) {u : Value} (hy : Rd w B 1 X 1 [u]) (h1 : u.oneCell' = true)
    (h63 : xs.length + 1 ≤ maxLen) (hbytes : (xs.length + 1) * bytes ≤ 140737488355328) (hbase : base ≤ w.heap.size) :
    ∃ v' w', (Builtin.append_ #[t, t] ty #[v, .slice X 1 c]).run P w = .ok v' w' ∧ OwnS w' base e v' (xs ++ [u]) ∧ Only v.ownBlock.toList w w' ∧ (v'.ownBlock = v.ownBlock ∨ v'.ownBlock = some w.heap.size) := by
  have hu1 : ∀ x ∈ [u], x.oneCell' = true := by intro x hx; simp at hx; subst hx; exact h1
  rcases h with ⟨rfl, rfl⟩ | ⟨g, o, cap, cs, rfl, hb, hg, hoc, hnc, hcm, htk⟩
  · obtain ⟨v', w', g1, g2, g3, g4, _⟩ := run_append_row (P := P) (w := w) base t ty e z 1 bytes ht hinfo hzs (by omega) (v := .slice none 0 0) (n := 0) (xs := []) ⟨rfl, .inl ⟨rfl, rfl⟩⟩ c hy hu1 (by simpa using h63) (by simpa using hbytes) hbase
    exact ⟨v', w', g1, OwnS.of_own g2, g3, g4⟩
  · have hx : Rd w w.heap.size 1 (some ⟨g, o, none⟩) xs.length xs := by
      have := Rd.of_blk (n := xs.length) (size := 1) hg hg.lt (o := o) (by omega)
      rwa [Nat.mul_one, htk] at this
    by_cases hroom : xs.length + 1 ≤ cap
    · obtain ⟨i, hi, hz, hs, hb'⟩ := info_parts hinfo
      obtain ⟨ad, rfl, _, _, _, hcy⟩ := hy.2 (by omega)
      have hlt : o + xs.length < cs.length := by omega
      have hr := run_append_room_cells (P := P) w t ty e i ht hi g o xs.length cap ad 1 c [u] (by rw [hs]; rfl) hcy hu1 hroom
        (by intro j hj; simp at hj; subst hj; rw [hs, Nat.mul_one, Nat.add_zero, hg.cell]; simp [hlt])
        (by intro j hj; exact hg.frozen _)
      refine ⟨_, _, hr, ?_, ?_, .inl rfl⟩
      · rw [hs, Nat.mul_one]
        refine .inr ⟨g, o, cap, cs.set (o + xs.length) u, by simp, hb, hg.set _ _, by simpa using hoc, by simpa using hroom, hcm, ?_⟩
        rw [List.length_append, List.drop_set, if_neg (by omega), show o + xs.length - o = xs.length by omega]
        show ((cs.drop o).set xs.length u).take (xs.length + 1) = xs ++ [u]
        rw [List.take_add_one, List.take_set_of_le (by omega), htk, List.getElem?_set_self (by rw [List.length_drop]; omega)]
        rfl
      · rw [hs, Nat.mul_one]
        exact (Only.refl _ w).setCell (.inl (by simp [Value.ownBlock])) u
    · obtain ⟨cap', w', g1, g2, g3⟩ := run_append_new (P := P) (w := w) t ty e z 1 bytes ht hinfo hzs (by omega) hx (c := cap) (m := 1) (by omega) (by simp) c hy (by omega) hbytes h63
      exact ⟨_, w', g1, OwnS.of_own (own_base g2 hbase), g3.mono (by simp), .inr rfl⟩

/-- the same at a plain region's list, and at a step of a region that draws its order -/
theorem wpList_append_own1 {P : Program} {w : World} {ops : Array Oper} {rest : List Oper} {o : Oper} {a : Act} {Q : Exit → Act → World → Prop} (hgd : o.guard = none) (s x : Operand) (t : TypeId)
    (ho : o.op = .call { callee := .builtin .append, args := #[s, x], argTypes := #[t, t] }) (base e : Nat) (z : Value) (bytes : Nat) (ht : P.underlying t = some (.slice e)) (hinfo : (P.info? e).map (fun i => (i.zero, i.size, i.bytes)) = some (some z, 1, bytes))
    (hzs : z.cells.size = 1) {v : Value} {xs : List Value} (hs : a.eval s = v) (h : OwnS w base e v xs) {B : Nat} {X : Option Addr} (c : Nat) {u : Value} (hx : a.eval x = .slice X 1 c) (hy : Rd w B 1 X 1 [u]) (h1 : u.oneCell' = true)
    (h63 : xs.length + 1 ≤ maxLen) (hbytes : (xs.length + 1) * bytes ≤ 140737488355328) (hbase : base ≤ w.heap.size)
    (hk : ∀ v' w', OwnS w' base e v' (xs ++ [u]) → Only v.ownBlock.toList w w' → (v'.ownBlock = v.ownBlock ∨ v'.ownBlock = some w.heap.size) → wpList P ops Q rest (a.put o.dst v') w') : wpList P ops Q (o :: rest) a w := by
  obtain ⟨v', w', hr, g1, g2, g3⟩ := run_append_own1 (P := P) (w := w) base t o.type e z bytes ht hinfo hzs h c hy h1 h63 hbytes hbase
  exact wpList_append_run hgd s x t t ho hs hx hr (hk v' w' g1 g2 g3)
theorem step_append_own1 {P : Program} {w : World} {ops : Array Oper} {o : Oper} {a : Act} {K : Act → World → Prop} {Q : Exit → Act → World → Prop} {E : Prop} (hgd : o.guard = none) (s x : Operand) (t : TypeId)
    (ho : o.op = .call { callee := .builtin .append, args := #[s, x], argTypes := #[t, t] }) (base e : Nat) (z : Value) (bytes : Nat) (ht : P.underlying t = some (.slice e)) (hinfo : (P.info? e).map (fun i => (i.zero, i.size, i.bytes)) = some (some z, 1, bytes))
    (hzs : z.cells.size = 1) {v : Value} {xs : List Value} (hs : a.eval s = v) (h : OwnS w base e v xs) {B : Nat} {X : Option Addr} (c : Nat) {u : Value} (hx : a.eval x = .slice X 1 c) (hy : Rd w B 1 X 1 [u]) (h1 : u.oneCell' = true)
    (h63 : xs.length + 1 ≤ maxLen) (hbytes : (xs.length + 1) * bytes ≤ 140737488355328) (hbase : base ≤ w.heap.size)
    (hk : ∀ v' w', OwnS w' base e v' (xs ++ [u]) → Only v.ownBlock.toList w w' → (v'.ownBlock = v.ownBlock ∨ v'.ownBlock = some w.heap.size) → K (a.put o.dst v') w') :
    if Region.wanted o (yielded ops a.tmps) = true then Oper.wp P o a w K Q else E := by
  have hw : Region.wanted o (yielded ops a.tmps) = true := by simp [Region.wanted, hgd]
  rw [if_pos hw]
  obtain ⟨v', w', hr, g1, g2, g3⟩ := run_append_own1 (P := P) (w := w) base t o.type e z bytes ht hinfo hzs h c hy h1 h63 hbytes hbase
  exact wp_append_run s x t t ho hs hx hr (hk v' w' g1 g2 g3)

/-- 's[i]', and in which block -/
theorem OwnS.index {P : Program} {w : World} {base t e : Nat} {v : Value} {xs : List Value} (ht : P.underlying t = some (.slice e)) (hsz : (P.info? e).map (·.size) = some 1) (h : OwnS w base e v xs) {i : Nat} (hi : i < xs.length) :
    ∃ g o, v.ownBlock = some g ∧ (∀ (q : IntKind) (W : World), (Instr.indexAt t v (.int q (i : Int))).run P W = .ok (.pointer (some ⟨g, o, none⟩)) W) ∧ w.cell? ⟨g, o, none⟩ = xs[i]? := by
  rcases h with ⟨_, rfl⟩ | ⟨g, o, cap, cs, rfl, hb, hg, hoc, hnc, hcm, htk⟩
  · simp at hi
  · refine ⟨g, o + i, rfl, fun q W => ?_, ?_⟩
    · cases hin : P.info? e with
      | none => simp [hin] at hsz
      | some j =>
        have hs : j.size = 1 := by simpa [hin] using hsz
        simp [Instr.indexAt, run_underlying ht, asIntOf, sizeOf, typeInfo, hin, hs, hi, add_lit]
    · rw [hg.cell, ← htk, List.getElem?_take, if_pos hi, List.getElem?_drop]

/-- 's[1:]' -/
theorem OwnS.tail {P : Program} {w : World} {base t e : Nat} {v u : Value} {xs : List Value} (ht : P.underlying t = some (.slice e)) (hsz : (P.info? e).map (·.size) = some 1) (h : OwnS w base e v (u :: xs)) :
    ∃ v', (∀ (q : IntKind) (W : World), (Instr.slice t v (some (.int q 1)) none none).run P W = .ok v' W) ∧ OwnS w base e v' xs ∧ v'.ownBlock = v.ownBlock := by
  rcases h with ⟨_, h0⟩ | ⟨g, o, cap, cs, rfl, hb, hg, hoc, hnc, hcm, htk⟩
  · cases h0
  · cases hi : P.info? e with
    | none => simp [hi] at hsz
    | some i =>
      have hs : i.size = 1 := by simpa [hi] using hsz
      have hn : xs.length + 1 ≤ cap := by simpa using hnc
      have hxs : (cs.drop (o + 1)).take xs.length = xs := by
        have := congrArg (List.drop 1) htk
        rw [List.drop_take, List.drop_drop] at this
        simpa using this
      refine ⟨.slice (if cap = 1 then some ⟨g, o, none⟩ else some ⟨g, o + 1, none⟩) xs.length (cap - 1), fun q W => ?_, ?_, ?_⟩
      · have h2 := run_sliceBound (P := P) W q 1 (xs.length + 1) .sliceB (by omega) (by omega)
        by_cases hc : cap = 1
        · subst hc; simp [Instr.slice, run_underlying ht, Instr.sliceBounds, run_sliceBound, sizeOf, typeInfo, hi, hs, h2]
        · simp [Instr.slice, run_underlying ht, Instr.sliceBounds, run_sliceBound, sizeOf, typeInfo, hi, hs, h2, hc, add_lit]
      · by_cases hc : cap = 1
        · subst hc
          have h0 : xs = [] := List.eq_nil_of_length_eq_zero (by omega)
          subst h0
          exact .inr ⟨g, o, 0, cs, rfl, hb, hg, by omega, by simp, by simp [maxLen], rfl⟩
        · rw [if_neg hc]
          exact .inr ⟨g, o + 1, cap - 1, cs, rfl, hb, hg, by omega, by omega, by omega, hxs⟩
      · by_cases hc : cap = 1 <;> simp [hc, Value.ownBlock]
end Go.Proofs.YteadcibbpbbehaaDoor
