/- append in the words of XWd: onto a row of the call's own, and onto a slice that must grow. Over any program. -/
import Derived.Test.YtodgllnmepnpfaaDoorWd
set_option linter.unusedVariables false
set_option linter.unusedSimpArgs false
namespace Go.Proofs.YtodgllnmepnpfaaDoor
open Go.RowKit

/-- the call of append by its run: an arm behind 'at_builtin' -/
theorem wp_append_run {P : Program} {w : World} {o : Oper} {a : Act} {K : Act → World → Prop} {Q : Exit → Act → World → Prop} (s x : Operand) (t u : TypeId)
    (ho : o.op = .call { callee := .builtin .append, args := #[s, x], argTypes := #[t, u] }) {v1 v2 : Value} (hs : a.eval s = v1) (hx : a.eval x = v2) {v' : Value} {w' : World}
    (hrun : (Builtin.append_ #[t, u] o.type #[v1, v2]).run P w = .ok v' w') (h : K (a.put o.dst v') w') : o.wp P a w K Q := by
  unfold Oper.wp execOp
  simp only [ho, resolve, invoke, builtin, Sem.run_bind, Sem.run_pure, Result.andThen_ok, List.map_toArray, List.map_cons, List.map_nil, hs, hx, hrun]
  exact h
theorem wpList_append_run {P : Program} {w : World} {ops : Array Oper} {rest : List Oper} {o : Oper} {a : Act} {Q : Exit → Act → World → Prop} (hgd : o.guard = none) (s x : Operand) (t u : TypeId)
    (ho : o.op = .call { callee := .builtin .append, args := #[s, x], argTypes := #[t, u] }) {v1 v2 : Value} (hs : a.eval s = v1) (hx : a.eval x = v2) {v' : Value} {w' : World}
    (hrun : (Builtin.append_ #[t, u] o.type #[v1, v2]).run P w = .ok v' w') (h : wpList P ops Q rest (a.put o.dst v') w') : wpList P ops Q (o :: rest) a w :=
  wpList_plain hgd fun _ hK => wp_append_run s x t u ho hs hx hrun (hK _ _ h)

section
variable {P : Program} {w : World}

theorem own_shape {base : Nat} {e : TypeId} {size : Nat} {v : Value} {n : Nat} {xs : List Value} (h : w.ownsRow base e size v n xs) (hn : 0 < n) :
    ∃ g cap sp, v = .slice (some ⟨g, 0, none⟩) n cap ∧ base ≤ g ∧ Blk w g e (xs ++ sp) ∧ sp.length = (cap - n) * size ∧ n ≤ cap ∧ cap ≤ maxLen := by
  rcases h.2 with ⟨_, h0⟩ | ⟨g, cap, cur, hv, hb, hg, hnc, hcm, hcs, htake⟩
  · omega
  · refine ⟨g, cap, cur.toList.drop (n * size), hv, hb, Blk.mk' hg ?_, ?_, hnc, hcm⟩
    · rw [← htake, List.take_append_drop]
    · rw [List.length_drop, Array.length_toList, hcs, Nat.sub_mul]
theorem own_of_blk {base g n cap size : Nat} {e : TypeId} {xs sp : List Value} (h : Blk w g e (xs ++ sp)) (hb : base ≤ g) (hx : xs.length = n * size) (hs : sp.length = (cap - n) * size) (hnc : n ≤ cap) (hcm : cap ≤ maxLen) :
    w.ownsRow base e size (.slice (some ⟨g, 0, none⟩) n cap) n xs :=
  ⟨hx, .inr ⟨g, cap, _, rfl, hb, h, hnc, hcm, by
    rw [List.size_toArray, List.length_append, hx, hs, ← Nat.add_mul]; congr 1; omega, by
    rw [← hx]; simp⟩⟩
theorem own_only {base : Nat} {e : TypeId} {size : Nat} {v : Value} {n : Nat} {xs : List Value} (h : w.ownsRow base e size v n xs) {l : List Nat} {w' : World} (ho : Only l w w') (hl : ∀ k, v.ownBlock = some k → k ∉ l) : w'.ownsRow base e size v n xs := by
  refine ⟨h.1, ?_⟩
  rcases h.2 with hn | ⟨g, cap, cur, rfl, hb, hgg, rest⟩
  · exact .inl hn
  · exact .inr ⟨g, cap, cur, rfl, hb, (ho.block g (Array.getElem?_eq_some_iff.1 hgg).1 (hl g rfl)).trans hgg, rest⟩
theorem own_base {base base' : Nat} {e : TypeId} {size : Nat} {v : Value} {n : Nat} {xs : List Value} (h : w.ownsRow base e size v n xs) (hb : base' ≤ base) : w.ownsRow base' e size v n xs := by
  refine ⟨h.1, ?_⟩
  rcases h.2 with hn | ⟨g, cap, cur, rfl, hb', r⟩
  · exact .inl hn
  · exact .inr ⟨g, cap, cur, rfl, by omega, r⟩
theorem own_lt {base : Nat} {e : TypeId} {size : Nat} {v : Value} {n : Nat} {xs : List Value} (h : w.ownsRow base e size v n xs) {k : Nat} (hk : v.ownBlock = some k) : base ≤ k ∧ k < w.heap.size := h.lt k hk
theorem own_slice {base : Nat} {e : TypeId} {size : Nat} {v : Value} {n : Nat} {xs : List Value} (h : w.ownsRow base e size v n xs) : ∃ A c, v = .slice A n c ∧ n ≤ c ∧ Rd w w.heap.size size A n xs ∧ (∀ ad, A = some ad → v.ownBlock = some ad.block ∧ base ≤ ad.block) := by
  rcases h.2 with ⟨hv, h0⟩ | ⟨g, cap, cur, hv, hb, hg, hnc, _⟩
  · subst h0
    refine ⟨none, 0, hv, by omega, ?_, by simp⟩
    have : xs = [] := List.eq_nil_of_length_eq_zero (by have := h.1; omega)
    subst this
    exact Rd.zero _ _ _ _
  · refine ⟨_, cap, hv, hnc, ?_, ?_⟩
    · rw [hv] at h; exact Rd.of_own h
    · intro ad e; injection e with e; subst e; subst hv; exact ⟨rfl, hb⟩

/-- '[]T{}' owns nothing -/
theorem own_empty (w : World) (base : Nat) (e : TypeId) (size : Nat) {g : Nat} (hg : w.heap.size = g) (hb : base ≤ g) : (w.alloc (.cells #[] e)).ownsRow base e size (.slice (some ⟨g, 0, none⟩) 0 0) 0 [] :=
  own_of_blk (xs := []) (sp := []) (by simpa using Blk.new' w e #[] hg rfl) hb (by simp) (by simp) (by omega) (by omega)

/-- 'append(v, x...)', v the call's own (or nil): from whatever slice -/
theorem run_append_row (base t ty e : Nat) (z : Value) (size bytes : Nat) (ht : P.underlying t = some (.slice e)) (hinfo : (P.info? e).map (fun i => (i.zero, i.size, i.bytes)) = some (some z, size, bytes))
    (hzs : z.cells.size = size) (hsz : 0 < size) {v : Value} {n : Nat} {xs : List Value} (hown : w.ownsRow base e size v n xs)
    {B : Nat} {X : Option Addr} {m : Nat} (c : Nat) {ys : List Value} (hy : Rd w B size X m ys) (h1 : ∀ u ∈ ys, u.oneCell' = true) (h63 : n + m ≤ maxLen) (hbytes : (n + m) * bytes ≤ 140737488355328) (hbase : base ≤ w.heap.size) :
    ∃ v' w', (Builtin.append_ #[t, t] ty #[v, .slice X m c]).run P w = .ok v' w' ∧ w'.ownsRow base e size v' (n + m) (xs ++ ys) ∧ Only v.ownBlock.toList w w' ∧ (v'.ownBlock = v.ownBlock ∨ v'.ownBlock = some w.heap.size) ∧ (v' = .slice none 0 0 ↔ v = .slice none 0 0 ∧ m = 0) := by
  obtain ⟨i, hi, hz, hs, hb⟩ := info_parts hinfo
  have hgr : ∀ {w' : World} {row : Option Nat}, w.grownBy w' row → Only row.toList w w' := fun hg =>
    (Only.refl _ w).grown hg (fun k hk => .inl (by simp [hk]))
  cases X with
  | none =>
    have h0 : m = 0 := by
      rcases Nat.eq_zero_or_pos m with h0 | h0
      · exact h0
      · obtain ⟨ad, e, _⟩ := hy.2 h0
        cases e
    subst h0
    obtain rfl : ys = [] := List.eq_nil_of_length_eq_zero (by have := hy.1; omega)
    have hr : (Builtin.append_ #[t, t] ty #[v, .slice none 0 c]).run P w = .ok v w := by
      rcases hown.2 with ⟨rfl, rfl⟩ | ⟨g, cap, cur, rfl, _, _, hnc, _⟩
      · simp [Builtin.append_, run_underlying ht, sizeOf, typeInfo, hi, Builtin.lenOf, Builtin.firstCells]
      · simp [Builtin.append_, run_underlying ht, sizeOf, typeInfo, hi, Builtin.lenOf, Builtin.firstCells, hnc, storeCells]
    exact ⟨v, w, hr, by simpa using hown, Only.refl _ _, .inl rfl, by simp⟩
  | some ad =>
    have hc : ∀ j u, ys[j]? = some u → w.cell? (ad.add j) = some u := by
      intro j u hu
      rcases Nat.eq_zero_or_pos m with h0 | h0
      · obtain rfl : ys = [] := List.eq_nil_of_length_eq_zero (by have := hy.1; rw [h0] at this; omega)
        simp at hu
      · obtain ⟨ad', e, _, _, _, hc⟩ := hy.2 h0
        injection e with e
        subst e
        exact hc j u hu
    obtain ⟨v', w', hr, ho, hg, hnil, hat⟩ := run_append_own_at (P := P) w base t ty e i z size bytes ht hi hz hs hb hzs hsz v n xs hown ad m c ys hy.1 hc h1 h63 hbytes hbase
    exact ⟨v', w', hr, ho, hgr hg, hat, hnil⟩
/-- the same from a string -/
theorem run_append_row_str (base t u ty e : Nat) (ht : P.underlying t = some (.slice e)) (hu : P.underlying u = some .string) (hinfo : (P.info? e).map (fun i => (i.zero, i.size, i.bytes)) = some (some (.int .u8 0), 1, 1))
    {v : Value} {n : Nat} {l : List UInt8} (hown : w.ownsRow base e 1 v n (bvs l)) (s : ByteArray) (hbytes : n + s.size ≤ 140737488355328) (hbase : base ≤ w.heap.size) :
    ∃ v' w', (Builtin.append_ #[t, u] ty #[v, .string s]).run P w = .ok v' w' ∧ w'.ownsRow base e 1 v' (n + s.size) (bvs (l ++ s.data.toList)) ∧ Only v.ownBlock.toList w w' ∧ (v' = .slice none 0 0 ↔ v = .slice none 0 0 ∧ s.size = 0) := by
  obtain ⟨i, hi, hz, hs, hb⟩ := info_parts hinfo
  obtain ⟨v', w', hr, ho, hg, hnil⟩ := Lib.run_append_own_string (P := P) w base t u ty e i ht hu hi hz hs hb v n (bvs l) hown s (by simp only [maxLen]; omega) hbytes hbase
  refine ⟨v', w', hr, ?_, (Only.refl _ w).grown hg (fun k hk => .inl (by simp [hk])), hnil⟩
  rw [← bvs_append]
  exact ho

/-- 'append(x[:n:n], y...)': new memory, whatever x -/
theorem run_append_new (t ty e : Nat) (z : Value) (size bytes : Nat) (ht : P.underlying t = some (.slice e)) (hinfo : (P.info? e).map (fun i => (i.zero, i.size, i.bytes)) = some (some z, size, bytes))
    (hzs : z.cells.size = size) (hsz : 0 < size) {A : Option Addr} {n c m : Nat} {xs : List Value} {B0 : Nat} (hx : Rd w B0 size A n xs) (hc : c < n + m) (hAc : A = none → c = 0)
    {B : Nat} {X : Option Addr} (c2 : Nat) {ys : List Value} (hy : Rd w B size X m ys) (hm : 0 < m) (hbytes : (n + m) * bytes ≤ 140737488355328) (h63 : n + m ≤ maxLen) :
    ∃ cap w', (Builtin.append_ #[t, t] ty #[.slice A n c, .slice X m c2]).run P w = .ok (.slice (some ⟨w.heap.size, 0, none⟩) (n + m) cap) w' ∧ w'.ownsRow w.heap.size e size (.slice (some ⟨w.heap.size, 0, none⟩) (n + m) cap) (n + m) (xs ++ ys) ∧ Only [] w w' := by
  obtain ⟨i, hi, hz, hs, hb⟩ := info_parts hinfo
  subst hs hb
  obtain ⟨ad, rfl, _, _, _, hcy⟩ := hy.2 hm
  have hlen : (xs ++ ys).length = (n + m) * i.size := by rw [List.length_append, hx.1, hy.1, Nat.add_mul]
  have h63' : ((n + m : Nat) : Int) ≤ 9223372036854775807 := by simp only [maxLen] at h63; omega
  have hge := grownCap_ge w (n + m) c e
  have hcm : grownCap w (n + m) c e ≤ maxLen := grownCap_le_maxLen w (n + m) c e h63
  have key : ∀ cur : Array Value, cur = xs.toArray ++ ys.toArray ++ Builtin.zeroCells z.cells (grownCap w (n + m) c e - (n + m)) →
      (w.drew.alloc (.cells cur e)).ownsRow w.heap.size e i.size (.slice (some ⟨w.heap.size, 0, none⟩) (n + m) (grownCap w (n + m) c e)) (n + m) (xs ++ ys) := by
    rintro _ rfl
    refine ⟨hlen, .inr ⟨w.heap.size, _, _, rfl, Nat.le_refl _, heap_alloc_new w.drew _, hge, hcm, ?_, ?_⟩⟩
    · simp only [Array.size_append, List.size_toArray, size_zeroCells, hzs, hx.1, hy.1, ← Nat.add_mul]
      congr 1
      omega
    · simp only [Array.toList_append, List.append_assoc]
      rw [← List.append_assoc, ← hlen]
      exact List.take_left
  cases A with
  | none =>
    have h0 : n = 0 := by
      rcases Nat.eq_zero_or_pos n with h0 | h0
      · exact h0
      · obtain ⟨ad, e, _⟩ := hx.2 h0
        cases e
    have hc0 := hAc rfl
    subst h0 hc0
    obtain rfl : xs = [] := List.eq_nil_of_length_eq_zero (by have := hx.1; omega)
    have hr := run_append_nil (P := P) w t ty e i z ht hi hz ad m c2 ys hy.1 hcy hm (by omega) (by simp only [Nat.zero_add] at hbytes; omega)
    refine ⟨grownCap w m 0 e, _, by rw [hr, Nat.zero_add], ?_, ((Only.refl _ _).drew).alloc _⟩
    have hk := key (ys.toArray ++ Builtin.zeroCells z.cells (grownCap w m 0 e - m)) (by simp [Nat.zero_add])
    simp only [Nat.zero_add] at hk ⊢
    exact hk
  | some ad0 =>
    have hcx : ∀ j u, xs[j]? = some u → w.cell? (ad0.add j) = some u := by
      intro j u hu
      rcases Nat.eq_zero_or_pos n with h0 | h0
      · obtain rfl : xs = [] := List.eq_nil_of_length_eq_zero (by have := hx.1; rw [h0] at this; omega)
        simp at hu
      · obtain ⟨ad', e, _, _, _, hc⟩ := hx.2 h0
        injection e with e
        subst e
        exact hc j u hu
    have hr := run_append_grow (P := P) w t ty e i z ht hi hz ad0 n c xs hx.1 hcx ad m c2 ys hy.1 hcy hc h63' (growslice_fits hc hbytes)
    exact ⟨_, _, hr, key _ rfl, ((Only.refl _ _).drew).alloc _⟩
end
end Go.Proofs.YtodgllnmepnpfaaDoor
