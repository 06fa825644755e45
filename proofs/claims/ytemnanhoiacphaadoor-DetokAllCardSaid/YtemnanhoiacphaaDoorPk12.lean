/- Several texts in one: A model's data: words, merges; the two maps of chapter 5.; slices.Clone at the three kinds of lists; model.copied. Printed by wip/gen_md1.py. -/
import Derived.Test.YtemnanhoiacphaaDoorMapK
import Derived.Test.YtemnanhoiacphaaDoorPk11
set_option linter.unusedVariables false
set_option linter.unusedSimpArgs false
namespace Go.Proofs.YtemnanhoiacphaaDoor
open Go.RowKit Go.Maps

/-! ### words -/
def wds (l : List ByteArray) : List Value := l.map Value.string
theorem wds_length (l : List ByteArray) : (wds l).length = l.length := by simp [wds]
theorem wds_one (l : List ByteArray) : ∀ u ∈ wds l, u.oneCell' = true := by
  intro u hu
  simp only [wds, List.mem_map] at hu
  obtain ⟨p, _, rfl⟩ := hu; rfl
theorem wds_get {l : List ByteArray} {i : Nat} {s : ByteArray} (h : l[i]? = some s) : (wds l)[i]? = some (.string s) := by simp [wds, h]
theorem Rd.wd {w : World} {B n : Nat} {A : Option Addr} {l : List ByteArray} (h : Rd w B 1 A n (wds l)) {i : Nat} {s : ByteArray} (hp : l[i]? = some s) : ∃ g o, A = some ⟨g, o, none⟩ ∧ i < n ∧ w.cell? ⟨g, o + i, none⟩ = some (.string s) := by
  have hl : i < l.length := (List.getElem?_eq_some_iff.1 hp).1
  have hn : l.length = n := by have := h.1; rw [wds_length] at this; omega
  obtain ⟨g, o, rfl, _, _, hc⟩ := h.addr (by omega)
  exact ⟨g, o, rfl, by omega, hc i _ (wds_get hp)⟩

/-! ### merges -/
structure Mg where
  l : Int
  r : Int
  id : Int
  deriving DecidableEq, Inhabited
def Mg.enc (m : Mg) : List Value := [.int .i64 m.l, .int .i64 m.r, .int .i64 m.id]
def mgs (l : List Mg) : List Value := l.flatMap Mg.enc
theorem mgs_length (l : List Mg) : (mgs l).length = l.length * 3 := by
  unfold mgs
  induction l with
  | nil => rfl
  | cons a l ih => rw [List.flatMap_cons, List.length_append, ih, List.length_cons]; simp [Mg.enc]; omega
theorem mgs_one (l : List Mg) : ∀ u ∈ mgs l, u.oneCell' = true := by
  intro u hu
  simp only [mgs, List.mem_flatMap] at hu
  obtain ⟨p, _, hp⟩ := hu
  simp [Mg.enc] at hp
  rcases hp with rfl | rfl | rfl <;> rfl
theorem flatMap_cell {α : Type} {enc : α → List Value} {size : Nat} : ∀ (l : List α), (∀ x ∈ l, (enc x).length = size) → ∀ (k : Nat) (x : α) (j : Nat), l[k]? = some x → j < size → (l.flatMap enc)[k * size + j]? = (enc x)[j]?
  | [], _, k, x, j, h, _ => by simp at h
  | a :: l, hs, 0, x, j, h, hj => by
    have : a = x := by simpa using h
    subst this
    rw [List.flatMap_cons, Nat.zero_mul, Nat.zero_add, List.getElem?_append_left (by rw [hs a (List.mem_cons_self ..)]; exact hj)]
  | a :: l, hs, k + 1, x, j, h, hj => by
    have h1 := hs a (List.mem_cons_self ..)
    rw [List.flatMap_cons, List.getElem?_append_right (by rw [h1, Nat.add_mul]; omega), h1, show (k + 1) * size + j - size = k * size + j by rw [Nat.add_mul]; omega]
    exact flatMap_cell l (fun x hx => hs x (List.mem_cons_of_mem _ hx)) k x j (by simpa using h) hj
theorem Rd.mg {w : World} {B n : Nat} {A : Option Addr} {l : List Mg} (h : Rd w B 3 A n (mgs l)) {i : Nat} {m : Mg} (hp : l[i]? = some m) :
    ∃ g o, A = some ⟨g, o, none⟩ ∧ i < n ∧ w.cell? ⟨g, o + i * 3, none⟩ = some (.int .i64 m.l) ∧ w.cell? ⟨g, o + i * 3 + 1, none⟩ = some (.int .i64 m.r) ∧ w.cell? ⟨g, o + i * 3 + 2, none⟩ = some (.int .i64 m.id) := by
  have hl : i < l.length := (List.getElem?_eq_some_iff.1 hp).1
  have hn : l.length = n := by have := h.1; rw [mgs_length] at this; omega
  obtain ⟨g, o, rfl, _, _, hc⟩ := h.addr (by omega)
  have key : ∀ j, j < 3 → (mgs l)[i * 3 + j]? = m.enc[j]? := fun j hj => flatMap_cell (enc := Mg.enc) (size := 3) l (fun _ _ => rfl) i m j hp hj
  refine ⟨g, o, rfl, by omega, ?_, ?_, ?_⟩
  · rw [show o + i * 3 = o + (i * 3 + 0) by omega]; exact hc _ _ (key 0 (by omega))
  · rw [show o + i * 3 + 1 = o + (i * 3 + 1) by omega]; exact hc _ _ (key 1 (by omega))
  · rw [show o + i * 3 + 2 = o + (i * 3 + 2) by omega]; exact hc _ _ (key 2 (by omega))
def i64ok (n : Int) : Prop := -9223372036854775808 ≤ n ∧ n ≤ 9223372036854775807
def Mg.ok (m : Mg) : Prop := i64ok m.l ∧ i64ok m.r ∧ i64ok m.id
theorem wf64 {n : Int} (h : i64ok n) : (Lit.int .i64 n).wf = true := by
  simpa [i64ok, Lit.wf, IntKind.min, IntKind.max, IntKind.signed, IntKind.bits] using h

/-! ### the two maps -/
def numR : Value → Option (DataW Unit × List MemPlace)
  | .int .i64 n => some (.lit (.int .i64 n), [])
  | _ => none
theorem numR_inv {v : Value} {b : Int} {ps : List MemPlace} (h : numR v = some (.lit (.int .i64 b), ps)) : v = .int .i64 b := by
  unfold numR at h
  split at h
  · simp only [Option.some.injEq, Prod.mk.injEq, DataW.lit.injEq, Lit.int.injEq] at h
    rw [h.1.2]
  · cases h
/-- words that were seen -/
noncomputable def seenTy : MapTy Tryd.prog ByteArray Int where
  t := 151
  kt := 9
  et := 3
  R := numR
  ok s := s.size ≤ maxLen
  key s := .string s
  kl s := .string s.data.toList
  val n := .int .i64 n
  vd n := .lit (.int .i64 n)
  zero := 0
  law := string_keyed (by kernel_rfl)
  under := by kernel_rfl
  hkey a h := by
    have hu : Tryd.prog.underlying 9 = some .string := by kernel_rfl
    simp [keyOf, mapKey, hu, h]
  hinj a b _ _ h := by injection h
  hR b := rfl
  hRi v b ps h := numR_inv h
  hz w := by kernel_rfl
def pairL : List Value → Option (DataW Unit × List MemPlace)
  | [.int .i64 a, .int .i64 b] => some (.agg [.lit (.int .i64 a), .lit (.int .i64 b)], [])
  | _ => none
def pairR : Value → Option (DataW Unit × List MemPlace)
  | .agg cs => pairL cs.toList
  | _ => none
theorem pairL_inv {cs : List Value} {a b : Int} {ps : List MemPlace} (h : pairL cs = some (.agg [.lit (.int .i64 a), .lit (.int .i64 b)], ps)) : cs = [.int .i64 a, .int .i64 b] := by
  unfold pairL at h
  split at h
  · simp only [Option.some.injEq, Prod.mk.injEq, DataW.agg.injEq, List.cons.injEq, DataW.lit.injEq, Lit.int.injEq] at h
    rw [h.1.1.2, h.1.2.1.2]
  · cases h
theorem pairR_inv {v : Value} {a b : Int} {ps : List MemPlace} (h : pairR v = some (.agg [.lit (.int .i64 a), .lit (.int .i64 b)], ps)) : v = .agg #[.int .i64 a, .int .i64 b] := by
  unfold pairR at h
  split at h
  · have := pairL_inv h
    congr 1
    exact Array.toList_inj.1 this
  · cases h
theorem pair_key (l r : Int) (hl : i64ok l) (hr : i64ok r) : ∃ kl, keyOf Tryd.prog 154 (.agg #[.int .i64 l, .int .i64 r]) = some kl := by
  have hu : Tryd.prog.underlying 154 = some (.array 2 3) := by kernel_rfl
  have hi : Tryd.prog.underlying 3 = some (.int .i64) := by kernel_rfl
  have hk : Tryd.prog.keyType 154 = true := by kernel_rfl
  have hc : Tryd.prog.cellsOf 154 = 2 := by kernel_rfl
  have hc1 : Tryd.prog.cellsOf 3 = 1 := by kernel_rfl
  have hs : decide (0 < Tryd.prog.types.size) = true := by kernel_rfl
  obtain ⟨n, hn⟩ : ∃ n, Tryd.prog.types.size = n + 1 := ⟨Tryd.prog.types.size - 1, by have := of_decide_eq_true hs; omega⟩
  have wl := wf64 hl
  have wr := wf64 hr
  apply Option.isSome_iff_exists.1
  unfold keyOf
  rw [hu]
  simp [hk, hn, Value.formed, hu, hc, Program.keyLits, hi, hc1, Value.cells, List.range, List.range.loop, wl, wr]
/-- two ids' merge -/
noncomputable def pairTy : MapTy Tryd.prog (Int × Int) (Nat × Int) where
  t := 112
  kt := 154
  et := 156
  R := pairR
  ok p := i64ok p.1 ∧ i64ok p.2
  key p := .agg #[.int .i64 p.1, .int .i64 p.2]
  kl p := (keyOf Tryd.prog 154 (.agg #[.int .i64 p.1, .int .i64 p.2])).getD (.bool true)
  val v := .agg #[.int .i64 (v.1 : Int), .int .i64 v.2]
  vd v := .agg [.lit (.int .i64 (v.1 : Int)), .lit (.int .i64 v.2)]
  zero := (0, 0)
  law := Keyed.of_law (deep_law_laid (by kernel_rfl) (m := 3) (by omega) (of_decide_eq_true (by kernel_rfl)) (by kernel_rfl) (by kernel_rfl))
  under := by kernel_rfl
  hkey a h := by
    obtain ⟨kl, e⟩ := pair_key a.1 a.2 h.1 h.2
    rw [e]; rfl
  hinj a b _ _ h := by
    injection h with h
    simp at h
    exact Prod.ext h.1 h.2
  hR b := rfl
  hRi v b ps h := pairR_inv h
  hz w := by kernel_rfl
end Go.Proofs.YtemnanhoiacphaaDoor

set_option linter.unusedVariables false
set_option linter.unusedSimpArgs false
namespace Go.Proofs.YtemnanhoiacphaaDoor
open Go.RowKit

set_option maxRecDepth 100000 in
set_option maxHeartbeats 2000000 in
theorem cloneW_any (n c : Nat) (A : Option Addr) (l : List ByteArray) (w : World) (B : Nat) (hr : Rd w B 1 A n (wds l)) (hn : n * 16 ≤ 140737488355328) :
    Calls Tryd.prog 78 #[.slice A n c] w fun e w' => ∃ v, e = .returned v ∧ w'.ownsRow w.heap.size 9 1 v n (wds l) ∧ Only [] w w' := by
  cases A with
  | none =>
    obtain rfl : n = 0 := by
      rcases Nat.eq_zero_or_pos n with h | h
      · exact h
      · obtain ⟨_, e, _⟩ := hr.2 h; cases e
    obtain ⟨hl0, -⟩ := hr
    have hnil : wds l = [] := List.eq_nil_of_length_eq_zero (by simpa using hl0)
    have Hnil := Lib.hid hnil
    clear hnil hl0
    have heq := Go.run_eql_slice_nil (P := Tryd.prog) w 22 9 none 0 c (by kernel_rfl)
    go_enter Tryd.func78, Tryd.ntmps78
    go_wp2_with (fail)
    go_ret
    exact ⟨_, rfl, by rw [Hnil.out]; exact ⟨rfl, .inl ⟨rfl, rfl⟩⟩, .refl _ _⟩
  | some ad =>
    have he : (w.alloc (.cells #[] 9)).ownsRow w.heap.size 9 1 (.slice (some ⟨w.heap.size, 0, none⟩) 0 0) 0 [] := own_empty w _ 9 1 rfl (Nat.le_refl _)
    obtain ⟨v', w', hrun, hown, hO, hat, _⟩ := run_append_row (P := Tryd.prog) w.heap.size 22 22 9 (.string .empty) 1 16 (by kernel_rfl) (by kernel_rfl) rfl (by omega) he c (hr.alloc (.cells #[] 9)) (wds_one l) (by simp only [maxLen]; omega) (by omega) (by simp)
    rw [Nat.zero_add, List.nil_append] at hown
    have hO' : Only [] w w' := ((Only.refl [] w).alloc (.cells #[] 9)).trans' hO (by simp [Value.ownBlock])
    have heq := Go.run_eql_slice_nil (P := Tryd.prog) w 22 9 (some ad) n c (by kernel_rfl)
    have Hrun := Lib.hid hrun
    have Hown := Lib.hid hown
    clear he hown hO hat hrun
    go_enter Tryd.func78, Tryd.ntmps78
    go_wp2_with ((at_builtin; refine wpList_append_run (o := ⟨some 7, _, _, _, _, _⟩) (by rfl) (.tmp 5) (.tmp 6) 22 22 (by rfl) (by rfl) (by rfl) Hrun.out ?_))
    go_ret
    exact ⟨v', rfl, Hown.out, hO'⟩

set_option maxRecDepth 100000 in
set_option maxHeartbeats 2000000 in
theorem cloneM_any (n c : Nat) (A : Option Addr) (l : List Mg) (w : World) (B : Nat) (hr : Rd w B 3 A n (mgs l)) (hn : n * 24 ≤ 140737488355328) :
    Calls Tryd.prog 79 #[.slice A n c] w fun e w' => ∃ v, e = .returned v ∧ w'.ownsRow w.heap.size 150 3 v n (mgs l) ∧ Only [] w w' := by
  cases A with
  | none =>
    obtain rfl : n = 0 := by
      rcases Nat.eq_zero_or_pos n with h | h
      · exact h
      · obtain ⟨_, e, _⟩ := hr.2 h; cases e
    obtain ⟨hl0, -⟩ := hr
    have hnil : mgs l = [] := List.eq_nil_of_length_eq_zero (by simpa using hl0)
    have Hnil := Lib.hid hnil
    clear hnil hl0
    have heq := Go.run_eql_slice_nil (P := Tryd.prog) w 23 150 none 0 c (by kernel_rfl)
    go_enter Tryd.func79, Tryd.ntmps79
    go_wp2_with (fail)
    go_ret
    exact ⟨_, rfl, by rw [Hnil.out]; exact ⟨rfl, .inl ⟨rfl, rfl⟩⟩, .refl _ _⟩
  | some ad =>
    have he : (w.alloc (.cells #[] 150)).ownsRow w.heap.size 150 3 (.slice (some ⟨w.heap.size, 0, none⟩) 0 0) 0 [] := own_empty w _ 150 3 rfl (Nat.le_refl _)
    obtain ⟨v', w', hrun, hown, hO, hat, _⟩ := run_append_row (P := Tryd.prog) w.heap.size 23 23 150 (.agg #[.int .i64 0, .int .i64 0, .int .i64 0]) 3 24 (by kernel_rfl) (by kernel_rfl) rfl (by omega) he c (hr.alloc (.cells #[] 150)) (mgs_one l) (by simp only [maxLen]; omega) (by omega) (by simp)
    rw [Nat.zero_add, List.nil_append] at hown
    have hO' : Only [] w w' := ((Only.refl [] w).alloc (.cells #[] 150)).trans' hO (by simp [Value.ownBlock])
    have heq := Go.run_eql_slice_nil (P := Tryd.prog) w 23 150 (some ad) n c (by kernel_rfl)
    have Hrun := Lib.hid hrun
    have Hown := Lib.hid hown
    clear he hown hO hat hrun
    go_enter Tryd.func79, Tryd.ntmps79
    go_wp2_with ((at_builtin; refine wpList_append_run (o := ⟨some 7, _, _, _, _, _⟩) (by rfl) (.tmp 5) (.tmp 6) 23 23 (by rfl) (by rfl) (by rfl) Hrun.out ?_))
    go_ret
    exact ⟨v', rfl, Hown.out, hO'⟩

set_option maxRecDepth 100000 in
set_option maxHeartbeats 2000000 in
theorem cloneS_any (n c : Nat) (A : Option Addr) (l : List Sp) (w : World) (B : Nat) (hr : Rd w B 2 A n (ses l)) (hn : n * 8 ≤ 140737488355328) :
    Calls Tryd.prog 74 #[.slice A n c] w fun e w' => ∃ v, e = .returned v ∧ w'.ownsRow w.heap.size 117 2 v n (ses l) ∧ Only [] w w' := by
  cases A with
  | none =>
    obtain rfl : n = 0 := by
      rcases Nat.eq_zero_or_pos n with h | h
      · exact h
      · obtain ⟨_, e, _⟩ := hr.2 h; cases e
    obtain ⟨hl0, -⟩ := hr
    have hnil : ses l = [] := List.eq_nil_of_length_eq_zero (by simpa using hl0)
    have Hnil := Lib.hid hnil
    clear hnil hl0
    have heq := Go.run_eql_slice_nil (P := Tryd.prog) w 24 117 none 0 c (by kernel_rfl)
    go_enter Tryd.func74, Tryd.ntmps74
    go_wp2_with (fail)
    go_ret
    exact ⟨_, rfl, by rw [Hnil.out]; exact ⟨rfl, .inl ⟨rfl, rfl⟩⟩, .refl _ _⟩
  | some ad =>
    have he : (w.alloc (.cells #[] 117)).ownsRow w.heap.size 117 2 (.slice (some ⟨w.heap.size, 0, none⟩) 0 0) 0 [] := own_empty w _ 117 2 rfl (Nat.le_refl _)
    obtain ⟨v', w', hrun, hown, hO, hat, _⟩ := run_append_row (P := Tryd.prog) w.heap.size 24 24 117 (.agg #[.int .i32 0, .int .i32 0]) 2 8 (by kernel_rfl) (by kernel_rfl) rfl (by omega) he c (hr.alloc (.cells #[] 117)) (ses_one l) (by simp only [maxLen]; omega) (by omega) (by simp)
    rw [Nat.zero_add, List.nil_append] at hown
    have hO' : Only [] w w' := ((Only.refl [] w).alloc (.cells #[] 117)).trans' hO (by simp [Value.ownBlock])
    have heq := Go.run_eql_slice_nil (P := Tryd.prog) w 24 117 (some ad) n c (by kernel_rfl)
    have Hrun := Lib.hid hrun
    have Hown := Lib.hid hown
    clear he hown hO hat hrun
    go_enter Tryd.func74, Tryd.ntmps74
    go_wp2_with ((at_builtin; refine wpList_append_run (o := ⟨some 7, _, _, _, _, _⟩) (by rfl) (.tmp 5) (.tmp 6) 24 24 (by rfl) (by rfl) (by rfl) Hrun.out ?_))
    go_ret
    exact ⟨v', rfl, Hown.out, hO'⟩

theorem own_type {w : World} {base : Nat} {e : TypeId} {size : Nat} {v : Value} {n : Nat} {xs : List Value} (h : w.ownsRow base e size v n xs) {k : Nat} (hk : v.ownBlock = some k) {b : Nat} {t : TypeId} {cs : List Value} (hb : Blk w b t cs) (ht : t ≠ e) : b ≠ k := by
  rcases h.2 with ⟨rfl, _⟩ | ⟨g, cap, cur, rfl, _, hg, _⟩
  · simp [Value.ownBlock] at hk
  · have hgk : g = k := by simpa [Value.ownBlock] using hk
    subst hgk
    exact hb.ne (cs' := cur.toList) (Blk.mk' hg rfl) ht
/-- five lists as they lie somewhere -/
structure Rd5 (w : World) (v0 v1 v2 v3 v4 : Value) (ws : List ByteArray) (ms : List Mg) (a b d : List Sp) : Prop where
  r0 : ∃ A c, v0 = .slice A ws.length c ∧ ws.length ≤ c ∧ Rd w w.heap.size 1 A ws.length (wds ws)
  r1 : ∃ A c, v1 = .slice A ms.length c ∧ ms.length ≤ c ∧ Rd w w.heap.size 3 A ms.length (mgs ms)
  r2 : ∃ A c, v2 = .slice A a.length c ∧ a.length ≤ c ∧ Rd w w.heap.size 2 A a.length (ses a)
  r3 : ∃ A c, v3 = .slice A b.length c ∧ b.length ≤ c ∧ Rd w w.heap.size 2 A b.length (ses b)
  r4 : ∃ A c, v4 = .slice A d.length c ∧ d.length ≤ c ∧ Rd w w.heap.size 2 A d.length (ses d)
theorem Rd5.only {w w' : World} {v0 v1 v2 v3 v4 : Value} {ws : List ByteArray} {ms : List Mg} {a b d : List Sp} (h : Rd5 w v0 v1 v2 v3 v4 ws ms a b d) (hO : Only [] w w') : Rd5 w' v0 v1 v2 v3 v4 ws ms a b d := by
  have key : ∀ {size : Nat} {v : Value} {n : Nat} {xs : List Value}, (∃ A c, v = .slice A n c ∧ n ≤ c ∧ Rd w w.heap.size size A n xs) → ∃ A c, v = .slice A n c ∧ n ≤ c ∧ Rd w' w'.heap.size size A n xs := by
    rintro size v n xs ⟨A, c, e, hc, r⟩
    exact ⟨A, c, e, hc, (r.only hO (by simp)).more hO.size⟩
  exact ⟨key h.r0, key h.r1, key h.r2, key h.r3, key h.r4⟩
/-- five lists of the call's own -/
structure Own5 (w : World) (base : Nat) (v0 v1 v2 v3 v4 : Value) (ws : List ByteArray) (ms : List Mg) (a b d : List Sp) : Prop where
  o0 : w.ownsRow base 9 1 v0 ws.length (wds ws)
  o1 : w.ownsRow base 150 3 v1 ms.length (mgs ms)
  o2 : w.ownsRow base 117 2 v2 a.length (ses a)
  o3 : w.ownsRow base 117 2 v3 b.length (ses b)
  o4 : w.ownsRow base 117 2 v4 d.length (ses d)
  n23 : ∀ k, v2.ownBlock = some k → v3.ownBlock ≠ some k
  n24 : ∀ k, v2.ownBlock = some k → v4.ownBlock ≠ some k
  n34 : ∀ k, v3.ownBlock = some k → v4.ownBlock ≠ some k
section
variable {w w' : World} {base : Nat} {v0 v1 v2 v3 v4 : Value} {ws : List ByteArray} {ms : List Mg} {a b d : List Sp}
theorem Own5.only (h : Own5 w base v0 v1 v2 v3 v4 ws ms a b d) {l : List Nat} (hO : Only l w w') (hl : ∀ x ∈ l, x < base ∨ ∃ (t : TypeId) (cs : List Value), Blk w x t cs ∧ t ≠ 9 ∧ t ≠ 150 ∧ t ≠ 117 ∨ (∃ es cl, w.heap[x]? = some (.map es cl))) : Own5 w' base v0 v1 v2 v3 v4 ws ms a b d := by
  have key : ∀ {e : TypeId} {size : Nat} {v : Value} {n : Nat} {xs : List Value}, (e = 9 ∨ e = 150 ∨ e = 117) → w.ownsRow base e size v n xs → ∀ k, v.ownBlock = some k → k ∉ l := by
    intro e size v n xs he ho k hk hm
    have hlt := own_lt ho hk
    rcases hl k hm with h | ⟨t, cs, ⟨hb, h1, h2, h3⟩ | ⟨es, cl, hb⟩⟩
    · omega
    · exact own_type ho hk hb (by rcases he with rfl | rfl | rfl <;> assumption) rfl
    · rcases ho.2 with ⟨e1, _⟩ | ⟨g, cap, cur, e1, _, hg, _⟩
      · rw [e1] at hk; cases hk
      · rw [e1] at hk
        obtain rfl : g = k := by simpa [Value.ownBlock] using hk
        rw [hg] at hb; cases hb
  exact ⟨own_only h.o0 hO (key (.inl rfl) h.o0), own_only h.o1 hO (key (.inr (.inl rfl)) h.o1), own_only h.o2 hO (key (.inr (.inr rfl)) h.o2), own_only h.o3 hO (key (.inr (.inr rfl)) h.o3), own_only h.o4 hO (key (.inr (.inr rfl)) h.o4), h.n23, h.n24, h.n34⟩
theorem Own5.down (h : Own5 w base v0 v1 v2 v3 v4 ws ms a b d) {base' : Nat} (hb : base' ≤ base) : Own5 w base' v0 v1 v2 v3 v4 ws ms a b d :=
  ⟨own_base h.o0 hb, own_base h.o1 hb, own_base h.o2 hb, own_base h.o3 hb, own_base h.o4 hb, h.n23, h.n24, h.n34⟩
theorem own_rd {e : TypeId} {size : Nat} {v : Value} {n : Nat} {xs : List Value} (h : w.ownsRow base e size v n xs) : ∃ A c, v = .slice A n c ∧ n ≤ c ∧ Rd w w.heap.size size A n xs := by
  obtain ⟨A, c, e, hc, r, _⟩ := own_slice h; exact ⟨A, c, e, hc, r⟩
theorem Own5.rd (h : Own5 w base v0 v1 v2 v3 v4 ws ms a b d) : Rd5 w v0 v1 v2 v3 v4 ws ms a b d := ⟨own_rd h.o0, own_rd h.o1, own_rd h.o2, own_rd h.o3, own_rd h.o4⟩
end
end Go.Proofs.YtemnanhoiacphaaDoor
