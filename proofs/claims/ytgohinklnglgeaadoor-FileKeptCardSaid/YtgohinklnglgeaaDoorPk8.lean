/- Several texts in one: A model's data: words, merges; the two maps of chapter 5.; slices.Clone at the three kinds of lists; model.copied. Printed by wip/gen_md1.py.; Chapter 6's reader: plain, and the program's refuse and number.; Chapter 6's reader: word.; Contracts of tesserabook's Same, Roomy, Intact over merges.; Contracts of tesserabook's Same, Roomy, Intact over strings. -/
import Derived.Test.YtgohinklnglgeaaDoorMapK
import Derived.Test.YtgohinklnglgeaaDoorPk7
import Derived.Test.YtgohinklnglgeaaDoorPk2
import Derived.Test.YtgohinklnglgeaaDoorPk1
import Derived.Deep.RegionWith
set_option linter.unusedVariables false
set_option linter.unusedSimpArgs false
namespace Go.Proofs.YtgohinklnglgeaaDoor
open Go.RowKit Go.Maps

/-! ### words -/
def wds (l : List ByteArray) : List Value := l.map Value.string
theorem wds_length (l : List ByteArray) : (wds l).length = l.length := by simp [wds]
theorem wds_one (l : List ByteArray) : ∀ u ∈ wds l, u.oneCell' = true := by
  intro u hu
  simp only [wds, List.mem_map] at hu
  obtain ⟨p, _, rfl⟩ := hu; rfl
theorem wds_get {l : List ByteArray} {i : Nat} {s : ByteArray} (h : l[i]? = some s) : (wds l)[i]? = some (.string s) := by simp [wds, h]
theorem Rd.wd {w : World} {B n : Nat} {A : Option Addr} {l : List ByteArray} (h : Rd w B 1 A n (wds l)) {i : Nat} {s : ByteArray} (hp : l[i]? = some s) : ∃ g o, A = some ⟨g, o, none⟩ ∧ i < n ∧ w.cell? ⟨g, o + i, none⟩ = some (.string s) := by
  have hl : i < l.length := (List.getElem?_eq_some_iff.1 hp).1
  have hn : l.length = n := by have := h.1; rw [wds_length] at this; omega
  obtain ⟨g, o, rfl, _, _, hc⟩ := h.addr (by omega)
  exact ⟨g, o, rfl, by omega, hc i _ (wds_get hp)⟩

/-! ### merges -/
structure Mg where
  l : Int
  r : Int
  id : Int
  deriving DecidableEq, Inhabited
def Mg.enc (m : Mg) : List Value := [.int .i64 m.l, .int .i64 m.r, .int .i64 m.id]
def mgs (l : List Mg) : List Value := l.flatMap Mg.enc
theorem mgs_length (l : List Mg) : (mgs l).length = l.length * 3 := by
  unfold mgs
  induction l with
  | nil => rfl
  | cons a l ih => rw [List.flatMap_cons, List.length_append, ih, List.length_cons]; simp [Mg.enc]; omega
theorem mgs_one (l : List Mg) : ∀ u ∈ mgs l, u.oneCell' = true := by
  intro u hu
  simp only [mgs, List.mem_flatMap] at hu
  obtain ⟨p, _, hp⟩ := hu
  simp [Mg.enc] at hp
  rcases hp with rfl | rfl | rfl <;> rfl
theorem flatMap_cell {α : Type} {enc : α → List Value} {size : Nat} : ∀ (l : List α), (∀ x ∈ l, (enc x).length = size) → ∀ (k : Nat) (x : α) (j : Nat), l[k]? = some x → j < size → (l.flatMap enc)[k * size + j]? = (enc x)[j]?
  | [], _, k, x, j, h, _ => by simp at h
  | a :: l, hs, 0, x, j, h, hj => by
    have : a = x := by simpa using h
    subst this
    rw [List.flatMap_cons, Nat.zero_mul, Nat.zero_add, List.getElem?_append_left (by rw [hs a (List.mem_cons_self ..)]; exact hj)]
  | a :: l, hs, k + 1, x, j, h, hj => by
    have h1 := hs a (List.mem_cons_self ..)
    rw [List.flatMap_cons, List.getElem?_append_right (by rw [h1, Nat.add_mul]; omega), h1, show (k + 1) * size + j - size = k * size + j by rw [Nat.add_mul]; omega]
    exact flatMap_cell l (fun x hx => hs x (List.mem_cons_of_mem _ hx)) k x j (by simpa using h) hj
theorem Rd.mg {w : World} {B n : Nat} {A : Option Addr} {l : List Mg} (h : Rd w B 3 A n (mgs l)) {i : Nat} {m : Mg} (hp : l[i]? = some m) :
    ∃ g o, A = some ⟨g, o, none⟩ ∧ i < n ∧ w.cell? ⟨g, o + i * 3, none⟩ = some (.int .i64 m.l) ∧ w.cell? ⟨g, o + i * 3 + 1, none⟩ = some (.int .i64 m.r) ∧ w.cell? ⟨g, o + i * 3 + 2, none⟩ = some (.int .i64 m.id) := by
  have hl : i < l.length := (List.getElem?_eq_some_iff.1 hp).1
  have hn : l.length = n := by have := h.1; rw [mgs_length] at this; omega
  obtain ⟨g, o, rfl, _, _, hc⟩ := h.addr (by omega)
  have key : ∀ j, j < 3 → (mgs l)[i * 3 + j]? = m.enc[j]? := fun j hj => flatMap_cell (enc := Mg.enc) (size := 3) l (fun _ _ => rfl) i m j hp hj
  refine ⟨g, o, rfl, by omega, ?_, ?_, ?_⟩
  · rw [show o + i * 3 = o + (i * 3 + 0) by omega]; exact hc _ _ (key 0 (by omega))
  · rw [show o + i * 3 + 1 = o + (i * 3 + 1) by omega]; exact hc _ _ (key 1 (by omega))
  · rw [show o + i * 3 + 2 = o + (i * 3 + 2) by omega]; exact hc _ _ (key 2 (by omega))
def i64ok (n : Int) : Prop := -9223372036854775808 ≤ n ∧ n ≤ 9223372036854775807
def Mg.ok (m : Mg) : Prop := i64ok m.l ∧ i64ok m.r ∧ i64ok m.id
theorem wf64 {n : Int} (h : i64ok n) : (Lit.int .i64 n).wf = true := by
  simpa [i64ok, Lit.wf, IntKind.min, IntKind.max, IntKind.signed, IntKind.bits] using h

/-! ### the two maps -/
def numR : Value → Option (DataW Unit × List MemPlace)
  | .int .i64 n => some (.lit (.int .i64 n), [])
  | _ => none
theorem numR_inv {v : Value} {b : Int} {ps : List MemPlace} (h : numR v = some (.lit (.int .i64 b), ps)) : v = .int .i64 b := by
  unfold numR at h
  split at h
  · simp only [Option.some.injEq, Prod.mk.injEq, DataW.lit.injEq, Lit.int.injEq] at h
    rw [h.1.2]
  · cases h
/-- words that were seen -/
noncomputable def seenTy : MapTy Tryd.prog ByteArray Int where
  t := 143
  kt := 9
  et := 3
  R := numR
  ok s := s.size ≤ maxLen
  key s := .string s
  kl s := .string s.data.toList
  val n := .int .i64 n
  vd n := .lit (.int .i64 n)
  zero := 0
  law := string_keyed (by kernel_rfl)
  under := by kernel_rfl
  hkey a h := by
    have hu : Tryd.prog.underlying 9 = some .string := by kernel_rfl
    simp [keyOf, mapKey, hu, h]
  hinj a b _ _ h := by injection h
  hR b := rfl
  hRi v b ps h := numR_inv h
  hz w := by kernel_rfl
def pairL : List Value → Option (DataW Unit × List MemPlace)
  | [.int .i64 a, .int .i64 b] => some (.agg [.lit (.int .i64 a), .lit (.int .i64 b)], [])
  | _ => none
def pairR : Value → Option (DataW Unit × List MemPlace)
  | .agg cs => pairL cs.toList
  | _ => none
theorem pairL_inv {cs : List Value} {a b : Int} {ps : List MemPlace} (h : pairL cs = some (.agg [.lit (.int .i64 a), .lit (.int .i64 b)], ps)) : cs = [.int .i64 a, .int .i64 b] := by
  unfold pairL at h
  split at h
  · simp only [Option.some.injEq, Prod.mk.injEq, DataW.agg.injEq, List.cons.injEq, DataW.lit.injEq, Lit.int.injEq] at h
    rw [h.1.1.2, h.1.2.1.2]
  · cases h
theorem pairR_inv {v : Value} {a b : Int} {ps : List MemPlace} (h : pairR v = some (.agg [.lit (.int .i64 a), .lit (.int .i64 b)], ps)) : v = .agg #[.int .i64 a, .int .i64 b] := by
  unfold pairR at h
  split at h
  · have := pairL_inv h
    congr 1
    exact Array.toList_inj.1 this
  · cases h
theorem pair_key (l r : Int) (hl : i64ok l) (hr : i64ok r) : ∃ kl, keyOf Tryd.prog 146 (.agg #[.int .i64 l, .int .i64 r]) = some kl := by
  have hu : Tryd.prog.underlying 146 = some (.array 2 3) := by kernel_rfl
  have hi : Tryd.prog.underlying 3 = some (.int .i64) := by kernel_rfl
  have hk : Tryd.prog.keyType 146 = true := by kernel_rfl
  have hc : Tryd.prog.cellsOf 146 = 2 := by kernel_rfl
  have hc1 : Tryd.prog.cellsOf 3 = 1 := by kernel_rfl
  have hs : decide (0 < Tryd.prog.types.size) = true := by kernel_rfl
  obtain ⟨n, hn⟩ : ∃ n, Tryd.prog.types.size = n + 1 := ⟨Tryd.prog.types.size - 1, by have := of_decide_eq_true hs; omega⟩
  have wl := wf64 hl
  have wr := wf64 hr
  apply Option.isSome_iff_exists.1
  unfold keyOf
  rw [hu]
  simp [hk, hn, Value.formed, hu, hc, Program.keyLits, hi, hc1, Value.cells, List.range, List.range.loop, wl, wr]
/-- two ids' merge -/
noncomputable def pairTy : MapTy Tryd.prog (Int × Int) (Nat × Int) where
  t := 109
  kt := 146
  et := 150
  R := pairR
  ok p := i64ok p.1 ∧ i64ok p.2
  key p := .agg #[.int .i64 p.1, .int .i64 p.2]
  kl p := (keyOf Tryd.prog 146 (.agg #[.int .i64 p.1, .int .i64 p.2])).getD (.bool true)
  val v := .agg #[.int .i64 (v.1 : Int), .int .i64 v.2]
  vd v := .agg [.lit (.int .i64 (v.1 : Int)), .lit (.int .i64 v.2)]
  zero := (0, 0)
  law := Keyed.of_law (deep_law_laid (by kernel_rfl) (m := 3) (by omega) (of_decide_eq_true (by kernel_rfl)) (by kernel_rfl) (by kernel_rfl))
  under := by kernel_rfl
  hkey a h := by
    obtain ⟨kl, e⟩ := pair_key a.1 a.2 h.1 h.2
    rw [e]; rfl
  hinj a b _ _ h := by
    injection h with h
    simp at h
    exact Prod.ext h.1 h.2
  hR b := rfl
  hRi v b ps h := pairR_inv h
  hz w := by kernel_rfl
end Go.Proofs.YtgohinklnglgeaaDoor

set_option linter.unusedVariables false
set_option linter.unusedSimpArgs false
namespace Go.Proofs.YtgohinklnglgeaaDoor
open Go.RowKit

set_option maxRecDepth 100000 in
set_option maxHeartbeats 2000000 in
theorem cloneW_any (n c : Nat) (A : Option Addr) (l : List ByteArray) (w : World) (B : Nat) (hr : Rd w B 1 A n (wds l)) (hn : n * 16 ≤ 140737488355328) :
    Calls Tryd.prog 70 #[.slice A n c] w fun e w' => ∃ v, e = .returned v ∧ w'.ownsRow w.heap.size 9 1 v n (wds l) ∧ Only [] w w' := by
  cases A with
  | none =>
    obtain rfl : n = 0 := by
      rcases Nat.eq_zero_or_pos n with h | h
      · exact h
      · obtain ⟨_, e, _⟩ := hr.2 h; cases e
    obtain ⟨hl0, -⟩ := hr
    have hnil : wds l = [] := List.eq_nil_of_length_eq_zero (by simpa using hl0)
    have Hnil := Lib.hid hnil
    clear hnil hl0
    have heq := Go.run_eql_slice_nil (P := Tryd.prog) w 34 9 none 0 c (by kernel_rfl)
    go_enter Tryd.func70, Tryd.ntmps70
    go_wp2_with (fail)
    go_ret
    exact ⟨_, rfl, by rw [Hnil.out]; exact ⟨rfl, .inl ⟨rfl, rfl⟩⟩, .refl _ _⟩
  | some ad =>
    have he : (w.alloc (.cells #[] 9)).ownsRow w.heap.size 9 1 (.slice (some ⟨w.heap.size, 0, none⟩) 0 0) 0 [] := own_empty w _ 9 1 rfl (Nat.le_refl _)
    obtain ⟨v', w', hrun, hown, hO, hat, _⟩ := run_append_row (P := Tryd.prog) w.heap.size 34 34 9 (.string .empty) 1 16 (by kernel_rfl) (by kernel_rfl) rfl (by omega) he c (hr.alloc (.cells #[] 9)) (wds_one l) (by simp only [maxLen]; omega) (by omega) (by simp)
    rw [Nat.zero_add, List.nil_append] at hown
    have hO' : Only [] w w' := ((Only.refl [] w).alloc (.cells #[] 9)).trans' hO (by simp [Value.ownBlock])
    have heq := Go.run_eql_slice_nil (P := Tryd.prog) w 34 9 (some ad) n c (by kernel_rfl)
    have Hrun := Lib.hid hrun
    have Hown := Lib.hid hown
    clear he hown hO hat hrun
    go_enter Tryd.func70, Tryd.ntmps70
    go_wp2_with ((at_builtin; refine wpList_append_run (o := ⟨some 7, _, _, _, _, _⟩) (by rfl) (.tmp 5) (.tmp 6) 34 34 (by rfl) (by rfl) (by rfl) Hrun.out ?_))
    go_ret
    exact ⟨v', rfl, Hown.out, hO'⟩

set_option maxRecDepth 100000 in
set_option maxHeartbeats 2000000 in
theorem cloneM_any (n c : Nat) (A : Option Addr) (l : List Mg) (w : World) (B : Nat) (hr : Rd w B 3 A n (mgs l)) (hn : n * 24 ≤ 140737488355328) :
    Calls Tryd.prog 71 #[.slice A n c] w fun e w' => ∃ v, e = .returned v ∧ w'.ownsRow w.heap.size 75 3 v n (mgs l) ∧ Only [] w w' := by
  cases A with
  | none =>
    obtain rfl : n = 0 := by
      rcases Nat.eq_zero_or_pos n with h | h
      · exact h
      · obtain ⟨_, e, _⟩ := hr.2 h; cases e
    obtain ⟨hl0, -⟩ := hr
    have hnil : mgs l = [] := List.eq_nil_of_length_eq_zero (by simpa using hl0)
    have Hnil := Lib.hid hnil
    clear hnil hl0
    have heq := Go.run_eql_slice_nil (P := Tryd.prog) w 35 75 none 0 c (by kernel_rfl)
    go_enter Tryd.func71, Tryd.ntmps71
    go_wp2_with (fail)
    go_ret
    exact ⟨_, rfl, by rw [Hnil.out]; exact ⟨rfl, .inl ⟨rfl, rfl⟩⟩, .refl _ _⟩
  | some ad =>
    have he : (w.alloc (.cells #[] 75)).ownsRow w.heap.size 75 3 (.slice (some ⟨w.heap.size, 0, none⟩) 0 0) 0 [] := own_empty w _ 75 3 rfl (Nat.le_refl _)
    obtain ⟨v', w', hrun, hown, hO, hat, _⟩ := run_append_row (P := Tryd.prog) w.heap.size 35 35 75 (.agg #[.int .i64 0, .int .i64 0, .int .i64 0]) 3 24 (by kernel_rfl) (by kernel_rfl) rfl (by omega) he c (hr.alloc (.cells #[] 75)) (mgs_one l) (by simp only [maxLen]; omega) (by omega) (by simp)
    rw [Nat.zero_add, List.nil_append] at hown
    have hO' : Only [] w w' := ((Only.refl [] w).alloc (.cells #[] 75)).trans' hO (by simp [Value.ownBlock])
    have heq := Go.run_eql_slice_nil (P := Tryd.prog) w 35 75 (some ad) n c (by kernel_rfl)
    have Hrun := Lib.hid hrun
    have Hown := Lib.hid hown
    clear he hown hO hat hrun
    go_enter Tryd.func71, Tryd.ntmps71
    go_wp2_with ((at_builtin; refine wpList_append_run (o := ⟨some 7, _, _, _, _, _⟩) (by rfl) (.tmp 5) (.tmp 6) 35 35 (by rfl) (by rfl) (by rfl) Hrun.out ?_))
    go_ret
    exact ⟨v', rfl, Hown.out, hO'⟩

set_option maxRecDepth 100000 in
set_option maxHeartbeats 2000000 in
theorem cloneS_any (n c : Nat) (A : Option Addr) (l : List Sp) (w : World) (B : Nat) (hr : Rd w B 2 A n (ses l)) (hn : n * 8 ≤ 140737488355328) :
    Calls Tryd.prog 72 #[.slice A n c] w fun e w' => ∃ v, e = .returned v ∧ w'.ownsRow w.heap.size 70 2 v n (ses l) ∧ Only [] w w' := by
  cases A with
  | none =>
    obtain rfl : n = 0 := by
      rcases Nat.eq_zero_or_pos n with h | h
      · exact h
      · obtain ⟨_, e, _⟩ := hr.2 h; cases e
    obtain ⟨hl0, -⟩ := hr
    have hnil : ses l = [] := List.eq_nil_of_length_eq_zero (by simpa using hl0)
    have Hnil := Lib.hid hnil
    clear hnil hl0
    have heq := Go.run_eql_slice_nil (P := Tryd.prog) w 36 70 none 0 c (by kernel_rfl)
    go_enter Tryd.func72, Tryd.ntmps72
    go_wp2_with (fail)
    go_ret
    exact ⟨_, rfl, by rw [Hnil.out]; exact ⟨rfl, .inl ⟨rfl, rfl⟩⟩, .refl _ _⟩
  | some ad =>
    have he : (w.alloc (.cells #[] 70)).ownsRow w.heap.size 70 2 (.slice (some ⟨w.heap.size, 0, none⟩) 0 0) 0 [] := own_empty w _ 70 2 rfl (Nat.le_refl _)
    obtain ⟨v', w', hrun, hown, hO, hat, _⟩ := run_append_row (P := Tryd.prog) w.heap.size 36 36 70 (.agg #[.int .i32 0, .int .i32 0]) 2 8 (by kernel_rfl) (by kernel_rfl) rfl (by omega) he c (hr.alloc (.cells #[] 70)) (ses_one l) (by simp only [maxLen]; omega) (by omega) (by simp)
    rw [Nat.zero_add, List.nil_append] at hown
    have hO' : Only [] w w' := ((Only.refl [] w).alloc (.cells #[] 70)).trans' hO (by simp [Value.ownBlock])
    have heq := Go.run_eql_slice_nil (P := Tryd.prog) w 36 70 (some ad) n c (by kernel_rfl)
    have Hrun := Lib.hid hrun
    have Hown := Lib.hid hown
    clear he hown hO hat hrun
    go_enter Tryd.func72, Tryd.ntmps72
    go_wp2_with ((at_builtin; refine wpList_append_run (o := ⟨some 7, _, _, _, _, _⟩) (by rfl) (.tmp 5) (.tmp 6) 36 36 (by rfl) (by rfl) (by rfl) Hrun.out ?_))
    go_ret
    exact ⟨v', rfl, Hown.out, hO'⟩

theorem own_type {w : World} {base : Nat} {e : TypeId} {size : Nat} {v : Value} {n : Nat} {xs : List Value} (h : w.ownsRow base e size v n xs) {k : Nat} (hk : v.ownBlock = some k) {b : Nat} {t : TypeId} {cs : List Value} (hb : Blk w b t cs) (ht : t ≠ e) : b ≠ k := by
  rcases h.2 with ⟨rfl, _⟩ | ⟨g, cap, cur, rfl, _, hg, _⟩
  · simp [Value.ownBlock] at hk
  · have hgk : g = k := by simpa [Value.ownBlock] using hk
    subst hgk
    exact hb.ne (cs' := cur.toList) (Blk.mk' hg rfl) ht
/-- five lists as they lie somewhere -/
structure Rd5 (w : World) (v0 v1 v2 v3 v4 : Value) (ws : List ByteArray) (ms : List Mg) (a b d : List Sp) : Prop where
  r0 : ∃ A c, v0 = .slice A ws.length c ∧ ws.length ≤ c ∧ Rd w w.heap.size 1 A ws.length (wds ws)
  r1 : ∃ A c, v1 = .slice A ms.length c ∧ ms.length ≤ c ∧ Rd w w.heap.size 3 A ms.length (mgs ms)
  r2 : ∃ A c, v2 = .slice A a.length c ∧ a.length ≤ c ∧ Rd w w.heap.size 2 A a.length (ses a)
  r3 : ∃ A c, v3 = .slice A b.length c ∧ b.length ≤ c ∧ Rd w w.heap.size 2 A b.length (ses b)
  r4 : ∃ A c, v4 = .slice A d.length c ∧ d.length ≤ c ∧ Rd w w.heap.size 2 A d.length (ses d)
theorem Rd5.only {w w' : World} {v0 v1 v2 v3 v4 : Value} {ws : List ByteArray} {ms : List Mg} {a b d : List Sp} (h : Rd5 w v0 v1 v2 v3 v4 ws ms a b d) (hO : Only [] w w') : Rd5 w' v0 v1 v2 v3 v4 ws ms a b d := by
  have key : ∀ {size : Nat} {v : Value} {n : Nat} {xs : List Value}, (∃ A c, v = .slice A n c ∧ n ≤ c ∧ Rd w w.heap.size size A n xs) → ∃ A c, v = .slice A n c ∧ n ≤ c ∧ Rd w' w'.heap.size size A n xs := by
    rintro size v n xs ⟨A, c, e, hc, r⟩
    exact ⟨A, c, e, hc, (r.only hO (by simp)).more hO.size⟩
  exact ⟨key h.r0, key h.r1, key h.r2, key h.r3, key h.r4⟩
/-- five lists of the call's own -/
structure Own5 (w : World) (base : Nat) (v0 v1 v2 v3 v4 : Value) (ws : List ByteArray) (ms : List Mg) (a b d : List Sp) : Prop where
  o0 : w.ownsRow base 9 1 v0 ws.length (wds ws)
  o1 : w.ownsRow base 75 3 v1 ms.length (mgs ms)
  o2 : w.ownsRow base 70 2 v2 a.length (ses a)
  o3 : w.ownsRow base 70 2 v3 b.length (ses b)
  o4 : w.ownsRow base 70 2 v4 d.length (ses d)
  n23 : ∀ k, v2.ownBlock = some k → v3.ownBlock ≠ some k
  n24 : ∀ k, v2.ownBlock = some k → v4.ownBlock ≠ some k
  n34 : ∀ k, v3.ownBlock = some k → v4.ownBlock ≠ some k
section
variable {w w' : World} {base : Nat} {v0 v1 v2 v3 v4 : Value} {ws : List ByteArray} {ms : List Mg} {a b d : List Sp}
theorem Own5.only (h : Own5 w base v0 v1 v2 v3 v4 ws ms a b d) {l : List Nat} (hO : Only l w w') (hl : ∀ x ∈ l, x < base ∨ ∃ (t : TypeId) (cs : List Value), Blk w x t cs ∧ t ≠ 9 ∧ t ≠ 75 ∧ t ≠ 70 ∨ (∃ es cl, w.heap[x]? = some (.map es cl))) : Own5 w' base v0 v1 v2 v3 v4 ws ms a b d := by
  have key : ∀ {e : TypeId} {size : Nat} {v : Value} {n : Nat} {xs : List Value}, (e = 9 ∨ e = 75 ∨ e = 70) → w.ownsRow base e size v n xs → ∀ k, v.ownBlock = some k → k ∉ l := by
    intro e size v n xs he ho k hk hm
    have hlt := own_lt ho hk
    rcases hl k hm with h | ⟨t, cs, ⟨hb, h1, h2, h3⟩ | ⟨es, cl, hb⟩⟩
    · omega
    · exact own_type ho hk hb (by rcases he with rfl | rfl | rfl <;> assumption) rfl
    · rcases ho.2 with ⟨e1, _⟩ | ⟨g, cap, cur, e1, _, hg, _⟩
      · rw [e1] at hk; cases hk
      · rw [e1] at hk
        obtain rfl : g = k := by simpa [Value.ownBlock] using hk
        rw [hg] at hb; cases hb
  exact ⟨own_only h.o0 hO (key (.inl rfl) h.o0), own_only h.o1 hO (key (.inr (.inl rfl)) h.o1), own_only h.o2 hO (key (.inr (.inr rfl)) h.o2), own_only h.o3 hO (key (.inr (.inr rfl)) h.o3), own_only h.o4 hO (key (.inr (.inr rfl)) h.o4), h.n23, h.n24, h.n34⟩
theorem Own5.down (h : Own5 w base v0 v1 v2 v3 v4 ws ms a b d) {base' : Nat} (hb : base' ≤ base) : Own5 w base' v0 v1 v2 v3 v4 ws ms a b d :=
  ⟨own_base h.o0 hb, own_base h.o1 hb, own_base h.o2 hb, own_base h.o3 hb, own_base h.o4 hb, h.n23, h.n24, h.n34⟩
theorem own_rd {e : TypeId} {size : Nat} {v : Value} {n : Nat} {xs : List Value} (h : w.ownsRow base e size v n xs) : ∃ A c, v = .slice A n c ∧ n ≤ c ∧ Rd w w.heap.size size A n xs := by
  obtain ⟨A, c, e, hc, r, _⟩ := own_slice h; exact ⟨A, c, e, hc, r⟩
theorem Own5.rd (h : Own5 w base v0 v1 v2 v3 v4 ws ms a b d) : Rd5 w v0 v1 v2 v3 v4 ws ms a b d := ⟨own_rd h.o0, own_rd h.o1, own_rd h.o2, own_rd h.o3, own_rd h.o4⟩
end
end Go.Proofs.YtgohinklnglgeaaDoor

set_option linter.unusedVariables false
set_option linter.unusedSimpArgs false
namespace Go.Proofs.YtgohinklnglgeaaDoor
open Go.RowKit
attribute [local go_sem] Oper.semAt_some

/-- where a reader stands, and its first refusal -/
structure RS where
  at_ : Nat
  bad : Option (Nat × Nat)
def RS.refuse (s : RS) (a y : Nat) : RS := match s.bad with | none => ⟨s.at_, some (a, y)⟩ | some _ => s
def numS (f : List UInt8) (most why : Nat) (s : RS) : Nat × RS :=
  if s.bad.isSome = true then (0, s)
  else if (getVal f (s.at_ : Int)).2.2 ≠ 0 then (0, s.refuse f.length 10)
  else if most < (getVal f (s.at_ : Int)).1 then (0, s.refuse s.at_ why)
  else ((getVal f (s.at_ : Int)).1, ⟨(getVal f (s.at_ : Int)).2.1, s.bad⟩)
def wordS (f : List UInt8) (s : RS) : ByteArray × RS :=
  if (numS f 256 21 s).2.bad.isSome = true then (ByteArray.empty, (numS f 256 21 s).2)
  else if (numS f 256 21 s).1 < 2 then (ByteArray.empty, (numS f 256 21 s).2.refuse s.at_ 21)
  else if f.length < (numS f 256 21 s).2.at_ + (numS f 256 21 s).1 then (ByteArray.empty, (numS f 256 21 s).2.refuse f.length 10)
  else (str ((f.drop (numS f 256 21 s).2.at_).take (numS f 256 21 s).1), ⟨(numS f 256 21 s).2.at_ + (numS f 256 21 s).1, none⟩)
/-- the program's reader in a world -/
def noV (w : World) (p : Nat) (s : RS) (v : Value) : Prop := match s.bad with
  | none => v = .pointer none
  | some (a, y) => ∃ b, p < b ∧ v = .pointer (some ⟨b, 0, none⟩) ∧ Blk w b 80 [.int .i64 (a : Int), .int .i64 (y : Int)]
def Rdr (w : World) (p : Nat) (F : Value) (s : RS) (rest : List Value) : Prop := ∃ v, Blk w p 85 ([F, .int .i64 (s.at_ : Int), v] ++ rest) ∧ noV w p s v

set_option maxRecDepth 100000 in
set_option maxHeartbeats 4000000 in
theorem refuse_any (w : World) (p : Nat) (F : Value) (s : RS) (r3 r4 r5 r6 r7 r8 r9 r10 : Value) (a y : Nat) (h : Rdr w p F s [r3, r4, r5, r6, r7, r8, r9, r10]) :
    Calls Tryd.prog 34 #[.pointer (some ⟨p, 0, none⟩), .int .i64 (a : Int), .int .i64 (y : Int)] w fun e w' => (∃ v, e = .returned v) ∧ Rdr w' p F (s.refuse a y) [r3, r4, r5, r6, r7, r8, r9, r10] ∧ Only [p] w w' := by
  obtain ⟨v, hb, hv⟩ := h
  have c2 : w.cell? ⟨p, 2, none⟩ = some v := hb.cell 2
  have f2 : w.frozen? ⟨p, 2, none⟩ = false := hb.frozen 2
  obtain ⟨at0, bd⟩ := s
  cases bd with
  | none =>
    obtain rfl : v = .pointer none := hv
    obtain ⟨g, hg⟩ : ∃ z, z = w.heap.size := ⟨_, rfl⟩
    obtain ⟨W, hW⟩ : ∃ z, z = w.alloc (.cells #[.int .i64 (a : Int), .int .i64 (y : Int)] 80) := ⟨_, rfl⟩
    have hb1 : Blk W p 85 ([F, .int .i64 (at0 : Int), .pointer none] ++ [r3, r4, r5, r6, r7, r8, r9, r10]) := by rw [hW]; exact hb.alloc _
    have hr : Blk W g 80 [.int .i64 (a : Int), .int .i64 (y : Int)] := by rw [hW]; exact Blk.new' _ _ _ hg.symm rfl
    have hO : Only [] w W := by rw [hW]; exact (Only.refl _ _).alloc _
    have c2' : W.cell? ⟨p, 2, none⟩ = some (.pointer none) := hb1.cell 2
    have f2' : W.frozen? ⟨p, 2, none⟩ = false := hb1.frozen 2
    have hpg : p < g := by have := hb.lt; omega
    rw [hW] at c2' f2'
    have Hg := Lib.hid hg
    have HW := Lib.hid hW
    clear hg hW
    go_enter Tryd.func34, Tryd.ntmps34
    go_wp2_with (fail)
    rw [← Hg.out, ← HW.out]
    go_end0
    have hb2 := hb1.set 2 (.pointer (some ⟨g, 0, none⟩))
    exact ⟨⟨_, rfl⟩, ⟨_, hb2, ⟨g, hpg, rfl, hr.far (p := ⟨p, 2, none⟩) (by show g ≠ p; omega) _⟩⟩, (hO.mono (by simp)).setCell (.inl (by simp)) _⟩
  | some b =>
    obtain ⟨a0, y0⟩ := b
    obtain ⟨b, hpb, rfl, hbb⟩ := hv
    go_enter Tryd.func34, Tryd.ntmps34
    go_wp2_with (fail)
    go_end0
    exact ⟨⟨_, rfl⟩, ⟨_, hb, ⟨b, hpb, rfl, hbb⟩⟩, Only.refl _ _⟩

set_option maxRecDepth 100000 in
set_option maxHeartbeats 4000000 in
theorem number_any (w : World) (p B : Nat) (A : Option Addr) (n c : Nat) (f : List UInt8) (hl : f.length = n) (hR : Rd w B 1 A n (bvs f)) (hBp : B ≤ p) (hn : n ≤ 140737488351232) (hnc : n ≤ c) (s : RS) (hs : s.at_ ≤ n) (r3 r4 r5 r6 r7 r8 r9 r10 : Value) (most why : Nat) (hm : most < 4294967296)
    (h : Rdr w p (.slice A n c) s [r3, r4, r5, r6, r7, r8, r9, r10]) :
    Calls Tryd.prog 33 #[.pointer (some ⟨p, 0, none⟩), .int .u32 (most : Int), .int .i64 (why : Int)] w fun e w' => e = .returned (.int .i64 ((numS f most why s).1 : Int)) ∧ Rdr w' p (.slice A n c) (numS f most why s).2 [r3, r4, r5, r6, r7, r8, r9, r10] ∧ Only [p] w w' := by
  subst hl
  obtain ⟨at0, bd⟩ := s
  have h0 := h
  obtain ⟨v, hb, hv⟩ := h
  have c0 : w.cell? ⟨p, 0, none⟩ = some (.slice A f.length c) := hb.cell 0
  have c1 : w.cell? ⟨p, 1, none⟩ = some (.int .i64 (at0 : Int)) := hb.cell 1
  have c2 : w.cell? ⟨p, 2, none⟩ = some v := hb.cell 2
  have f1 : w.frozen? ⟨p, 1, none⟩ = false := hb.frozen 1
  cases bd with
  | some b =>
    obtain ⟨a0, y0⟩ := b
    obtain ⟨b, hpb, rfl, hbb⟩ := hv
    go_enter Tryd.func33, Tryd.ntmps33
    go_wp2_with (fail)
    go_ret
    exact ⟨rfl, h0, Only.refl _ _⟩
  | none =>
    obtain rfl : v = .pointer none := hv
    obtain ⟨G, hG⟩ : ∃ G, G = getVal f (at0 : Int) := ⟨_, rfl⟩
    have hpz := hb.lt
    have hget : ∀ W, Only [] w W → Calls Tryd.prog 58 #[.slice A f.length c, .int .i64 (at0 : Int)] W fun e w' => e = .returned (.tuple #[.int .u32 (G.1 : Int), .int .i64 (G.2.1 : Int), .int .i64 (G.2.2 : Int)]) ∧ W = w' := fun W hW => by
      rw [hG]; exact get_any A f.length c f W ((hR.only hW (by simp)).more (by have := hW.size; omega)) hn hnc (at0 : Int)
    have hgb := getVal_bd f (at0 : Int)
    have hnum : numS f most why ⟨at0, none⟩ = if G.2.2 ≠ 0 then (0, RS.refuse ⟨at0, none⟩ f.length 10) else if most < G.1 then (0, RS.refuse ⟨at0, none⟩ at0 why) else (G.1, ⟨G.2.1, none⟩) := by rw [hG]; rfl
    rw [hnum]
    rw [← hG] at hgb
    obtain ⟨gn, gt, ge⟩ := G
    simp only at hgb hget ⊢
    have Hget := Lib.hid hget
    clear hG hget hnum
    by_cases he : ge = 0
    · subst he
      rw [if_neg (by simp)]
      by_cases hm2 : most < gn
      · rw [if_pos hm2]
        have hmi : decide ((most : Int) < (gn : Int)) = true := decide_eq_true (by omega)
        go_enter Tryd.func33, Tryd.ntmps33
        go_wp2_with (fail)
        go_region_with (
          go_at_call 58
          refine (Hget.out _ ?_).mono ?_
          exact (by first | exact Only.refl [] w | exact (Only.refl [] w).drew)
          rintro e w' ⟨rfl, rfl⟩)
        all_goals go_wp2_with (fail)
        all_goals
          refine (refuse_any w.drew p _ ⟨at0, none⟩ r3 r4 r5 r6 r7 r8 r9 r10 at0 why h0).mono ?_
          rintro e w2 ⟨⟨v, rfl⟩, hR2, hO2⟩
          go_wp2_with (fail)
          go_ret
          exact ⟨rfl, hR2, hO2.ofDrew⟩
      · rw [if_neg hm2]
        have hmi : decide ((most : Int) < (gn : Int)) = false := decide_eq_false (by omega)
        have hwg : IntKind.i64.wrap (gn : Int) = (gn : Int) := IntWalk.i64_in _ (by omega)
        go_enter Tryd.func33, Tryd.ntmps33
        go_wp2_with (fail)
        go_region_with (
          go_at_call 58
          refine (Hget.out _ ?_).mono ?_
          exact (by first | exact Only.refl [] w | exact (Only.refl [] w).drew)
          rintro e w' ⟨rfl, rfl⟩)
        all_goals go_wp2_with (fail)
        all_goals
          have hb2 := (show Blk w.drew p _ _ from hb).set 1 (.int .i64 (gt : Int))
          go_ret
          exact ⟨rfl, ⟨_, hb2, rfl⟩, ((Only.refl [p] w).drew).setCell (.inl (by simp)) _⟩
    · rw [if_pos he]
      have hei : ((ge : Int) != 0) = true := by simp; exact he
      go_enter Tryd.func33, Tryd.ntmps33
      go_wp2_with (fail)
      go_region_with (
        go_at_call 58
        refine (Hget.out _ ?_).mono ?_
        exact (by first | exact Only.refl [] w | exact (Only.refl [] w).drew)
        rintro e w' ⟨rfl, rfl⟩)
      all_goals go_wp2_with (fail)
      all_goals
        refine (refuse_any w.drew p _ ⟨at0, none⟩ r3 r4 r5 r6 r7 r8 r9 r10 f.length 10 h0).mono ?_
        rintro e w2 ⟨⟨v, rfl⟩, hR2, hO2⟩
        go_wp2_with (fail)
        go_ret
        exact ⟨rfl, hR2, hO2.ofDrew⟩
end Go.Proofs.YtgohinklnglgeaaDoor

set_option linter.unusedVariables false
set_option linter.unusedSimpArgs false
namespace Go.Proofs.YtgohinklnglgeaaDoor
open Go.RowKit
attribute [local go_sem] Oper.semAt_some

theorem numS_at (f : List UInt8) (most why : Nat) (s : RS) (hs : s.at_ ≤ f.length) : (numS f most why s).2.at_ ≤ f.length ∧ (numS f most why s).1 ≤ most := by
  have hg := getVal_bd f (s.at_ : Int)
  unfold numS
  split
  · exact ⟨hs, by simp⟩
  · split
    · refine ⟨?_, by simp⟩
      unfold RS.refuse; split <;> exact hs
    · split
      · refine ⟨?_, by simp⟩
        unfold RS.refuse; split <;> exact hs
      · exact ⟨hg.2.2 (by omega), by omega⟩

set_option maxRecDepth 100000 in
set_option maxHeartbeats 4000000 in
theorem rdWord_any (w : World) (p B : Nat) (A : Option Addr) (n c : Nat) (f : List UInt8) (hl : f.length = n) (hR : Rd w B 1 A n (bvs f)) (hBp : B ≤ p) (hn : n ≤ 140737488351232) (hnc : n ≤ c) (s : RS) (hs : s.at_ ≤ n) (r3 r4 r5 r6 r7 r8 r9 r10 : Value)
    (h : Rdr w p (.slice A n c) s [r3, r4, r5, r6, r7, r8, r9, r10]) :
    Calls Tryd.prog 57 #[.pointer (some ⟨p, 0, none⟩)] w fun e w' => e = .returned (.string (wordS f s).1) ∧ Rdr w' p (.slice A n c) (wordS f s).2 [r3, r4, r5, r6, r7, r8, r9, r10] ∧ Only [p] w w' := by
  have h0 := h
  obtain ⟨v, hb, hv⟩ := h
  have c1 : w.cell? ⟨p, 1, none⟩ = some (.int .i64 (s.at_ : Int)) := hb.cell 1
  have hnum := number_any w p B A n c f hl hR hBp hn hnc s hs r3 r4 r5 r6 r7 r8 r9 r10 256 21 (by omega) h0
  have hat := numS_at f 256 21 s (by omega)
  obtain ⟨NS, hNS⟩ : ∃ z, z = numS f 256 21 s := ⟨_, rfl⟩
  have hw : wordS f s = if NS.2.bad.isSome = true then (ByteArray.empty, NS.2) else if NS.1 < 2 then (ByteArray.empty, NS.2.refuse s.at_ 21) else if f.length < NS.2.at_ + NS.1 then (ByteArray.empty, NS.2.refuse f.length 10) else (str ((f.drop NS.2.at_).take NS.1), ⟨NS.2.at_ + NS.1, none⟩) := by rw [hNS]; rfl
  rw [hw]
  rw [← hNS] at hnum hat
  have Hnum := Lib.hid hnum
  clear hNS hw h0 hb hv hnum
  go_enter Tryd.func57, Tryd.ntmps57
  go_wp2_with (fail)
  refine Hnum.out.mono ?_
  rintro e w1 ⟨rfl, h1, hO1⟩
  clear Hnum c1
  obtain ⟨N, at1, bd1⟩ := NS
  have h2 := h1
  obtain ⟨v1, hb1, hv1⟩ := h1
  have d2 : w1.cell? ⟨p, 2, none⟩ = some v1 := hb1.cell 2
  cases bd1 with
  | some x =>
    obtain ⟨a0, y0⟩ := x
    obtain ⟨b, hpb, rfl, hbb⟩ := hv1
    go_wp2_with (fail)
    go_ret
    exact ⟨rfl, h2, hO1⟩
  | none =>
    obtain rfl : v1 = .pointer none := hv1
    by_cases hN : N < 2
    · have hNi : (N : Int) < 2 := by omega
      go_wp2_with (fail)
      refine (refuse_any w1 p _ ⟨at1, none⟩ r3 r4 r5 r6 r7 r8 r9 r10 s.at_ 21 h2).mono ?_
      rintro e w2 ⟨⟨v, rfl⟩, hR2, hO2⟩
      go_wp2_with (fail)
      go_ret
      simp only [hN, if_true, Option.isSome_none, Bool.false_eq_true, if_false]
      exact ⟨rfl, hR2, hO1.trans hO2⟩
    · have hNi : ¬ (N : Int) < 2 := by omega
      have e0 : w1.cell? ⟨p, 0, none⟩ = some (.slice A n c) := hb1.cell 0
      have e1 : w1.cell? ⟨p, 1, none⟩ = some (.int .i64 (at1 : Int)) := hb1.cell 1
      have g1 : w1.frozen? ⟨p, 1, none⟩ = false := hb1.frozen 1
      simp only at hat
      by_cases hfit : f.length < at1 + N
      · have hwr : IntKind.i64.wrap ((n : Int) - (at1 : Int)) = (n : Int) - (at1 : Int) := IntWalk.i64_in _ (by omega)
        have hlt : decide ((n : Int) - (at1 : Int) < (N : Int)) = true := decide_eq_true (by omega)
        go_wp2_with (fail)
        go_quiet (fail)
        go_wp2_with (fail)
        rw [← hl]
        refine (refuse_any _ p _ ⟨at1, none⟩ r3 r4 r5 r6 r7 r8 r9 r10 f.length 10 ⟨_, hb1.drewN _, rfl⟩).mono ?_
        rintro e w2 ⟨⟨v, rfl⟩, hR2, hO2⟩
        go_wp2_with (fail)
        go_ret
        simp only [hN, hfit, if_true, Option.isSome_none, Bool.false_eq_true, if_false]
        exact ⟨rfl, by first | exact hR2 | (rw [hl] at hR2; exact hR2), (hO1.drewN _).trans hO2⟩
      · have hwr : IntKind.i64.wrap ((n : Int) - (at1 : Int)) = (n : Int) - (at1 : Int) := IntWalk.i64_in _ (by omega)
        have hlt : decide ((n : Int) - (at1 : Int) < (N : Int)) = false := decide_eq_false (by omega)
        go_wp2_with (fail)
        go_quiet (fail)
        go_wp2_with (fail)
        refine name_it (p := fun y => Code.wp _ _ _ _ y) ?_
        intro W2 H2
        have hb2 : Blk W2 p 85 ([.slice A n c, .int .i64 ((at1 : Int) + (N : Int)), .pointer none] ++ [r3, r4, r5, r6, r7, r8, r9, r10]) := by rw [H2.out]; exact (hb1.drewN _).set 1 _
        have hO2 : Only [p] w W2 := by rw [H2.out]; exact (hO1.drewN _).setCell (.inl (by simp)) _
        have hR2 : Rd W2 B 1 A n (bvs f) := hR.only hO2 (by simp; omega)
        have k0 : W2.cell? ⟨p, 0, none⟩ = some (.slice A n c) := hb2.cell 0
        have k1 : W2.cell? ⟨p, 1, none⟩ = some (.int .i64 ((at1 : Int) + (N : Int))) := hb2.cell 1
        obtain ⟨A', hsl, hX⟩ := hR2.slice_lh (P := Tryd.prog) Tryd.underlying22 (by kernel_rfl) (k := at1) (m := N) (c := c) (lo := (at1 : Int)) (hi := (at1 : Int) + (N : Int)) rfl (by omega) (by omega) hnc
        rw [Nat.mul_one, Nat.mul_one, bvs_drop, bvs_take] at hX
        have hcv := run_string_rd (P := Tryd.prog) 22 9 5 Tryd.underlying22 Tryd.underlying5 Tryd.underlying9 (c - at1) hX
        have hcvd : ∀ k, (convert 22 9 (.slice A' N (c - at1))).run Tryd.prog (W2.drewN k) = .ok (.string (str ((f.drop at1).take N))) (W2.drewN k) := fun k => run_string_rd (P := Tryd.prog) 22 9 5 Tryd.underlying22 Tryd.underlying5 Tryd.underlying9 (c - at1) (hX.drewN k)
        have hws : IntKind.i64.wrap ((at1 : Int) + (N : Int) - (N : Int)) = (at1 : Int) := by rw [IntWalk.i64_in _ (by omega)]; omega
        have Hb2 := Lib.hid hb2
        clear H2 hX hR2 hwr hlt d2 e0 e1 g1 hb1 hb2
        go_quiet (fail)
        go_wp2_with (fail)
        go_ret
        simp only [hN, hfit, Option.isSome_none, Bool.false_eq_true, if_false]
        exact ⟨rfl, ⟨_, by simpa using Hb2.out.drewN _, rfl⟩, hO2.drewN _⟩
end Go.Proofs.YtgohinklnglgeaaDoor

set_option linter.unusedVariables false
set_option linter.unusedSimpArgs false
namespace Go.Proofs.YtgohinklnglgeaaDoor
open Go.RowKit

theorem mgs_append (a b : List Mg) : mgs (a ++ b) = mgs a ++ mgs b := by simp [mgs]
theorem mgs_cons (p : Mg) (l : List Mg) : mgs (p :: l) = .int .i64 p.l :: .int .i64 p.r :: .int .i64 p.id :: mgs l := by simp [mgs, Mg.enc]
theorem mgs_take (l : List Mg) (k : Nat) : (mgs l).take (k * 3) = mgs (l.take k) := by
  induction l generalizing k with
  | nil => simp [mgs]
  | cons p l ih =>
    cases k with
    | zero => simp [mgs]
    | succ k =>
      rw [Nat.succ_mul, List.take_succ_cons, mgs_cons, mgs_cons, ← ih k]
      rfl
theorem mgs_drop (l : List Mg) (k : Nat) : (mgs l).drop (k * 3) = mgs (l.drop k) := by
  induction l generalizing k with
  | nil => simp [mgs]
  | cons p l ih =>
    cases k with
    | zero => simp
    | succ k =>
      rw [Nat.succ_mul, List.drop_succ_cons, mgs_cons, ← ih k]
      rfl
theorem mgs_replicate (n : Nat) : mgs (List.replicate n ⟨0, 0, 0⟩) = rep n [.int .i64 0, .int .i64 0, .int .i64 0] := by
  induction n with
  | zero => rfl
  | succ n ih => rw [List.replicate_succ, rep_succ, ← ih, mgs_cons]; rfl
theorem mgs_set (l : List Mg) (k : Nat) (p : Mg) (hk : k < l.length) : (((mgs l).set (k * 3) (.int .i64 p.l)).set (k * 3 + 1) (.int .i64 p.r)).set (k * 3 + 2) (.int .i64 p.id) = mgs (l.set k p) := by
  induction l generalizing k with
  | nil => simp at hk
  | cons q l ih =>
    cases k with
    | zero => rw [mgs_cons]; simp [mgs_cons]
    | succ k =>
      rw [mgs_cons, List.set_cons_succ, mgs_cons, ← ih k (by simpa using hk), Nat.succ_mul]
      rfl

set_option maxRecDepth 100000 in
set_option maxHeartbeats 1000000 in
theorem sameM_any (A C : Option Addr) (n c m d B B' : Nat) (x : List Mg) (w : World) (hx : Rd w B 3 A n (mgs x)) (hy : Rd w B' 3 C n (mgs x)) (hxl : x.length = n) (hn : n ≤ 17592186043904) :
    Calls Tryd.prog 52 #[.slice A n c, .slice C n d] w fun e w' => e = .returned (.bool true) ∧ ∃ k, w' = w.drewN k := by
  have Hxl := Lib.hid hxl
  clear hxl
  go_enter Tryd.func52, Tryd.ntmps52
  go_wp2_with (fail)
  go_loopw [5] (fun i wr => ∃ k : Nat, k ≤ n ∧ i = .int .i64 (k : Int) ∧ ∃ j, wr = w.drewN j) (fun i _ => n - (intOf i).toNat)
  case atStart => exact ⟨0, by omega, rfl, 0, rfl⟩
  case round =>
    obtain ⟨k, hk, rfl, j, hw⟩ := hrel
    have Hw := Lib.hid hw
    clear hw
    by_cases hlt : k < n
    · obtain ⟨p, hp⟩ : ∃ p, x[k]? = some p := ⟨_, List.getElem?_eq_getElem (by rw [Hxl.out]; exact hlt)⟩
      obtain ⟨g, o, rfl, _, c0, c1, c2⟩ := (show Rd wr B 3 A n (mgs x) by rw [Hw.out]; exact hx).mg hp
      obtain ⟨g', o', rfl, _, d0, d1, d2⟩ := (show Rd wr B' 3 C n (mgs x) by rw [Hw.out]; exact hy).mg hp
      clear hp
      go_wp2_with (fail)
      go_quiet (fail)
      go_wp2
      go_roundw
      case rel => exact ⟨k + 1, by omega, by go_num, _, by rw [Hw.out, World.drewN_drewN]⟩
      case measure => simp [intOf]; omega
    · obtain rfl : k = n := by omega
      go_wp2
      go_ret
      exact ⟨rfl, _, Hw.out⟩

/-- what Roomy lays down: the list, and 80 marks behind it -/
def roomyM (l : List Mg) (m : Mg) : List Mg := l ++ List.replicate 80 m
theorem roomyM_set (l : List Mg) (m : Mg) (k : Nat) (h : k < 80) : (l ++ List.replicate k m ++ List.replicate (80 - k) (⟨0, 0, 0⟩ : Mg)).set (l.length + k) m = l ++ List.replicate (k + 1) m ++ List.replicate (80 - (k + 1)) (⟨0, 0, 0⟩ : Mg) := by
  have e : 80 - k = (80 - (k + 1)) + 1 := by omega
  rw [e, List.replicate_succ, List.set_append_right _ _ (by simp)]
  have e2 : l.length + k - (l ++ List.replicate k m).length = 0 := by simp
  rw [e2, List.set_cons_zero, List.replicate_succ', List.append_assoc, List.append_assoc, List.append_assoc]
  rfl

theorem rd_roomyM {w1 : World} {h n : Nat} {l : List Mg} {m : Mg} {t : TypeId} (hb1 : Blk w1 h t (mgs (roomyM l m))) (hl : l.length = n) :
    Rd w1 w1.heap.size 3 (some ⟨h, 0, none⟩) (n + 80) (mgs (roomyM l m)) ∧ Rd w1 w1.heap.size 3 (some ⟨h, 0, none⟩) n (mgs l) := by
  have hf : Rd w1 w1.heap.size 3 (some ⟨h, 0, none⟩) (n + 80) (mgs (roomyM l m)) := (Rd.whole hb1 (by rw [mgs_length, roomyM, List.length_append, List.length_replicate, hl])).more hb1.lt
  refine ⟨hf, ?_⟩
  have h1 := hf.take (k := n) (by omega)
  rw [mgs_take] at h1
  have e : (roomyM l m).take n = l := by unfold roomyM; rw [List.take_append_of_le_length (by omega), List.take_of_length_le (by omega)]
  rwa [e] at h1
end Go.Proofs.YtgohinklnglgeaaDoor

set_option linter.unusedVariables false
set_option linter.unusedSimpArgs false
namespace Go.Proofs.YtgohinklnglgeaaDoor
open Go.RowKit

theorem wds_append (a b : List ByteArray) : wds (a ++ b) = wds a ++ wds b := by simp [wds]
theorem wds_take (l : List ByteArray) (k : Nat) : (wds l).take k = wds (l.take k) := by simp [wds, List.map_take]
theorem wds_drop (l : List ByteArray) (k : Nat) : (wds l).drop k = wds (l.drop k) := by simp [wds, List.map_drop]
theorem wds_replicate (n : Nat) : wds (List.replicate n .empty) = rep n [.string .empty] := by
  induction n with
  | zero => rfl
  | succ n ih => rw [List.replicate_succ, rep_succ, ← ih]; simp [wds]
theorem wds_set (l : List ByteArray) (k : Nat) (p : ByteArray) : (wds l).set k (.string p) = wds (l.set k p) := by simp [wds, List.map_set]

set_option maxRecDepth 100000 in
set_option maxHeartbeats 1000000 in
theorem sameW_any (A C : Option Addr) (n c m d B B' : Nat) (x : List ByteArray) (w : World) (hx : Rd w B 1 A n (wds x)) (hy : Rd w B' 1 C n (wds x)) (hxl : x.length = n) (hn : n ≤ 17592186043904) :
    Calls Tryd.prog 51 #[.slice A n c, .slice C n d] w fun e w' => e = .returned (.bool true) ∧ ∃ k, w' = w.drewN k := by
  have Hxl := Lib.hid hxl
  clear hxl
  go_enter Tryd.func51, Tryd.ntmps51
  go_wp2_with (fail)
  go_loopw [5] (fun i wr => ∃ k : Nat, k ≤ n ∧ i = .int .i64 (k : Int) ∧ ∃ j, wr = w.drewN j) (fun i _ => n - (intOf i).toNat)
  case atStart => exact ⟨0, by omega, rfl, 0, rfl⟩
  case round =>
    obtain ⟨k, hk, rfl, j, hw⟩ := hrel
    have Hw := Lib.hid hw
    clear hw
    by_cases hlt : k < n
    · obtain ⟨p, hp⟩ : ∃ p, x[k]? = some p := ⟨_, List.getElem?_eq_getElem (by rw [Hxl.out]; exact hlt)⟩
      obtain ⟨g, o, rfl, _, c0⟩ := (show Rd wr B 1 A n (wds x) by rw [Hw.out]; exact hx).wd hp
      have hse : (p.toList == p.toList) = true := beq_self_eq_true _
      obtain ⟨g', o', rfl, _, d0⟩ := (show Rd wr B' 1 C n (wds x) by rw [Hw.out]; exact hy).wd hp
      clear hp
      go_wp2_with (fail)
      go_quiet (fail)
      go_wp2
      go_roundw
      case rel => exact ⟨k + 1, by omega, by go_num, _, by rw [Hw.out, World.drewN_drewN]⟩
      case measure => simp [intOf]; omega
    · obtain rfl : k = n := by omega
      go_wp2
      go_ret
      exact ⟨rfl, _, Hw.out⟩

/-- what Roomy lays down: the list, and 80 marks behind it -/
def roomyW (l : List ByteArray) (m : ByteArray) : List ByteArray := l ++ List.replicate 80 m
theorem roomyW_set (l : List ByteArray) (m : ByteArray) (k : Nat) (h : k < 80) : (l ++ List.replicate k m ++ List.replicate (80 - k) ByteArray.empty).set (l.length + k) m = l ++ List.replicate (k + 1) m ++ List.replicate (80 - (k + 1)) ByteArray.empty := by
  have e : 80 - k = (80 - (k + 1)) + 1 := by omega
  rw [e, List.replicate_succ, List.set_append_right _ _ (by simp)]
  have e2 : l.length + k - (l ++ List.replicate k m).length = 0 := by simp
  rw [e2, List.set_cons_zero, List.replicate_succ', List.append_assoc, List.append_assoc, List.append_assoc]
  rfl

theorem rd_roomyW {w1 : World} {h n : Nat} {l : List ByteArray} {m : ByteArray} {t : TypeId} (hb1 : Blk w1 h t (wds (roomyW l m))) (hl : l.length = n) :
    Rd w1 w1.heap.size 1 (some ⟨h, 0, none⟩) (n + 80) (wds (roomyW l m)) ∧ Rd w1 w1.heap.size 1 (some ⟨h, 0, none⟩) n (wds l) := by
  have hf : Rd w1 w1.heap.size 1 (some ⟨h, 0, none⟩) (n + 80) (wds (roomyW l m)) := (Rd.whole hb1 (by rw [wds_length, roomyW, List.length_append, List.length_replicate, hl, Nat.mul_one])).more hb1.lt
  refine ⟨hf, ?_⟩
  have h1 := hf.take (k := n) (by omega)
  rw [Nat.mul_one, wds_take] at h1
  have e : (roomyW l m).take n = l := by unfold roomyW; rw [List.take_append_of_le_length (by omega), List.take_of_length_le (by omega)]
  rwa [e] at h1
end Go.Proofs.YtgohinklnglgeaaDoor
