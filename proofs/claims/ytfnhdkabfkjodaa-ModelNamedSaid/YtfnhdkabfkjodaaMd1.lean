/- slices.Clone at the three kinds of lists; model.copied. Printed by wip/gen_md1.py. -/
import Derived.Test.YtfnhdkabfkjodaaMd0
set_option linter.unusedVariables false
set_option linter.unusedSimpArgs false
namespace Go.Proofs.Ytfnhdkabfkjodaa
open Go.RowKit

set_option maxRecDepth 100000 in
set_option maxHeartbeats 2000000 in
theorem cloneW_any (n c : Nat) (A : Option Addr) (l : List ByteArray) (w : World) (B : Nat) (hr : Rd w B 1 A n (wds l)) (hn : n * 16 ≤ 140737488355328) :
    Calls Try.prog 63 #[.slice A n c] w fun e w' => ∃ v, e = .returned v ∧ w'.ownsRow w.heap.size 9 1 v n (wds l) ∧ Only [] w w' := by
  cases A with
  | none =>
    obtain rfl : n = 0 := by
      rcases Nat.eq_zero_or_pos n with h | h
      · exact h
      · obtain ⟨_, e, _⟩ := hr.2 h; cases e
    obtain ⟨hl0, -⟩ := hr
    have hnil : wds l = [] := List.eq_nil_of_length_eq_zero (by simpa using hl0)
    have Hnil := Lib.hid hnil
    clear hnil hl0
    have heq := Go.run_eql_slice_nil (P := Try.prog) w 22 9 none 0 c (by kernel_rfl)
    go_enter Try.func63, Try.ntmps63
    go_wp2_with (fail)
    go_ret
    exact ⟨_, rfl, by rw [Hnil.out]; exact ⟨rfl, .inl ⟨rfl, rfl⟩⟩, .refl _ _⟩
  | some ad =>
    have he : (w.alloc (.cells #[] 9)).ownsRow w.heap.size 9 1 (.slice (some ⟨w.heap.size, 0, none⟩) 0 0) 0 [] := own_empty w _ 9 1 rfl (Nat.le_refl _)
    obtain ⟨v', w', hrun, hown, hO, hat, _⟩ := run_append_row (P := Try.prog) w.heap.size 22 22 9 (.string .empty) 1 16 (by kernel_rfl) (by kernel_rfl) rfl (by omega) he c (hr.alloc (.cells #[] 9)) (wds_one l) (by simp only [maxLen]; omega) (by omega) (by simp)
    rw [Nat.zero_add, List.nil_append] at hown
    have hO' : Only [] w w' := ((Only.refl [] w).alloc (.cells #[] 9)).trans' hO (by simp [Value.ownBlock])
    have heq := Go.run_eql_slice_nil (P := Try.prog) w 22 9 (some ad) n c (by kernel_rfl)
    have Hrun := Lib.hid hrun
    have Hown := Lib.hid hown
    clear he hown hO hat hrun
    go_enter Try.func63, Try.ntmps63
    go_wp2_with ((at_builtin; refine wpList_append_run (o := ⟨some 7, _, _, _, _, _⟩) (by rfl) (.tmp 5) (.tmp 6) 22 22 (by rfl) (by rfl) (by rfl) Hrun.out ?_))
    go_ret
    exact ⟨v', rfl, Hown.out, hO'⟩

set_option maxRecDepth 100000 in
set_option maxHeartbeats 2000000 in
theorem cloneM_any (n c : Nat) (A : Option Addr) (l : List Mg) (w : World) (B : Nat) (hr : Rd w B 3 A n (mgs l)) (hn : n * 24 ≤ 140737488355328) :
    Calls Try.prog 64 #[.slice A n c] w fun e w' => ∃ v, e = .returned v ∧ w'.ownsRow w.heap.size 38 3 v n (mgs l) ∧ Only [] w w' := by
  cases A with
  | none =>
    obtain rfl : n = 0 := by
      rcases Nat.eq_zero_or_pos n with h | h
      · exact h
      · obtain ⟨_, e, _⟩ := hr.2 h; cases e
    obtain ⟨hl0, -⟩ := hr
    have hnil : mgs l = [] := List.eq_nil_of_length_eq_zero (by simpa using hl0)
    have Hnil := Lib.hid hnil
    clear hnil hl0
    have heq := Go.run_eql_slice_nil (P := Try.prog) w 23 38 none 0 c (by kernel_rfl)
    go_enter Try.func64, Try.ntmps64
    go_wp2_with (fail)
    go_ret
    exact ⟨_, rfl, by rw [Hnil.out]; exact ⟨rfl, .inl ⟨rfl, rfl⟩⟩, .refl _ _⟩
  | some ad =>
    have he : (w.alloc (.cells #[] 38)).ownsRow w.heap.size 38 3 (.slice (some ⟨w.heap.size, 0, none⟩) 0 0) 0 [] := own_empty w _ 38 3 rfl (Nat.le_refl _)
    obtain ⟨v', w', hrun, hown, hO, hat, _⟩ := run_append_row (P := Try.prog) w.heap.size 23 23 38 (.agg #[.int .i64 0, .int .i64 0, .int .i64 0]) 3 24 (by kernel_rfl) (by kernel_rfl) rfl (by omega) he c (hr.alloc (.cells #[] 38)) (mgs_one l) (by simp only [maxLen]; omega) (by omega) (by simp)
    rw [Nat.zero_add, List.nil_append] at hown
    have hO' : Only [] w w' := ((Only.refl [] w).alloc (.cells #[] 38)).trans' hO (by simp [Value.ownBlock])
    have heq := Go.run_eql_slice_nil (P := Try.prog) w 23 38 (some ad) n c (by kernel_rfl)
    have Hrun := Lib.hid hrun
    have Hown := Lib.hid hown
    clear he hown hO hat hrun
    go_enter Try.func64, Try.ntmps64
    go_wp2_with ((at_builtin; refine wpList_append_run (o := ⟨some 7, _, _, _, _, _⟩) (by rfl) (.tmp 5) (.tmp 6) 23 23 (by rfl) (by rfl) (by rfl) Hrun.out ?_))
    go_ret
    exact ⟨v', rfl, Hown.out, hO'⟩

set_option maxRecDepth 100000 in
set_option maxHeartbeats 2000000 in
theorem cloneS_any (n c : Nat) (A : Option Addr) (l : List Sp) (w : World) (B : Nat) (hr : Rd w B 2 A n (ses l)) (hn : n * 8 ≤ 140737488355328) :
    Calls Try.prog 59 #[.slice A n c] w fun e w' => ∃ v, e = .returned v ∧ w'.ownsRow w.heap.size 67 2 v n (ses l) ∧ Only [] w w' := by
  cases A with
  | none =>
    obtain rfl : n = 0 := by
      rcases Nat.eq_zero_or_pos n with h | h
      · exact h
      · obtain ⟨_, e, _⟩ := hr.2 h; cases e
    obtain ⟨hl0, -⟩ := hr
    have hnil : ses l = [] := List.eq_nil_of_length_eq_zero (by simpa using hl0)
    have Hnil := Lib.hid hnil
    clear hnil hl0
    have heq := Go.run_eql_slice_nil (P := Try.prog) w 24 67 none 0 c (by kernel_rfl)
    go_enter Try.func59, Try.ntmps59
    go_wp2_with (fail)
    go_ret
    exact ⟨_, rfl, by rw [Hnil.out]; exact ⟨rfl, .inl ⟨rfl, rfl⟩⟩, .refl _ _⟩
  | some ad =>
    have he : (w.alloc (.cells #[] 67)).ownsRow w.heap.size 67 2 (.slice (some ⟨w.heap.size, 0, none⟩) 0 0) 0 [] := own_empty w _ 67 2 rfl (Nat.le_refl _)
    obtain ⟨v', w', hrun, hown, hO, hat, _⟩ := run_append_row (P := Try.prog) w.heap.size 24 24 67 (.agg #[.int .i32 0, .int .i32 0]) 2 8 (by kernel_rfl) (by kernel_rfl) rfl (by omega) he c (hr.alloc (.cells #[] 67)) (ses_one l) (by simp only [maxLen]; omega) (by omega) (by simp)
    rw [Nat.zero_add, List.nil_append] at hown
    have hO' : Only [] w w' := ((Only.refl [] w).alloc (.cells #[] 67)).trans' hO (by simp [Value.ownBlock])
    have heq := Go.run_eql_slice_nil (P := Try.prog) w 24 67 (some ad) n c (by kernel_rfl)
    have Hrun := Lib.hid hrun
    have Hown := Lib.hid hown
    clear he hown hO hat hrun
    go_enter Try.func59, Try.ntmps59
    go_wp2_with ((at_builtin; refine wpList_append_run (o := ⟨some 7, _, _, _, _, _⟩) (by rfl) (.tmp 5) (.tmp 6) 24 24 (by rfl) (by rfl) (by rfl) Hrun.out ?_))
    go_ret
    exact ⟨v', rfl, Hown.out, hO'⟩

theorem own_type {w : World} {base : Nat} {e : TypeId} {size : Nat} {v : Value} {n : Nat} {xs : List Value} (h : w.ownsRow base e size v n xs) {k : Nat} (hk : v.ownBlock = some k) {b : Nat} {t : TypeId} {cs : List Value} (hb : Blk w b t cs) (ht : t ≠ e) : b ≠ k := by
  rcases h.2 with ⟨rfl, _⟩ | ⟨g, cap, cur, rfl, _, hg, _⟩
  · simp [Value.ownBlock] at hk
  · have hgk : g = k := by simpa [Value.ownBlock] using hk
    subst hgk
    exact hb.ne (cs' := cur.toList) (Blk.mk' hg rfl) ht
/-- five lists as they lie somewhere -/
structure Rd5 (w : World) (v0 v1 v2 v3 v4 : Value) (ws : List ByteArray) (ms : List Mg) (a b d : List Sp) : Prop where
  r0 : ∃ A c, v0 = .slice A ws.length c ∧ ws.length ≤ c ∧ Rd w w.heap.size 1 A ws.length (wds ws)
  r1 : ∃ A c, v1 = .slice A ms.length c ∧ ms.length ≤ c ∧ Rd w w.heap.size 3 A ms.length (mgs ms)
  r2 : ∃ A c, v2 = .slice A a.length c ∧ a.length ≤ c ∧ Rd w w.heap.size 2 A a.length (ses a)
  r3 : ∃ A c, v3 = .slice A b.length c ∧ b.length ≤ c ∧ Rd w w.heap.size 2 A b.length (ses b)
  r4 : ∃ A c, v4 = .slice A d.length c ∧ d.length ≤ c ∧ Rd w w.heap.size 2 A d.length (ses d)
theorem Rd5.only {w w' : World} {v0 v1 v2 v3 v4 : Value} {ws : List ByteArray} {ms : List Mg} {a b d : List Sp} (h : Rd5 w v0 v1 v2 v3 v4 ws ms a b d) (hO : Only [] w w') : Rd5 w' v0 v1 v2 v3 v4 ws ms a b d := by
  have key : ∀ {size : Nat} {v : Value} {n : Nat} {xs : List Value}, (∃ A c, v = .slice A n c ∧ n ≤ c ∧ Rd w w.heap.size size A n xs) → ∃ A c, v = .slice A n c ∧ n ≤ c ∧ Rd w' w'.heap.size size A n xs := by
    rintro size v n xs ⟨A, c, e, hc, r⟩
    exact ⟨A, c, e, hc, (r.only hO (by simp)).more hO.size⟩
  exact ⟨key h.r0, key h.r1, key h.r2, key h.r3, key h.r4⟩
/-- five lists of the call's own -/
structure Own5 (w : World) (base : Nat) (v0 v1 v2 v3 v4 : Value) (ws : List ByteArray) (ms : List Mg) (a b d : List Sp) : Prop where
  o0 : w.ownsRow base 9 1 v0 ws.length (wds ws)
  o1 : w.ownsRow base 38 3 v1 ms.length (mgs ms)
  o2 : w.ownsRow base 67 2 v2 a.length (ses a)
  o3 : w.ownsRow base 67 2 v3 b.length (ses b)
  o4 : w.ownsRow base 67 2 v4 d.length (ses d)
  n23 : ∀ k, v2.ownBlock = some k → v3.ownBlock ≠ some k
  n24 : ∀ k, v2.ownBlock = some k → v4.ownBlock ≠ some k
  n34 : ∀ k, v3.ownBlock = some k → v4.ownBlock ≠ some k
section
variable {w w' : World} {base : Nat} {v0 v1 v2 v3 v4 : Value} {ws : List ByteArray} {ms : List Mg} {a b d : List Sp}
theorem Own5.only (h : Own5 w base v0 v1 v2 v3 v4 ws ms a b d) {l : List Nat} (hO : Only l w w') (hl : ∀ x ∈ l, x < base ∨ ∃ (t : TypeId) (cs : List Value), Blk w x t cs ∧ t ≠ 9 ∧ t ≠ 38 ∧ t ≠ 67 ∨ (∃ es cl, w.heap[x]? = some (.map es cl))) : Own5 w' base v0 v1 v2 v3 v4 ws ms a b d := by
  have key : ∀ {e : TypeId} {size : Nat} {v : Value} {n : Nat} {xs : List Value}, (e = 9 ∨ e = 38 ∨ e = 67) → w.ownsRow base e size v n xs → ∀ k, v.ownBlock = some k → k ∉ l := by
    intro e size v n xs he ho k hk hm
    have hlt := own_lt ho hk
    rcases hl k hm with h | ⟨t, cs, ⟨hb, h1, h2, h3⟩ | ⟨es, cl, hb⟩⟩
    · omega
    · exact own_type ho hk hb (by rcases he with rfl | rfl | rfl <;> assumption) rfl
    · rcases ho.2 with ⟨e1, _⟩ | ⟨g, cap, cur, e1, _, hg, _⟩
      · rw [e1] at hk; cases hk
      · rw [e1] at hk
        obtain rfl : g = k := by simpa [Value.ownBlock] using hk
        rw [hg] at hb; cases hb
  exact ⟨own_only h.o0 hO (key (.inl rfl) h.o0), own_only h.o1 hO (key (.inr (.inl rfl)) h.o1), own_only h.o2 hO (key (.inr (.inr rfl)) h.o2), own_only h.o3 hO (key (.inr (.inr rfl)) h.o3), own_only h.o4 hO (key (.inr (.inr rfl)) h.o4), h.n23, h.n24, h.n34⟩
theorem Own5.down (h : Own5 w base v0 v1 v2 v3 v4 ws ms a b d) {base' : Nat} (hb : base' ≤ base) : Own5 w base' v0 v1 v2 v3 v4 ws ms a b d :=
  ⟨own_base h.o0 hb, own_base h.o1 hb, own_base h.o2 hb, own_base h.o3 hb, own_base h.o4 hb, h.n23, h.n24, h.n34⟩
theorem own_rd {e : TypeId} {size : Nat} {v : Value} {n : Nat} {xs : List Value} (h : w.ownsRow base e size v n xs) : ∃ A c, v = .slice A n c ∧ n ≤ c ∧ Rd w w.heap.size size A n xs := by
  obtain ⟨A, c, e, hc, r, _⟩ := own_slice h; exact ⟨A, c, e, hc, r⟩
theorem Own5.rd (h : Own5 w base v0 v1 v2 v3 v4 ws ms a b d) : Rd5 w v0 v1 v2 v3 v4 ws ms a b d := ⟨own_rd h.o0, own_rd h.o1, own_rd h.o2, own_rd h.o3, own_rd h.o4⟩
end
end Go.Proofs.Ytfnhdkabfkjodaa
