/- utf.Scanner: New, Put, End, Held, Count. -/
import Derived.Test.YteadcibbpbbehaaDoorSc3
import Derived.Test.YteadcibbpbbehaaDoorUtfB
set_option linter.unusedVariables false
set_option linter.unusedSimpArgs false
namespace Go.Proofs.YteadcibbpbbehaaDoor
open Go.RowKit

/-- what a scanner's call leaves alone: all but the scanner and the bytes that it holds -/
def Fr (b : Nat) (w w' : World) : Prop := ∃ l, Only l w w' ∧ ∀ x ∈ l, x = b ∨ (b < x ∧ ∃ cs, Blk w x 5 cs)
section
variable {b : Nat} {w w' w0 : World}
theorem Fr.only0 (h : Fr b w w') (h0 : Only [] w0 w) (hb : w0.heap.size ≤ b) : Only [] w0 w' := by
  obtain ⟨l, hO, hl⟩ := h
  exact h0.trans' hO (fun x hx => .inr (by rcases hl x hx with rfl | ⟨h, _⟩ <;> omega))
theorem Fr.blk (h : Fr b w w') {g : Nat} {t : TypeId} {cs : List Value} (hg : Blk w g t cs) (ht : t ≠ 5) (hb : g ≠ b) : Blk w' g t cs := by
  obtain ⟨l, hO, hl⟩ := h
  refine hg.only hO (fun hm => ?_)
  rcases hl g hm with h | ⟨_, cs2, h⟩
  · exact hb h
  · exact hg.ne h ht rfl
theorem Fr.own (h : Fr b w w') {base : Nat} {e : TypeId} {size : Nat} {v : Value} {n : Nat} {xs : List Value} (ho : w.ownsRow base e size v n xs) (ht : e ≠ 5) {t : TypeId} {cs : List Value} (hb : Blk w b t cs) (hbt : t ≠ e) : w'.ownsRow base e size v n xs := by
  obtain ⟨l, hO, hl⟩ := h
  refine own_only ho hO (fun k hk hm => ?_)
  rcases hl k hm with rfl | ⟨_, cs2, h⟩
  · exact own_type ho hk hb hbt rfl
  · exact own_type ho hk h (Ne.symm ht) rfl
theorem Fr.rd (h : Fr b w w') {B size n : Nat} {A : Option Addr} {xs : List Value} (hr : Rd w B size A n xs) (hB : B ≤ b) : Rd w' B size A n xs := by
  obtain ⟨l, hO, hl⟩ := h
  exact hr.only hO (fun x hx => by rcases hl x hx with rfl | ⟨h, _⟩ <;> omega)
theorem Fr.tabs (h : Fr b w w') (hT : Tabs w) (hb : 2 ≤ b) : Tabs w' := by
  obtain ⟨l, hO, hl⟩ := h
  exact hT.only hO (fun hm => by rcases hl 0 hm with h | ⟨h, _⟩ <;> omega) (fun hm => by rcases hl 1 hm with h | ⟨h, _⟩ <;> omega)
end
def ScPost (w : World) (b d : Nat) (s : ByteArray) (T : List It × Nat) (e : Ending) (w' : World) : Prop :=
  ∃ v, e = .returned v ∧ w'.ownsRow w.heap.size 33 4 v (movedL d T.1).length ((movedL d T.1).flatMap It.enc) ∧ ScanAt w' b (from_ s T.2) (d + s.size) ∧ Fr b w w'

theorem scanAt_only {w w' : World} {b : Nat} {h : List UInt8} {put : Nat} (hS : ScanAt w b h put) (hO : Only [] w w') : ScanAt w' b h put := by
  obtain ⟨A, c, h1, h2⟩ := hS
  exact ⟨A, c, h1.only hO (by simp), own_only h2 hO (by simp)⟩
theorem scanAt_lt {w : World} {b : Nat} {h : List UInt8} {put : Nat} (hS : ScanAt w b h put) : b < w.heap.size := by
  obtain ⟨A, c, h1, h2⟩ := hS
  exact h1.lt

set_option maxRecDepth 100000 in
set_option maxHeartbeats 1000000 in
theorem new_any (w : World) : Calls Tryd.prog 22 #[] w fun e w' => e = .returned (.pointer (some ⟨w.heap.size, 0, none⟩)) ∧ ScanAt w' w.heap.size [] 0 ∧ Only [] w w' := by
  go_enter Tryd.func22, Tryd.ntmps22
  go_wp2_with (fail)
  go_ret
  exact ⟨rfl, ⟨none, 0, Blk.new' _ _ _ rfl rfl, ⟨rfl, .inl ⟨rfl, rfl⟩⟩⟩, (Only.refl _ _).alloc _⟩
set_option maxRecDepth 100000 in
set_option maxHeartbeats 1000000 in
theorem held_any (w : World) (b : Nat) (h : List UInt8) (put : Nat) (hS : ScanAt w b h put) :
    Calls Tryd.prog 28 #[.pointer (some ⟨b, 0, none⟩)] w fun e w' => e = .returned (.int .i64 (h.length : Int)) ∧ w = w' := by
  obtain ⟨A, c, h1, h2⟩ := hS
  have c0 : w.cell? ⟨b, 0, none⟩ = some (.slice A h.length c) := h1.cell 0
  go_enter Tryd.func28, Tryd.ntmps28
  go_wp2_with (fail)
  go_ret
  exact ⟨rfl, rfl⟩
set_option maxRecDepth 100000 in
set_option maxHeartbeats 1000000 in
theorem count_any (w : World) (b : Nat) (h : List UInt8) (put : Nat) (hS : ScanAt w b h put) :
    Calls Tryd.prog 29 #[.pointer (some ⟨b, 0, none⟩)] w fun e w' => e = .returned (.int .i64 (put : Int)) ∧ w = w' := by
  obtain ⟨A, c, h1, h2⟩ := hS
  have c0 : w.cell? ⟨b, 1, none⟩ = some (.int .i64 (put : Int)) := h1.cell 1
  go_enter Tryd.func29, Tryd.ntmps29
  go_wp2_with (fail)
  go_ret
  exact ⟨rfl, rfl⟩
set_option maxRecDepth 100000 in
set_option maxHeartbeats 1000000 in
theorem end_any (w : World) (b d : Nat) (s : ByteArray) (p : Nat) (hp : p ≤ s.size) (hs : s.size ≤ 1048576) (hd : d ≤ 140737488355328) (hT : Tabs w) (h2 : 2 ≤ b) (hS : ScanAt w b (from_ s p) (d + s.size)) :
    Calls Tryd.prog 25 #[.pointer (some ⟨b, 0, none⟩)] w (ScPost w b d s (scanS true s p)) := by
  obtain ⟨T, hTT⟩ : ∃ T, T = scanS true s p := ⟨_, rfl⟩
  rw [← hTT]
  have HT := Lib.hid hTT
  clear hTT
  go_enter Tryd.func25, Tryd.ntmps25
  go_wp2_with (fail)
  have hc := take_any w b d true s p hp hs hd hT h2 hS
  rw [← HT.out] at hc
  refine hc.mono ?_
  rintro e w1 ⟨v, rfl, h3, h4, h5⟩
  go_wp2_with (fail)
  refine bodyPost_ret (v := v) (by simp [results, Tryd.results25, go_sem]) rfl ?_
  exact ⟨v, rfl, h3, h4, [b], h5, by simp⟩

theorem app_byte (P : Program) (t e : TypeId) (ht : P.underlying t = some (.slice e)) (hinfo : (P.info? e).map (fun i => (i.zero, i.size, i.bytes)) = some (some (.int .u8 0), 1, 1))
    {w : World} {base : Nat} {v : Value} {l : List UInt8} (hown : w.ownsRow base e 1 v l.length (bvs l)) (hb : base ≤ w.heap.size) (x : UInt8) (hl : l.length + 1 ≤ 500000000) :
    ∃ v' w', (Builtin.append_ #[t, t] t #[v, .slice (some ⟨w.heap.size, 0, none⟩) 1 1]).run P (w.alloc (.cells #[.int .u8 (x.toNat : Int)] e)) = .ok v' w' ∧
      w'.ownsRow base e 1 v' (l ++ [x]).length (bvs (l ++ [x])) ∧ Only v.ownBlock.toList w w' := by
  have hO := (Only.refl [] w).alloc (.cells #[.int .u8 (x.toNat : Int)] e)
  have hown2 := own_only hown hO (by simp)
  have hy : Rd (w.alloc (.cells #[.int .u8 (x.toNat : Int)] e)) (w.heap.size + 1) 1 (some ⟨w.heap.size, 0, none⟩) 1 (bvs [x]) := Rd.whole (t := e) (Blk.new' _ _ _ rfl rfl) rfl
  obtain ⟨v', w', hrun, hown', hO', hat, _⟩ := run_append_row (P := P) base t t e (.int .u8 0) 1 1 ht hinfo rfl (by omega) hown2 1 hy (bvs_one _) (by simp only [maxLen]; omega) (by omega) (by simp; omega)
  refine ⟨v', w', hrun, ?_, ((Only.refl v.ownBlock.toList w).alloc _).trans hO'⟩
  rw [List.length_append, ← bvs_append]
  exact hown'

set_option maxRecDepth 100000 in
set_option maxHeartbeats 1000000 in
theorem put_any (w : World) (b d : Nat) (s t : ByteArray) (x : UInt8) (p : Nat) (hp : p ≤ s.size) (hst : t.data.toList = s.data.toList ++ [x]) (hs : t.size ≤ 1048576) (hd : d ≤ 140737488355328) (hT : Tabs w) (h2 : 2 ≤ b) (hS : ScanAt w b (from_ s p) (d + s.size)) :
    Calls Tryd.prog 24 #[.pointer (some ⟨b, 0, none⟩), .int .u8 (x.toNat : Int)] w (ScPost w b d t (scanS false t p)) := by
  obtain ⟨T, hTT⟩ : ∃ T, T = scanS false t p := ⟨_, rfl⟩
  rw [← hTT]
  have HT := Lib.hid hTT
  have htz : t.size = s.size + 1 := by rw [Lib.size_eq, hst, List.length_append, ← Lib.size_eq]; rfl
  have hft : from_ t p = from_ s p ++ [x] := by
    unfold from_; rw [hst, List.drop_append_of_le_length (by rw [← Lib.size_eq]; exact hp)]
  obtain ⟨A, c, hb, hown⟩ := hS
  have hfl := from_len s p
  obtain ⟨v', w', hrun, hown', hO'⟩ := app_byte Tryd.prog 41 5 Tryd.underlying41 (by kernel_rfl) hown (by have := hb.lt; omega) x (by omega)
  rw [← hft] at hown'
  obtain ⟨n, hn⟩ : ∃ n, n = (from_ s p).length := ⟨_, rfl⟩
  obtain ⟨N, hN⟩ : ∃ N, N = d + s.size := ⟨_, rfl⟩
  rw [← hn, ← hN] at hb
  rw [← hn] at hrun hown
  have hvb : ∀ k, (Value.slice A n c).ownBlock = some k → k ≠ b := fun k hk => by have := (own_lt hown hk).1; omega
  have hob : ∀ k, (Value.slice A n c).ownBlock = some k → b < k ∧ ∃ cs, Blk w k 5 cs := fun k hk => by
    refine ⟨by have := (own_lt hown hk).1; omega, ?_⟩
    rcases hown.2 with ⟨e, _⟩ | ⟨g, cap, cur, e, _, hg, _⟩
    · rw [e] at hk; cases hk
    · rw [e] at hk
      obtain rfl : g = k := by simpa [Value.ownBlock] using hk
      exact ⟨cur.toList, by unfold Blk; rw [hg]⟩
  rw [← hn] at hO'
  have hb' := hb.only hO' (fun hm => hvb b (by simpa using hm) rfl)
  have c0 : w.cell? ⟨b, 0, none⟩ = some (.slice A n c) := hb.cell 0
  have d0 : w'.cell? ⟨b, 0, none⟩ = some (.slice A n c) := hb'.cell 0
  have d1 : w'.cell? ⟨b, 1, none⟩ = some (.int .i64 (N : Int)) := hb'.cell 1
  have f0 : w'.frozen? ⟨b, 0, none⟩ = false := hb'.frozen 0
  have f1 : w'.frozen? ⟨b, 1, none⟩ = false := hb'.frozen 1
  have hNb : N ≤ 140737489403904 := by omega
  obtain ⟨A2, c2, rfl, -⟩ := own_slice hown'
  obtain ⟨n2, hn2⟩ : ∃ n2, n2 = (from_ t p).length := ⟨_, rfl⟩
  rw [← hn2] at hown' hrun
  have Hrun := Lib.hid hrun
  have Hown := Lib.hid hown'
  have HO := Lib.hid hO'
  have HN := Lib.hid hN
  have Hn := Lib.hid hn
  have Hn2 := Lib.hid hn2
  have Hz := Lib.hid htz
  have Hob := Lib.hid hob
  have Hvb := Lib.hid hvb
  clear hTT htz hft hfl hrun hown' hO' hN hn hn2 hob hvb hst hown
  go_enter Tryd.func24, Tryd.ntmps24
  go_wp2_with (at_builtin; refine wpList_append_run (o := ⟨some 12, _, _, _, _, _⟩) (by rfl) (.tmp 9) (.tmp 11) 41 41 (by rfl) (by rfl) (by rfl) Hrun.out ?_)
  have hB1 : Blk ((w'.setCell ⟨b, 0, none⟩ (.slice A2 n2 c2)).setCell ⟨b, 1, none⟩ (.int .i64 ((N : Int) + 1))) b 70 [.slice A2 n2 c2, .int .i64 ((N : Int) + 1)] := (hb'.set 0 _).set 1 _
  have hOs : Only [b] w' ((w'.setCell ⟨b, 0, none⟩ (.slice A2 n2 c2)).setCell ⟨b, 1, none⟩ (.int .i64 ((N : Int) + 1))) := ((Only.refl [b] _).setCell (.inl (by simp)) _).setCell (.inl (by simp)) _
  generalize ((w'.setCell ⟨b, 0, none⟩ (.slice A2 n2 c2)).setCell ⟨b, 1, none⟩ (.int .i64 ((N : Int) + 1))) = w1 at hB1 hOs ⊢
  have hNt : (N : Int) + 1 = ((d + t.size : Nat) : Int) := by have := HN.out; have := Hz.out; omega
  rw [hNt] at hB1
  have hown1 := own_only Hown.out hOs (fun k hk hm => by
    obtain rfl : k = b := by simpa using hm
    have := (own_lt Hown.out hk).1; omega)
  have hS1 : ScanAt w1 b (from_ t p) (d + t.size) := ⟨A2, c2, by rw [← Hn2.out]; exact hB1, by rw [← Hn2.out]; exact hown1⟩
  have hFr : Fr b w w1 := by
    refine ⟨(Value.slice A n c).ownBlock.toList ++ [b], (HO.out.mono (by intro x hx; exact .inl (List.mem_append_left _ hx))).trans (hOs.mono (by intro x hx; exact .inl (List.mem_append_right _ hx))), fun k hk => ?_⟩
    rcases List.mem_append.1 hk with hk | hk
    · exact .inr (Hob.out k (by simpa using hk))
    · exact .inl (by simpa using hk)
  have hT1 := hFr.tabs hT h2
  have hc := take_any w1 b d false t p (by have := Hz.out; omega) hs hd hT1 h2 hS1
  rw [← HT.out] at hc
  refine hc.mono ?_
  rintro e w2 ⟨v, rfl, h3, h4, h5⟩
  have hFr2 : Fr b w w2 := by
    obtain ⟨l, h6, h7⟩ := hFr
    refine ⟨b :: l, (h6.mono (by intro x hx; exact .inl (by simp [hx]))).trans (h5.mono (by simp)), fun k hk => ?_⟩
    rcases List.mem_cons.1 hk with rfl | hk
    · exact .inl rfl
    · exact h7 k hk
  have hsz : w.heap.size ≤ w1.heap.size := by obtain ⟨l, h6, _⟩ := hFr; exact h6.size
  clear hc hFr hS1 hown1 hB1 hOs hNt
  go_wp2_with (fail)
  refine bodyPost_ret (v := v) (by simp [results, Tryd.results24, go_sem]) rfl ?_
  exact ⟨v, rfl, own_base h3 hsz, h4, hFr2⟩
end Go.Proofs.YteadcibbpbbehaaDoor
