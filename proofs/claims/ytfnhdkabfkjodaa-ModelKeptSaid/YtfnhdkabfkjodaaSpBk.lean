/- Contracts of tesserabook's Same, Roomy, Intact over spans. -/
import Derived.Test.YtfnhdkabfkjodaaCls
set_option linter.unusedVariables false
set_option linter.unusedSimpArgs false
namespace Go.Proofs.Ytfnhdkabfkjodaa
open Go.RowKit

/-- copy, elements of any size, into a row of one's own -/
theorem run_copy_layN {P : Program} (w : World) (dT sT ty elem : TypeId) (size : Nat) (hu : P.underlying dT = some (.slice elem)) (hsz : (P.info? elem).map (·.size) = some size)
    (dp sp : Option Addr) (dLen dCap sLen sCap : Nat) (g off : Nat) (cur : List Value) (t : TypeId) (hg : Blk w g t cur) (k : Nat) (cs : List Value) (hk : k = min sLen dLen)
    (hd : 0 < k → dp = some ⟨g, off, none⟩) (B : Nat) (hs : Rd w B size sp k cs) (hfit : off + k * size ≤ cur.length) (h1 : ∀ v ∈ cs, v.oneCell' = true) :
    (Builtin.copy_ #[dT, sT] ty #[.slice dp dLen dCap, .slice sp sLen sCap]).run P w = .ok (.int .i64 (k : Int)) (w.setRow g (lay cur off cs).toArray) := by
  have hn := hs.1
  cases hq : P.info? elem with
  | none => simp [hq] at hsz
  | some i =>
    have hi : i.size = size := by simpa [hq] using hsz
    have hk' : Nat.min sLen dLen = k := hk.symm
    by_cases h0 : k = 0
    · subst h0
      obtain rfl : cs = [] := List.eq_nil_of_length_eq_zero (by omega)
      rw [lay_nil, setRow_self w g cur.toArray t (0, 0) hg]
      have hl : ∀ (x : Addr), (loadCells x 0).run P w = .ok #[] w := fun x => by simpa using run_loadCells_list (P := P) w x [] (by simp)
      cases dp <;> cases sp <;> simp [Builtin.copy_, run_underlying hu, Builtin.lenOf, Builtin.firstCells, sizeOf, typeInfo, hq, hk', storeCells, hl, goInt]
    · obtain rfl := hd (by omega)
      obtain ⟨ad, rfl, _, _, _, hc⟩ := hs.2 (by omega)
      have hl := run_loadCells_list (P := P) w ad cs hc
      have hst := run_storeCells_at P g off t cs 0 cur.toArray w hg (by simp; omega) h1
      rw [hn] at hl
      simp [Builtin.copy_, run_underlying hu, Builtin.lenOf, Builtin.firstCells, sizeOf, typeInfo, hq, hi, hk', hl, hst, goInt, lay]

theorem ses_append (a b : List Sp) : ses (a ++ b) = ses a ++ ses b := by simp [ses]
theorem ses_take (l : List Sp) (k : Nat) : (ses l).take (k * 2) = ses (l.take k) := by
  induction l generalizing k with
  | nil => simp [ses]
  | cons p l ih =>
    cases k with
    | zero => simp [ses]
    | succ k =>
      rw [Nat.succ_mul, List.take_succ_cons]
      have e : ses (p :: l) = .int .i32 p.1 :: .int .i32 p.2 :: ses l := by simp [ses, spv]
      have e2 : ses (p :: l.take k) = .int .i32 p.1 :: .int .i32 p.2 :: ses (l.take k) := by simp [ses, spv]
      rw [e, e2, ← ih k]
      rfl
theorem ses_drop (l : List Sp) (k : Nat) : (ses l).drop (k * 2) = ses (l.drop k) := by
  induction l generalizing k with
  | nil => simp [ses]
  | cons p l ih =>
    cases k with
    | zero => simp
    | succ k =>
      rw [Nat.succ_mul, List.drop_succ_cons]
      have e : ses (p :: l) = .int .i32 p.1 :: .int .i32 p.2 :: ses l := by simp [ses, spv]
      rw [e, ← ih k]
      rfl
theorem ses_replicate (n : Nat) : ses (List.replicate n (0, 0)) = rep n [.int .i32 0, .int .i32 0] := by
  induction n with
  | zero => rfl
  | succ n ih => rw [List.replicate_succ, rep_succ, ← ih]; simp [ses, spv]
theorem ses_set (l : List Sp) (k : Nat) (p : Sp) (hk : k < l.length) : ((ses l).set (k * 2) (.int .i32 p.1)).set (k * 2 + 1) (.int .i32 p.2) = ses (l.set k p) := by
  induction l generalizing k with
  | nil => simp at hk
  | cons q l ih =>
    have e : ses (q :: l) = .int .i32 q.1 :: .int .i32 q.2 :: ses l := by simp [ses, spv]
    cases k with
    | zero =>
      have e2 : ses (p :: l) = .int .i32 p.1 :: .int .i32 p.2 :: ses l := by simp [ses, spv]
      rw [e]; simp [e2]
    | succ k =>
      have e2 : ses (q :: l.set k p) = .int .i32 q.1 :: .int .i32 q.2 :: ses (l.set k p) := by simp [ses, spv]
      rw [e, List.set_cons_succ, e2, ← ih k (by simpa using hk), Nat.succ_mul]
      rfl

theorem take_succ_eq {α : Type} {l m : List α} {k : Nat} {a b : α} (hl : l[k]? = some a) (hm : m[k]? = some b) : l.take (k + 1) = m.take (k + 1) ↔ l.take k = m.take k ∧ a = b := by
  have h1 := (List.getElem?_eq_some_iff.1 hl).1
  have h2 := (List.getElem?_eq_some_iff.1 hm).1
  rw [List.take_add_one, List.take_add_one, hl, hm]
  constructor
  · intro h
    have h1 := List.append_inj h (by simp; omega)
    exact ⟨h1.1, by simpa using h1.2⟩
  · rintro ⟨h1, h2⟩
    rw [h1, h2]

set_option maxRecDepth 100000 in
set_option maxHeartbeats 1000000 in
theorem sameS_any (A C : Option Addr) (n c m d B B' : Nat) (x : List Sp) (w : World) (hx : Rd w B 2 A n (ses x)) (hy : Rd w B' 2 C n (ses x)) (hxl : x.length = n) (hn : n ≤ 140737488351232) :
    Calls Try.prog 52 #[.slice A n c, .slice C n d] w fun e w' => e = .returned (.bool true) ∧ ∃ k, w' = w.drewN k := by
  have Hxl := Lib.hid hxl
  clear hxl
  go_enter Try.func52, Try.ntmps52
  go_wp2_with (fail)
  go_loopw [5] (fun i wr => ∃ k : Nat, k ≤ n ∧ i = .int .i64 (k : Int) ∧ ∃ j, wr = w.drewN j) (fun i _ => n - (intOf i).toNat)
  case atStart => exact ⟨0, by omega, rfl, 0, rfl⟩
  case round =>
    obtain ⟨k, hk, rfl, j, hw⟩ := hrel
    have Hw := Lib.hid hw
    clear hw
    by_cases hlt : k < n
    · obtain ⟨p, hp⟩ : ∃ p, x[k]? = some p := ⟨_, List.getElem?_eq_getElem (by rw [Hxl.out]; exact hlt)⟩
      obtain ⟨g, o, rfl, _, c0, c1⟩ := (show Rd wr B 2 A n (ses x) by rw [Hw.out]; exact hx).span hlt hp
      obtain ⟨g', o', rfl, _, d0, d1⟩ := (show Rd wr B' 2 C n (ses x) by rw [Hw.out]; exact hy).span hlt hp
      clear hp
      go_wp2_with (fail)
      go_quiet (fail)
      go_wp2
      go_roundw
      case rel => exact ⟨k + 1, by omega, by go_num, _, by rw [Hw.out, World.drewN_drewN]⟩
      case measure => simp [intOf]; omega
    · obtain rfl : k = n := by omega
      go_wp2
      go_ret
      exact ⟨rfl, _, Hw.out⟩

/-- what Roomy lays down: the list, and 80 marks behind it -/
def roomyS (l : List Sp) (m : Sp) : List Sp := l ++ List.replicate 80 m
theorem roomyS_set (l : List Sp) (m : Sp) (k : Nat) (h : k < 80) : (l ++ List.replicate k m ++ List.replicate (80 - k) (0, 0)).set (l.length + k) m = l ++ List.replicate (k + 1) m ++ List.replicate (80 - (k + 1)) (0, 0) := by
  have e : 80 - k = (80 - (k + 1)) + 1 := by omega
  rw [e, List.replicate_succ, List.set_append_right _ _ (by simp)]
  have e2 : l.length + k - (l ++ List.replicate k m).length = 0 := by simp
  rw [e2, List.set_cons_zero, List.replicate_succ', List.append_assoc, List.append_assoc, List.append_assoc]
  rfl

set_option maxRecDepth 100000 in
set_option maxHeartbeats 1000000 in
theorem roomyS_any (A : Option Addr) (n c B : Nat) (l : List Sp) (m : Sp) (w : World) (hs : Rd w B 2 A n (ses l)) (hln : l.length = n) (hn : n ≤ 17592186043904) :
    Calls Try.prog 40 #[.slice A n c, .agg #[.int .i32 m.1, .int .i32 m.2]] w fun e w' => ∃ g, e = .returned (.slice (some ⟨g, 0, none⟩) (n + 80) (n + 80)) ∧ w.heap.size ≤ g ∧ Blk w' g 67 (ses (roomyS l m)) ∧ Only [] w w' := by
  obtain ⟨h0, hh0⟩ : ∃ h, h = w.heap.size := ⟨_, rfl⟩
  obtain ⟨h, hh⟩ : ∃ h, h = h0 + 1 := ⟨_, rfl⟩
  have hmk : ∀ W, (Instr.makeSlice 24 (.int .i64 ((n : Int) + 80)) (.int .i64 ((n : Int) + 80))).run Try.prog W = _ := fun W =>
    run_make_rep (P := Try.prog) 24 67 (.agg #[.int .i32 0, .int .i32 0]) 2 8 Try.underlying24 (by kernel_rfl) rfl (by omega) .i64 .i64 (n + 80) (n + 80) (Nat.le_refl _) (by omega) (by omega) W
  have Hln := Lib.hid hln
  clear hln
  go_enter Try.func40, Try.ntmps40
  go_upto_region 2 with (fail)
  rw [← hh0]
  rw [← hh]
  refine name_it (p := fun y => Code.wp _ _ _ _ y) ?_
  intro w1 Hw1
  have hb1 : Blk w1 h 67 (ses (List.replicate (n + 80) (0, 0))) := by rw [Hw1.out]; exact Blk.new' _ _ _ (by simp; omega) (by rw [ses_replicate])
  have hm1 : Blk w1 h0 67 [.int .i32 m.1, .int .i32 m.2] := by rw [Hw1.out]; exact (Blk.new' _ _ _ hh0.symm rfl).alloc _
  have hO1 : Only [] w w1 := by rw [Hw1.out]; exact ((Only.refl _ _).alloc _).alloc _
  have hs1 : Rd w1 B 2 A n (ses l) := hs.only hO1 (by simp)
  have hle : w.heap.size ≤ h := by omega
  have hne : h0 ≠ h := by omega
  have hln := Hln.out
  have hcp := run_copy_layN (P := Try.prog) w1 24 24 3 67 2 Try.underlying24 (by kernel_rfl) (some ⟨h, 0, none⟩) A (n + 80) (n + 80) n c h 0 _ 67 hb1 n (ses l) (by omega) (fun _ => rfl) B hs1
    (by rw [ses_length, List.length_replicate]; omega) (ses_one _)
  obtain ⟨w2, hw2⟩ : ∃ w2, w2 = w1.setRow h (lay (ses (List.replicate (n + 80) (0, 0))) 0 (ses l)).toArray := ⟨_, rfl⟩
  rw [← hw2] at hcp
  have hb2 : Blk w2 h 67 (ses (l ++ List.replicate 0 m ++ List.replicate (80 - 0) (0, 0))) := by
    rw [hw2]
    have e : lay (ses (List.replicate (n + 80) (0, 0))) 0 (ses l) = ses (l ++ List.replicate 0 m ++ List.replicate (80 - 0) (0, 0)) := by
      unfold lay
      rw [List.take_zero, List.nil_append, Nat.zero_add, ses_length, ses_drop, ← ses_append]
      congr 1
      simp [hln]
    rw [e]
    exact hb1.setRow _
  have hm2 : Blk w2 h0 67 [.int .i32 m.1, .int .i32 m.2] := by rw [hw2]; exact hm1.setRow_far hne _
  have hO2 : Only [] w w2 := by rw [hw2]; exact hO1.setRow (.inr hle) _
  clear hw2 hb1 hs1 hs hmk hln hO1 Hw1 hm1
  have Hh0 := Lib.hid hh0
  have Hh := Lib.hid hh
  clear hh hh0
  go_wp2_with (fail)
  clear hcp
  go_loopw [6] (fun i wr => ∃ k : Nat, k ≤ 80 ∧ i = .int .i64 ((n + k : Nat) : Int) ∧ Blk wr h 67 (ses (l ++ List.replicate k m ++ List.replicate (80 - k) (0, 0))) ∧ Blk wr h0 67 [.int .i32 m.1, .int .i32 m.2] ∧ Only [] w wr) (fun i _ => n + 80 - (intOf i).toNat)
  case atStart => exact ⟨0, by omega, rfl, hb2, hm2, hO2⟩
  case round =>
    clear hm2 hb2 hO2
    obtain ⟨k, hk, rfl, hb, hm, hO⟩ := hrel
    by_cases hlt : k < 80
    · obtain ⟨j, hj⟩ : ∃ j, j = n + k := ⟨_, rfl⟩
      have hjn : j < n + 80 := by omega
      have hln := Hln.out
      have hz : (l ++ List.replicate k m ++ List.replicate (80 - k) (0, 0))[j]? = some (0, 0) := by
        rw [List.getElem?_append_right (by simp; omega), List.getElem?_replicate, if_pos (by simp; omega)]
      have hg := ses_get _ _ _ hz
      have c0 : wr.cell? ⟨h, j * 2, none⟩ = some (.int .i32 0) := by rw [hb.cell]; exact hg.1
      have c1 : wr.cell? ⟨h, j * 2 + 1, none⟩ = some (.int .i32 0) := by rw [hb.cell]; exact hg.2
      have f0 : wr.frozen? ⟨h, j * 2, none⟩ = false := hb.frozen _
      have f1 : wr.frozen? ⟨h, j * 2 + 1, none⟩ = false := hb.frozen _
      have m0 : wr.cell? ⟨h0, 0, none⟩ = some (.int .i32 m.1) := hm.cell 0
      have m1 : wr.cell? ⟨h0, 1, none⟩ = some (.int .i32 m.2) := hm.cell 1
      rw [← hj]
      have Hj := Lib.hid hj
      clear hj hlt hz hg
      have hlt : (j : Int) < (n : Int) + 80 := by omega
      clear hln
      go_wp2
      have hj := Hj.out
      go_roundw
      case rel =>
        have hln := Hln.out
        refine ⟨k + 1, by omega, by go_num, ?_, (hm.far hne _).far hne _, (hO.setCell (.inr hle) _).setCell (.inr hle) _⟩
        have e := roomyS_set l m k (by omega)
        rw [← e]
        have h2 := (hb.set (j * 2) (.int .i32 m.1)).set (j * 2 + 1) (.int .i32 m.2)
        rw [ses_set _ _ _ (by simp; omega)] at h2
        rw [hj, ← hln] at h2 ⊢
        exact h2
      case measure => simp [intOf]; omega
    · obtain rfl : k = 80 := by omega
      clear hm
      go_wp2
      go_ret
      exact ⟨h, rfl, hle, by simpa [roomyS] using hb, hO⟩

set_option maxRecDepth 100000 in
set_option maxHeartbeats 1000000 in
theorem intactS_any (A C : Option Addr) (n c d B B' : Nat) (l : List Sp) (m : Sp) (w : World) (hx : Rd w B 2 A (n + 80) (ses (roomyS l m))) (hy : Rd w B' 2 C n (ses l)) (hln : l.length = n) (hn : n ≤ 17592186043904) (hc : n ≤ c) :
    Calls Try.prog 44 #[.slice A (n + 80) c, .slice C n d, .agg #[.int .i32 m.1, .int .i32 m.2]] w fun e w' => e = .returned (.bool true) ∧ Only [] w w' := by
  have Hln := Lib.hid hln
  have hx' : Rd w B 2 A n (ses l) := by
    have h := hx.take (k := n) (by omega)
    rw [ses_take] at h
    have e : (roomyS l m).take n = l := by unfold roomyS; rw [List.take_append_of_le_length (by omega), List.take_of_length_le (by omega)]
    rwa [e] at h
  clear hln
  obtain ⟨h0, hh0⟩ : ∃ h, h = w.heap.size := ⟨_, rfl⟩
  have hm : Blk (w.alloc (.cells #[.int .i32 m.1, .int .i32 m.2] 67)) h0 67 [.int .i32 m.1, .int .i32 m.2] := Blk.new' _ _ _ hh0.symm rfl
  have hO := (Only.refl [] w).alloc (.cells #[.int .i32 m.1, .int .i32 m.2] 67)
  go_enter Try.func44, Try.ntmps44
  go_wp2_with (fail)
  rw [← hh0]
  refine name_it (p := fun y => Calls _ _ _ y _) ?_
  intro wa Ha
  rw [← Ha.out] at hm hO
  clear Ha hh0
  replace hx' := hx'.only hO (by simp)
  replace hx := hx.only hO (by simp)
  replace hy := hy.only hO (by simp)
  refine (sameS_any A C n c n d B B' l _ hx' hy Hln.out (by omega)).mono ?_ 
  rintro e w1 ⟨rfl, hk1⟩
  have hO1 : Only [] wa w1 := by obtain ⟨k1, rfl⟩ := hk1; exact (Only.refl _ _).drewN _
  clear hk1 hx' hy
  replace hx := hx.only hO1 (by simp)
  replace hm := hm.only hO1 (by simp)
  replace hO := hO.trans hO1
  clear hO1
  go_wp2_with (fail)
  go_loopw [7] (fun i wr => ∃ k : Nat, k ≤ 80 ∧ i = .int .i64 ((n + k : Nat) : Int) ∧ Only [] w1 wr) (fun i _ => n + 80 - (intOf i).toNat)
  case atStart => exact ⟨0, by omega, rfl, .refl _ _⟩
  case round =>
    obtain ⟨k, hk, rfl, hw⟩ := hrel
    by_cases hlt : k < 80
    · obtain ⟨j, hj⟩ : ∃ j, j = n + k := ⟨_, rfl⟩
      have hjn : j < n + 80 := by omega
      have hln := Hln.out
      have hz : (roomyS l m)[j]? = some m := by
        unfold roomyS
        rw [List.getElem?_append_right (by omega), List.getElem?_replicate, if_pos (by omega)]
      obtain ⟨g, o, rfl, _, c0, c1⟩ := (hx.only hw (by simp)).span hjn hz
      have m0 : wr.cell? ⟨h0, 0, none⟩ = some (.int .i32 m.1) := (hm.only hw (by simp)).cell 0
      have m1 : wr.cell? ⟨h0, 1, none⟩ = some (.int .i32 m.2) := (hm.only hw (by simp)).cell 1
      rw [← hj]
      have Hj := Lib.hid hj
      clear hj hlt hln hz
      have hlt : (j : Int) < (n : Int) + 80 := by omega
      go_wp2_with (fail)
      go_quiet (fail)
      go_wp2
      have hj := Hj.out
      go_roundw
      case rel => exact ⟨k + 1, by omega, by go_num, hw.drewN _⟩
      case measure => simp [intOf]; omega
    · obtain rfl : k = 80 := by omega
      clear hx hm
      go_wp2
      go_ret
      exact ⟨rfl, hO.trans hw⟩
theorem rd_roomyS {w1 : World} {h n : Nat} {l : List Sp} {m : Sp} {t : TypeId} (hb1 : Blk w1 h t (ses (roomyS l m))) (hl : l.length = n) :
    Rd w1 w1.heap.size 2 (some ⟨h, 0, none⟩) (n + 80) (ses (roomyS l m)) ∧ Rd w1 w1.heap.size 2 (some ⟨h, 0, none⟩) n (ses l) := by
  have hf : Rd w1 w1.heap.size 2 (some ⟨h, 0, none⟩) (n + 80) (ses (roomyS l m)) := (Rd.whole hb1 (by rw [ses_length, roomyS, List.length_append, List.length_replicate, hl])).more hb1.lt
  refine ⟨hf, ?_⟩
  have h1 := hf.take (k := n) (by omega)
  rw [ses_take] at h1
  have e : (roomyS l m).take n = l := by unfold roomyS; rw [List.take_append_of_le_length (by omega), List.take_of_length_le (by omega)]
  rwa [e] at h1
end Go.Proofs.Ytfnhdkabfkjodaa
