/- Contracts of tesserabook's Same, Roomy, Intact over spans. -/
import Derived.Test.YtemnanhoiacphaaDoorPk11
set_option linter.unusedVariables false
set_option linter.unusedSimpArgs false
namespace Go.Proofs.YtemnanhoiacphaaDoor
open Go.RowKit

/-- copy, elements of any size, into a row of one's own -/
theorem run_copy_layN {P : Program} (w : World) (dT sT ty elem : TypeId) (size : Nat) (hu : P.underlying dT = some (.slice elem)) (hsz : (P.info? elem).map (·.size) = some size)
    (dp sp : Option Addr) (dLen dCap sLen sCap : Nat) (g off : Nat) (cur : List Value) (t : TypeId) (hg : Blk w g t cur) (k : Nat) (cs : List Value) (hk : k = min sLen dLen)
    (hd : 0 < k → dp = some ⟨g, off, none⟩) (B : Nat) (hs : Rd w B size sp k cs) (hfit : off + k * size ≤ cur.length) (h1 : ∀ v ∈ cs, v.oneCell' = true) :
    (Builtin.copy_ #[dT, sT] ty #[.slice dp dLen dCap, .slice sp sLen sCap]).run P w = .ok (.int .i64 (k : Int)) (w.setRow g (lay cur off cs).toArray) := by
  have hn := hs.1
  cases hq : P.info? elem with
  | none => simp [hq] at hsz
  | some i =>
    have hi : i.size = size := by simpa [hq] using hsz
    have hk' : Nat.min sLen dLen = k := hk.symm
    by_cases h0 : k = 0
    · subst h0
      obtain rfl : cs = [] := List.eq_nil_of_length_eq_zero (by omega)
      rw [lay_nil, setRow_self w g cur.toArray t (0, 0) hg]
      have hl : ∀ (x : Addr), (loadCells x 0).run P w = .ok #[] w := fun x => by simpa using run_loadCells_list (P := P) w x [] (by simp)
      cases dp <;> cases sp <;> simp [Builtin.copy_, run_underlying hu, Builtin.lenOf, Builtin.firstCells, sizeOf, typeInfo, hq, hk', storeCells, hl, goInt]
    · obtain rfl := hd (by omega)
      obtain ⟨ad, rfl, _, _, _, hc⟩ := hs.2 (by omega)
      have hl := run_loadCells_list (P := P) w ad cs hc
      have hst := run_storeCells_at P g off t cs 0 cur.toArray w hg (by simp; omega) h1
      rw [hn] at hl
      simp [Builtin.copy_, run_underlying hu, Builtin.lenOf, Builtin.firstCells, sizeOf, typeInfo, hq, hi, hk', hl, hst, goInt, lay]

theorem ses_append (a b : List Sp) : ses (a ++ b) = ses a ++ ses b := by simp [ses]
theorem ses_take (l : List Sp) (k : Nat) : (ses l).take (k * 2) = ses (l.take k) := by
  induction l generalizing k with
  | nil => simp [ses]
  | cons p l ih =>
    cases k with
    | zero => simp [ses]
    | succ k =>
      rw [Nat.succ_mul, List.take_succ_cons]
      have e : ses (p :: l) = .int .i32 p.1 :: .int .i32 p.2 :: ses l := by simp [ses, spv]
      have e2 : ses (p :: l.take k) = .int .i32 p.1 :: .int .i32 p.2 :: ses (l.take k) := by simp [ses, spv]
      rw [e, e2, ← ih k]
      rfl
theorem ses_drop (l : List Sp) (k : Nat) : (ses l).drop (k * 2) = ses (l.drop k) := by
  induction l generalizing k with
  | nil => simp [ses]
  | cons p l ih =>
    cases k with
    | zero => simp
    | succ k =>
      rw [Nat.succ_mul, List.drop_succ_cons]
      have e : ses (p :: l) = .int .i32 p.1 :: .int .i32 p.2 :: ses l := by simp [ses, spv]
      rw [e, ← ih k]
      rfl
theorem ses_replicate (n : Nat) : ses (List.replicate n (0, 0)) = rep n [.int .i32 0, .int .i32 0] := by
  induction n with
  | zero => rfl
  | succ n ih => rw [List.replicate_succ, rep_succ, ← ih]; simp [ses, spv]
theorem ses_set (l : List Sp) (k : Nat) (p : Sp) (hk : k < l.length) : ((ses l).set (k * 2) (.int .i32 p.1)).set (k * 2 + 1) (.int .i32 p.2) = ses (l.set k p) := by
  induction l generalizing k with
  | nil => simp at hk
  | cons q l ih =>
    have e : ses (q :: l) = .int .i32 q.1 :: .int .i32 q.2 :: ses l := by simp [ses, spv]
    cases k with
    | zero =>
      have e2 : ses (p :: l) = .int .i32 p.1 :: .int .i32 p.2 :: ses l := by simp [ses, spv]
      rw [e]; simp [e2]
    | succ k =>
      have e2 : ses (q :: l.set k p) = .int .i32 q.1 :: .int .i32 q.2 :: ses (l.set k p) := by simp [ses, spv]
      rw [e, List.set_cons_succ, e2, ← ih k (by simpa using hk), Nat.succ_mul]
      rfl

theorem take_succ_eq {α : Type} {l m : List α} {k : Nat} {a b : α} (hl : l[k]? = some a) (hm : m[k]? = some b) : l.take (k + 1) = m.take (k + 1) ↔ l.take k = m.take k ∧ a = b := by
  have h1 := (List.getElem?_eq_some_iff.1 hl).1
  have h2 := (List.getElem?_eq_some_iff.1 hm).1
  rw [List.take_add_one, List.take_add_one, hl, hm]
  constructor
  · intro h
    have h1 := List.append_inj h (by simp; omega)
    exact ⟨h1.1, by simpa using h1.2⟩
  · rintro ⟨h1, h2⟩
    rw [h1, h2]

/-- what Roomy lays down: the list, and 80 marks behind it -/
def roomyS (l : List Sp) (m : Sp) : List Sp := l ++ List.replicate 80 m
theorem roomyS_set (l : List Sp) (m : Sp) (k : Nat) (h : k < 80) : (l ++ List.replicate k m ++ List.replicate (80 - k) (0, 0)).set (l.length + k) m = l ++ List.replicate (k + 1) m ++ List.replicate (80 - (k + 1)) (0, 0) := by
  have e : 80 - k = (80 - (k + 1)) + 1 := by omega
  rw [e, List.replicate_succ, List.set_append_right _ _ (by simp)]
  have e2 : l.length + k - (l ++ List.replicate k m).length = 0 := by simp
  rw [e2, List.set_cons_zero, List.replicate_succ', List.append_assoc, List.append_assoc, List.append_assoc]
  rfl

theorem rd_roomyS {w1 : World} {h n : Nat} {l : List Sp} {m : Sp} {t : TypeId} (hb1 : Blk w1 h t (ses (roomyS l m))) (hl : l.length = n) :
    Rd w1 w1.heap.size 2 (some ⟨h, 0, none⟩) (n + 80) (ses (roomyS l m)) ∧ Rd w1 w1.heap.size 2 (some ⟨h, 0, none⟩) n (ses l) := by
  have hf : Rd w1 w1.heap.size 2 (some ⟨h, 0, none⟩) (n + 80) (ses (roomyS l m)) := (Rd.whole hb1 (by rw [ses_length, roomyS, List.length_append, List.length_replicate, hl])).more hb1.lt
  refine ⟨hf, ?_⟩
  have h1 := hf.take (k := n) (by omega)
  rw [ses_take] at h1
  have e : (roomyS l m).take n = l := by unfold roomyS; rw [List.take_append_of_le_length (by omega), List.take_of_length_le (by omega)]
  rwa [e] at h1
end Go.Proofs.YtemnanhoiacphaaDoor
