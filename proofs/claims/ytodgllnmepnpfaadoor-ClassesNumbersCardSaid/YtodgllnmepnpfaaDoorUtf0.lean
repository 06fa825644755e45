/- utf: the walks of first, beginning over the tables. -/
import Derived.Test.YtodgllnmepnpfaaDoorShelf
import Derived.Test.YtodgllnmepnpfaaDoorTo
import Derived.Test.YtodgllnmepnpfaaDoorRows
import Derived.WalkKit
import Derived.Laws.ResultCell
import Derived.Shelf.Spec.BytesIndexFunc
set_option linter.unusedVariables false
set_option linter.unusedSimpArgs false
namespace Go.Proofs.YtodgllnmepnpfaaDoor
open Go.RowKit

/-- the two tables of unicode/utf8 stand as they were laid -/
abbrev Tabs (w : World) : Prop := Lib.Utf8Tabs 0 1 w
theorem Tabs.only {w w' : World} {l : List Nat} (h : Tabs w) (hO : Only l w w') (h0 : 0 ∉ l) (h1 : 1 ∉ l) : Tabs w' :=
  ⟨fun c hc => hO.cellv (h.1 c hc) h0, fun i hi => ⟨hO.cellv (h.2 i hi).1 h1, hO.cellv (h.2 i hi).2 h1⟩⟩

theorem results_cell1 {fn : Func} {p : Tmp} {ty : TypeId} (h : fn.results = #[.cell p ty]) (tmps : Array Value) (P : Program) (w : World) :
    (results fn tmps).run P w = ((asAddr (tmps.getD p undef)).run P w).andThen fun a w₁ => (loadVar ty a).run P w₁ := by
  simp only [results, h]
  simp [Sem.run_bind, Result.andThen]

/-- an item -/
structure It where
  at_ : Nat
  n : Nat
  r : Nat
  bad : Bool
  deriving DecidableEq, Inhabited
def isBad (d : Nat × Nat) : Bool := decide (d.1 = 65533 ∧ d.2 = 1)
def It.enc (x : It) : List Value := [.int .i64 (x.at_ : Int), .int .i64 (x.n : Int), .int .i32 (x.r : Int), .bool x.bad]
def firstIt (s : ByteArray) (p : Nat) : It := ⟨p, (Lib.decodeGo s).2, (Lib.decodeGo s).1, isBad (Lib.decodeGo s)⟩

theorem load4 {w : World} {h0 : Nat} {v0 v1 v2 v3 : Value} (hb : Blk w h0 58 [v0, v1, v2, v3]) :
    (((asAddr (.pointer (some ⟨h0, 0, none⟩))).run Tryd.prog w).andThen fun a w₁ => (loadVar 58 a).run Tryd.prog w₁) = Result.ok (Value.agg #[v0, v1, v2, v3]) w := by
  have c0 : w.cell? ⟨h0, 0, none⟩ = some v0 := hb.cell 0
  have c1 : w.cell? ⟨h0, 1, none⟩ = some v1 := hb.cell 1
  have c2 : w.cell? ⟨h0, 2, none⟩ = some v2 := hb.cell 2
  have c3 : w.cell? ⟨h0, 3, none⟩ = some v3 := hb.cell 3
  go_simp

set_option maxRecDepth 100000 in
set_option maxHeartbeats 2000000 in
theorem first_any (s : ByteArray) (p : Nat) (w : World) (hT : Tabs w) :
    Calls Tryd.prog 27 #[.string s, .int .i64 (p : Int)] w fun e w' => e = .returned (.agg (firstIt s p).enc.toArray) ∧ Only [] w w' := by
  obtain ⟨h0, hh0⟩ : ∃ h, h = w.heap.size := ⟨_, rfl⟩
  have hb : Blk (w.alloc (.cells #[.int .i64 0, .int .i64 0, .int .i32 0, .bool false] 58)) h0 58 [.int .i64 0, .int .i64 0, .int .i32 0, .bool false] := Blk.new' _ _ _ hh0.symm rfl
  have hO := (Only.refl [] w).alloc (.cells #[.int .i64 0, .int .i64 0, .int .i32 0, .bool false] 58)
  go_enter Tryd.func27, Tryd.ntmps27
  go_wp2_with (fail)
  rw [← hh0]
  have hwh : w.heap.size ≤ h0 := by omega
  clear hh0
  refine name_it (p := fun y => Calls _ _ _ y _) ?_
  intro wa Ha
  rw [← Ha.out] at hb hO
  clear Ha
  refine (Tryd.utf8_DecodeRuneInString s wa (hT.only hO (by simp) (by simp))).mono ?_
  rintro e w2 ⟨rfl, hB⟩
  have hO2 := Only.of_below hB
  replace hb := hb.only hO2 (by simp)
  replace hO2 := hO.trans hO2
  obtain ⟨d, hd⟩ : ∃ d, d = Lib.decodeGo s := ⟨_, rfl⟩
  rw [← hd]
  obtain ⟨r, n⟩ := d
  simp only
  have Hd := Lib.hid hd
  have e0 : w2.cell? ⟨h0, 0, none⟩ = some (.int .i64 0) := hb.cell 0
  have e1 : w2.cell? ⟨h0, 1, none⟩ = some (.int .i64 0) := hb.cell 1
  have e2 : w2.cell? ⟨h0, 2, none⟩ = some (.int .i32 0) := hb.cell 2
  have e3 : w2.cell? ⟨h0, 3, none⟩ = some (.bool false) := hb.cell 3
  have z0 := hb.frozen 0
  have z1 := hb.frozen 1
  have z2 := hb.frozen 2
  have z3 := hb.frozen 3
  clear hd hB hO
  by_cases h1 : r = 65533
  · by_cases h2 : n = 1
    · subst h1 h2
      go_wp2_with (fail)
      (try simp only [Exit.inBlock, Exit.then])
      refine bodyPost_ret (v := .agg #[.int .i64 (p : Int), .int .i64 1, .int .i32 65533, .bool true]) ?_ rfl ⟨by (rw [It.enc, firstIt, ← Hd.out]) <;> rfl, ((((hO2.setCell (.inr hwh) _).setCell (.inr hwh) _).setCell (.inr hwh) _).setCell (.inr hwh) _)⟩
      rw [results_cell1 rfl]
      exact load4 ((((hb.set 0 _).set 1 _).set 2 _).set 3 _)
    · subst h1
      have h2' : ((n : Int) == 1) = false := by simp; omega
      have hbad : isBad (65533, n) = false := by simp [isBad, h2]
      go_wp2_with (fail)
      (try simp only [Exit.inBlock, Exit.then])
      refine bodyPost_ret (v := .agg #[.int .i64 (p : Int), .int .i64 (n : Int), .int .i32 65533, .bool false]) ?_ rfl ⟨by (rw [It.enc, firstIt, ← Hd.out, hbad]) <;> rfl, ((((hO2.setCell (.inr hwh) _).setCell (.inr hwh) _).setCell (.inr hwh) _).setCell (.inr hwh) _)⟩
      rw [results_cell1 rfl]
      exact load4 ((((hb.set 0 _).set 1 _).set 2 _).set 3 _)
  · have h1' : ¬ (r : Int) = 65533 := by omega
    have hbad : isBad (r, n) = false := by simp [isBad, h1]
    go_wp2_with (fail)
    (try simp only [Exit.inBlock, Exit.then])
    refine bodyPost_ret (v := .agg #[.int .i64 (p : Int), .int .i64 (n : Int), .int .i32 (r : Int), .bool false]) ?_ rfl ⟨by (rw [It.enc, firstIt, ← Hd.out, hbad]) <;> rfl, ((((hO2.setCell (.inr hwh) _).setCell (.inr hwh) _).setCell (.inr hwh) _).setCell (.inr hwh) _)⟩
    rw [results_cell1 rfl]
    exact load4 ((((hb.set 0 _).set 1 _).set 2 _).set 3 _)

/-- FullRuneInString, of bytes n, b0, b1, b2 (what lies beyond the end: 0) -/
def fullN (n b0 b1 b2 : Nat) : Bool :=
  if n = 0 then false
  else if Lib.firstT b0 % 8 ≤ n then true
  else if 1 < n ∧ (b1 < Lib.accLo (Lib.firstT b0 / 16) ∨ Lib.accHi (Lib.firstT b0 / 16) < b1) then true
  else if 2 < n ∧ (b2 < 128 ∨ 191 < b2) then true
  else false
def fullGo (s : ByteArray) : Bool := fullN s.size (s.get! 0).toNat (s.get! 1).toNat (s.get! 2).toNat
def beginsGo (s : ByteArray) : Bool := decide (s.size ≠ 0) && !fullGo s
end Go.Proofs.YtodgllnmepnpfaaDoor
