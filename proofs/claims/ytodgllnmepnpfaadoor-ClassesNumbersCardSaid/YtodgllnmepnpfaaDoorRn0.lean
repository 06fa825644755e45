/- Chapter 4's runs: plain. -/
import Derived.Test.YtodgllnmepnpfaaDoorUtfI
import Derived.Test.YtodgllnmepnpfaaDoorCls
set_option linter.unusedVariables false
set_option linter.unusedSimpArgs false
namespace Go.Proofs.YtodgllnmepnpfaaDoor
open Go.RowKit

/-- a run -/
structure RunD where
  k : Nat
  f : Nat
  t : Nat
  n : Nat
  deriving DecidableEq, Inhabited
def RunD.enc (x : RunD) : List Value := [.int .i64 (x.k : Int), .int .i64 (x.f : Int), .int .i64 (x.t : Int), .int .i64 (x.n : Int)]
def kindIt (a b d : List Sp) (x : It) : Nat := if x.bad = true then 4 else kindOf a b d (x.r : Int)
def RunD.one (a b d : List Sp) (x : It) : RunD := ⟨kindIt a b d x, x.at_, x.at_ + x.n, 1⟩
/-- the runs of items, behind a run that is begun -/
def runsG (a b d : List Sp) : RunD → List It → List RunD
  | c, [] => [c]
  | c, x :: l => if kindIt a b d x = c.k then runsG a b d ⟨c.k, c.f, x.at_ + x.n, c.n + 1⟩ l else c :: runsG a b d (.one a b d x) l
def runsL (a b d : List Sp) : List It → List RunD
  | [] => []
  | x :: l => runsG a b d (.one a b d x) l
def runsU (a b d : List Sp) (s : ByteArray) : List RunD := runsL a b d (itemsU s)
theorem kind_le (a b d : List Sp) (x : It) : 1 ≤ kindIt a b d x ∧ kindIt a b d x ≤ 4 := by
  unfold kindIt kindOf
  (repeat' split) <;> omega
theorem runsG_len (a b d : List Sp) : ∀ (l : List It) (c : RunD), 1 ≤ (runsG a b d c l).length ∧ (runsG a b d c l).length ≤ l.length + 1
  | [], c => by simp [runsG]
  | x :: l, c => by
    rw [runsG]
    split
    · have := runsG_len a b d l ⟨c.k, c.f, x.at_ + x.n, c.n + 1⟩
      simp only [List.length_cons]; omega
    · have := runsG_len a b d l (.one a b d x)
      simp only [List.length_cons]; omega
theorem runsL_len (a b d : List Sp) (l : List It) : (runsL a b d l).length ≤ l.length := by
  cases l with
  | nil => simp [runsL]
  | cons x l => have := runsG_len a b d l (.one a b d x); simp only [runsL, List.length_cons]; omega
/-- a rune's kind is its item's, where the rune is not U+FFFD -/
theorem kind_good {s : ByteArray} {p : Nat} (a b d : List Sp) (h : (Utf8.decode s p).1 ≠ 65533) : kindIt a b d (itAt s p) = kindOf a b d ((Utf8.decode s p).1 : Int) := by
  unfold kindIt itAt isBad
  rw [if_neg (by simp [h])]
theorem itemsF_cons {s : ByteArray} {f p : Nat} (hp : p < s.size) : ∃ g, itemsF s (f + 1) p = itAt s p :: itemsF s g (p + (Utf8.decode s p).2) := ⟨f, by rw [itemsF, if_pos hp]⟩
end Go.Proofs.YtodgllnmepnpfaaDoor
