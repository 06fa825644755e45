/- 's[:hi]', as a rule for the walk; what a law cuts at a bound. -/
import Derived.Test.YtodgllnmepnpfaaDoorWd
set_option linter.unusedVariables false
set_option linter.unusedSimpArgs false
namespace Go.Proofs.YtodgllnmepnpfaaDoor
open Go.RowKit
theorem run_slice_h {P : Program} {t e : TypeId} (ht : P.underlying t = some (.slice e)) {size : Nat} (hsz : (P.info? e).map (·.size) = some size) {A : Option Addr} {n c m : Nat} {hi : Int} (hhi : hi = (m : Int)) (hm : m ≤ c) :
    ∀ (r : IntKind) (W : World), (Instr.slice t (.slice A n c) none (some (.int r hi)) none).run P W = .ok (.slice A m c) W := by
  subst hhi
  intro r W
  cases hi : P.info? e with
  | none => simp [hi] at hsz
  | some i =>
    have h2 := run_sliceBound (P := P) W r (m : Int) c .sliceAcap (by omega) (by omega)
    simp [Instr.slice, run_underlying ht, Instr.sliceBounds, run_sliceBound, sizeOf, typeInfo, hi, h2, Addr.add]
/-- a list cut at k -/
theorem Rd.cutTo {w : World} {B n : Nat} {A : Option Addr} {l : List UInt8} (hr : Rd w B 1 A n (bvs l)) (hl : l.length = n) (k : Nat) : ∃ n' l', List.length l' = n' ∧ Rd w B 1 A n' (bvs l') ∧ n' ≤ n ∧ n' ≤ k ∧ (0 < n → 0 < k → 0 < n') ∧ l' = l.take k ∧ ((n ≤ k ∧ n' = n) ∨ (k < n ∧ n' = k)) := by
  by_cases h : n ≤ k
  · exact ⟨n, l, hl, hr, Nat.le_refl _, h, fun h _ => h, (List.take_of_length_le (by omega)).symm, .inl ⟨h, rfl⟩⟩
  · have h2 := hr.take (k := k) (by omega)
    rw [Nat.mul_one, bvs_take] at h2
    exact ⟨k, l.take k, by rw [List.length_take, hl]; omega, h2, by omega, Nat.le_refl _, fun _ h => h, rfl, .inr ⟨by omega, rfl⟩⟩
theorem Rd.on {w w' : World} {B size n : Nat} {A : Option Addr} {xs : List Value} (h : Rd w B size A n xs) (hO : Only [] w w') (hB : B ≤ w.heap.size) : Rd w' w'.heap.size size A n xs := (h.only hO (by simp)).more (Nat.le_trans hB hO.size)
theorem Only.ofDrew {l : List Nat} {a w : World} (h : Only l a.drew w) : Only l a w := ⟨h.os, h.tape, h.output, h.size, h.block⟩
/-- 's[lo:]': the address, and its block -/
theorem Rd.slice_lb {P : Program} {w : World} {B size n : Nat} {A : Option Addr} {xs : List Value} (h : Rd w B size A n xs) {t e : TypeId} (ht : P.underlying t = some (.slice e)) (hsz : (P.info? e).map (·.size) = some size) {k c : Nat} {lo : Int} (hlo : lo = (k : Int)) (hk : k ≤ n) (hc : n ≤ c) :
    ∃ A', (∀ (q : IntKind) (W : World), (Instr.slice t (.slice A n c) (some (.int q lo)) none none).run P W = .ok (.slice A' (n - k) (c - k)) W) ∧ Rd w B size A' (n - k) (xs.drop (k * size)) ∧ ∀ ad, A' = some ad → ∃ ad0, A = some ad0 ∧ ad0.block = ad.block := by
  subst hlo
  cases hi : P.info? e with
  | none => simp [hi] at hsz
  | some i =>
    have hs : i.size = size := by simpa [hi] using hsz
    refine ⟨if c = k then A else A.map (·.add (k * size)), fun q W => ?_, h.cut hk hc, ?_⟩
    · simp [Instr.slice, run_underlying ht, Instr.sliceBounds, run_sliceBound, sizeOf, typeInfo, hi, hs, hk]
    · intro ad e
      by_cases h : c = k
      · rw [if_pos h] at e; exact ⟨ad, e, rfl⟩
      · rw [if_neg h] at e
        cases A with
        | none => simp at e
        | some a => simp at e; subst e; exact ⟨a, rfl, (add_block _ _).symm⟩
end Go.Proofs.YtodgllnmepnpfaaDoor
