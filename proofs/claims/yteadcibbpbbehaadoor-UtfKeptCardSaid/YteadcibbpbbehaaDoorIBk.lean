/- Contracts of tesserabook's Same over items. -/
import Derived.Test.YteadcibbpbbehaaDoorUtfE
set_option linter.unusedVariables false
set_option linter.unusedSimpArgs false
namespace Go.Proofs.YteadcibbpbbehaaDoor
open Go.RowKit

def its (l : List It) : List Value := l.flatMap It.enc
theorem its_length (l : List It) : (its l).length = l.length * 4 := encs_length l
theorem its_one (l : List It) : ∀ u ∈ its l, u.oneCell' = true := encs_one l

set_option maxRecDepth 100000 in
set_option maxHeartbeats 2000000 in
theorem sameI_any (A C : Option Addr) (n c m d B B' : Nat) (x : List It) (w : World) (hx : Rd w B 4 A n (its x)) (hy : Rd w B' 4 C n (its x)) (hxl : x.length = n) (hn : n ≤ 17592186043904) :
    Calls Tryd.prog 39 #[.slice A n c, .slice C n d] w fun e w' => e = .returned (.bool true) ∧ ∃ k, w' = w.drewN k := by
  have Hxl := Lib.hid hxl
  clear hxl
  go_enter Tryd.func39, Tryd.ntmps39
  go_wp2_with (fail)
  go_loopw [5] (fun i wr => ∃ k : Nat, k ≤ n ∧ i = .int .i64 (k : Int) ∧ ∃ j, wr = w.drewN j) (fun i _ => n - (intOf i).toNat)
  case atStart => exact ⟨0, by omega, rfl, 0, rfl⟩
  case round =>
    obtain ⟨k, hk, rfl, j, hw⟩ := hrel
    have Hw := Lib.hid hw
    clear hw
    by_cases hlt : k < n
    · obtain ⟨p, hp⟩ : ∃ p, x[k]? = some p := ⟨_, List.getElem?_eq_getElem (by rw [Hxl.out]; exact hlt)⟩
      obtain ⟨g, o, rfl, _, c0, c1, c2, c3⟩ := (show Rd wr B 4 A n (x.flatMap It.enc) by rw [Hw.out]; exact hx).it hp
      obtain ⟨g', o', rfl, _, d0, d1, d2, d3⟩ := (show Rd wr B' 4 C n (x.flatMap It.enc) by rw [Hw.out]; exact hy).it hp
      clear hp
      go_wp2_with (fail)
      go_quiet (fail)
      go_wp2
      go_roundw
      case rel => exact ⟨k + 1, by omega, by go_num, _, by rw [Hw.out, World.drewN_drewN]⟩
      case measure => simp [intOf]; omega
    · obtain rfl : k = n := by omega
      go_wp2
      go_ret
      exact ⟨rfl, _, Hw.out⟩
end Go.Proofs.YteadcibbpbbehaaDoor
