/- OctetKept: the walk. -/
import Derived.Test.YtjjfnepmnjjemaaOctK
import Derived.Test.YtjjfnepmnjjemaaBookN
namespace Go.Proofs.Ytjjfnepmnjjemaa
open Go.RowKit

set_option maxRecDepth 100000 in
set_option maxHeartbeats 2000000 in
theorem octetKept_walk (w : World) (A : Option Addr) (n c : Nat) (l : List UInt8) (hl : l.length = n) (hr : Rd w w.heap.size 1 A n (bvs l)) (hc : n ≤ c) (hb : c ≤ 1048576)
    (x : Int) (hx : 0 ≤ x ∧ x ≤ 4294967295) (s : ByteArray) (hs : s.size ≤ 1048576) :
    Calls Try.prog 10 #[.slice A n c, .int .u32 x, .string s] w fun e w' => e = .returned (.bool true) ∧ Only [] w w' := by
  obtain ⟨x, rfl⟩ := Int.eq_ofNat_of_zero_le hx.1
  have hx' : x < 4294967296 := by omega
  have Hl := Lib.hid hl
  clear hx hl
  obtain ⟨g, hg⟩ : ∃ g, g = w.heap.size := ⟨_, rfl⟩
  go_enter Try.func10, Try.ntmps10
  go_wp2_with (fail)
  rw [← hg]
  have h1 : Blk (w.alloc (.cells #[.slice none 0 0, .slice none 0 0, .int .i64 0, .bool false] 42)) g 42 [.slice none 0 0, .slice none 0 0, .int .i64 0, .bool false] := Blk.new' _ _ _ hg.symm rfl
  have hB0 := book_new (base := w.heap.size) h1 (by omega)
  have hO0 := (Only.refl [] w).alloc (.cells #[.slice none 0 0, .slice none 0 0, .int .i64 0, .bool false] 42)
  have hgw : w.heap.size ≤ g := by omega
  have Hg := Lib.hid hg
  clear hg

  go_loopw [8] (fun i wr => ∃ (k : Nat) (bl : List Nat) (L : List Ent) (lv wv : Value) (held : Int) (ws : List Value), i = .int .i64 (k : Int) ∧ k ≤ 2 ∧ BookB wr w.heap.size g bl L lv wv held ws ∧ L.length ≤ 4000 ∧ (∀ x ∈ bl, g ≤ x) ∧ Only [] w wr) (fun i _ => 2 - (intOf i).toNat)
  case atStart => exact ⟨0, _, _, _, _, _, _, rfl, by omega, hB0, by simp, by simp, hO0⟩
  case round =>
    obtain ⟨k, bl, L, lv, wv, held, ws, rfl, hk, hB, hL, hlo, hO⟩ := hrel
    clear hB0 hO0 h1
    by_cases hlt : k < 2
    · go_wp2_with (fail)
      refine (put_any A n c x l _ (hr.on hO (Nat.le_refl _)) (by omega) hx' hc).mono ?_
      rintro e w2 ⟨v2, rfl, hown2, hO2⟩
      obtain ⟨A2, c2, rfl, _, _, _⟩ := own_slice hown2
      have hB2 := hB.only0 hO2
      have hs0 := hO.size
      have hs2 := hO2.size
      have hgs : g ≤ wr.heap.size := Nat.le_of_lt hB.blk.lt
      go_wp2_with (fail)
      refine (keep_any _ w.heap.size g _ _ _ _ _ _ hB2 hL A2 (n + 4) c2 _ (own_base hown2 (by omega)) (by intro k hk hx; have h1 := (own_lt hown2 hk).1; have h2 := (hB.own _ hx).2; omega) (by intro e he k hk hk2; have h1 := (own_lt hown2 hk2).1; have h2 := (own_lt (hB.ents e he).1 hk).2; omega) (by omega)).mono ?_
      rintro e w3 ⟨rfl, hK3⟩
      obtain ⟨j3, bl3, lv3, wv3, held3, ws3, hB3, hL3, hlo3, hOk, hO3, _⟩ := hK3.next hlo (by omega) hgw (hO.trans hO2)
      generalize List.drop j3 _ = L3 at hB3 hL3
      have hs3 := hOk.size
      clear hK3 hOk hB2 hown2 hO2 hO hB
      go_wp2_with (fail)
      refine (putText_any A n c l s _ (hr.on hO3 (Nat.le_refl _)) (by omega) (by omega) hc).mono ?_
      rintro e w4 ⟨v4, rfl, hown4, hO4⟩
      obtain ⟨A4, c4, rfl, _, _, _⟩ := own_slice hown4
      have hB4 := hB3.only0 hO4
      have hs4 := hO4.size
      go_wp2_with (fail)
      refine (keep_any _ w.heap.size g _ _ _ _ _ _ hB4 hL3 A4 (n + 4 + s.size) c4 _ (own_base hown4 (by omega)) (by intro k hk hx; have h1 := (own_lt hown4 hk).1; have h2 := (hB3.own _ hx).2; omega) (by intro e he k hk hk2; have h1 := (own_lt hown4 hk2).1; have h2 := (own_lt (hB3.ents e he).1 hk).2; omega) (by omega)).mono ?_
      rintro e w5 ⟨rfl, hK5⟩
      obtain ⟨j5, bl5, lv5, wv5, held5, ws5, hB5, hL5, hlo5, hOk, hO5, _⟩ := hK5.next hlo3 (by omega) hgw (hO3.trans hO4)
      generalize List.drop j5 _ = L5 at hB5 hL5
      clear hK5 hOk hB3 hB4 hown4 hO4 hO3
      go_wp2_with (fail)
      go_roundw
      case rel => exact ⟨k + 1, bl5, L5, _, _, _, _, by go_num, by omega, hB5, hL5, hlo5, hO5⟩
      case measure => simp [intOf]; omega
    · go_wp2_with (fail)
      refine (apart_any _ w.heap.size g _ _ _ _ _ _ hB (by omega)).mono ?_
      rintro e w14 ⟨rfl, hOa⟩
      have hO14 : Only [] w w14 := hO.trans' hOa (by
        intro x hx
        simp only [List.mem_append, List.mem_flatMap, Option.mem_toList] at hx
        rcases hx with hx | ⟨e, he, hk⟩
        · exact .inr (hB.own x hx).1
        · exact .inr (own_lt (hB.ents e he).1 hk).1)
      go_wp2_with (fail)
      refine (octetKnown _).mono ?_
      rintro e w15 ⟨rfl, hO15⟩
      go_wp2
      go_ret
      exact ⟨rfl, hO14.trans hO15⟩
end Go.Proofs.Ytjjfnepmnjjemaa
