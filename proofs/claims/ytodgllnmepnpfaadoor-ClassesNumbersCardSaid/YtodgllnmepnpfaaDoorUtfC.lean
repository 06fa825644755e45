/- The reference of chapter 2: Complete, Items, Tail. -/
import Derived.Test.YtodgllnmepnpfaaDoorUtfP
import Derived.Test.YtodgllnmepnpfaaDoorAp
set_option linter.unusedVariables false
set_option linter.unusedSimpArgs false
namespace Go.Proofs.YtodgllnmepnpfaaDoor
open Go.RowKit

theorem encs_one (l : List It) : ∀ u ∈ l.flatMap It.enc, u.oneCell' = true := by
  intro u hu
  simp only [List.mem_flatMap] at hu
  obtain ⟨p, _, hp⟩ := hu
  simp [It.enc] at hp
  rcases hp with rfl | rfl | rfl | rfl <;> rfl
theorem encs_length (l : List It) : (l.flatMap It.enc).length = l.length * 4 := by
  induction l with
  | nil => rfl
  | cons a l ih => rw [List.flatMap_cons, List.length_append, ih, List.length_cons]; simp [It.enc]; omega

/-- an item appended to a row of items of the call's own -/
theorem app_it (P : Program) (t e : TypeId) (ht : P.underlying t = some (.slice e)) (hinfo : (P.info? e).map (fun i => (i.zero, i.size, i.bytes)) = some (some (.agg #[.int .i64 0, .int .i64 0, .int .i32 0, .bool false]), 4, 24))
    {w : World} {base : Nat} {v : Value} {l : List It} (hown : w.ownsRow base e 4 v l.length (l.flatMap It.enc)) (hb : base ≤ w.heap.size) (x : It) (hl : l.length + 1 ≤ 5000000) :
    ∃ v' w', (Builtin.append_ #[t, t] t #[v, .slice (some ⟨w.heap.size, 0, none⟩) 1 1]).run P (w.alloc (.cells x.enc.toArray e)) = .ok v' w' ∧
      w'.ownsRow base e 4 v' (l ++ [x]).length ((l ++ [x]).flatMap It.enc) ∧ Only v.ownBlock.toList w w' ∧ (v'.ownBlock = v.ownBlock ∨ ∃ k, v'.ownBlock = some k ∧ w.heap.size ≤ k) := by
  have hO := (Only.refl [] w).alloc (.cells x.enc.toArray e)
  have hown2 : (w.alloc (.cells x.enc.toArray e)).ownsRow base e 4 v l.length (l.flatMap It.enc) := own_only hown hO (by simp)
  have hy : Rd (w.alloc (.cells x.enc.toArray e)) (w.heap.size + 1) 4 (some ⟨w.heap.size, 0, none⟩) 1 x.enc := Rd.whole (t := e) (Blk.new' _ _ _ rfl rfl) rfl
  obtain ⟨v', w', hrun, hown', hO', hat, _⟩ := run_append_row (P := P) base t t e (.agg #[.int .i64 0, .int .i64 0, .int .i32 0, .bool false]) 4 24 ht hinfo rfl (by omega) hown2 1 hy (fun u hu => encs_one [x] u (by simpa using hu)) (by simp only [maxLen]; omega) (by omega) (by simp; omega)
  refine ⟨v', w', hrun, ?_, ((Only.refl v.ownBlock.toList w).alloc _).trans hO', ?_⟩
  · rw [List.length_append, List.flatMap_append]; simpa using hown'
  · rcases hat with h | h
    · exact .inl h
    · exact .inr ⟨_, h, by simp⟩

/-- the reference's Complete, from a place on; f: a bound on the rounds -/
def complF (s : ByteArray) : Nat → Nat → List It × Nat
  | 0, p => ([], p)
  | f + 1, p =>
    if p < s.size then
      if widthS s p ≠ 0 then (⟨p, widthS s p, readS s p (widthS s p), false⟩ :: (complF s f (p + widthS s p)).1, (complF s f (p + widthS s p)).2)
      else if beginsS s p = s.size - p then ([], p)
      else (⟨p, 1, 65533, true⟩ :: (complF s f (p + 1)).1, (complF s f (p + 1)).2)
    else ([], p)
def complS (s : ByteArray) : List It × Nat := complF s s.size 0

theorem widthS_P (s : ByteArray) (p : Nat) : widthS s p = widthP (s.size - p) (byteAt s p) (byteAt s (p + 1)) (byteAt s (p + 2)) (byteAt s (p + 3)) := rfl
theorem widthS_fits (s : ByteArray) (p : Nat) (hp : p < s.size) (h : widthS s p ≠ 0) : p + widthS s p ≤ s.size ∧ 1 ≤ widthS s p ∧ widthS s p ≤ 4 := by
  have h1 := ((widthP_dec (s.size - p) _ _ _ _ (by omega) (byte_lt' s p) (byte_lt' s (p + 1)) (byte_lt' s (p + 2)) (byte_lt' s (p + 3))).1 (by rw [← widthS_P]; exact h)).2
  rw [← widthS_P] at h1
  have h2 : widthS s p ≤ 4 := by unfold widthS; have := needN_le (byteAt s p); (repeat' split) <;> omega
  omega
theorem complF_more (s : ByteArray) : ∀ (f g p : Nat), s.size ≤ p + f → s.size ≤ p + g → complF s f p = complF s g p
  | 0, 0, p, _, _ => rfl
  | 0, g + 1, p, h, _ => by rw [complF, complF, if_neg (by omega)]
  | f + 1, 0, p, _, h => by rw [complF, complF, if_neg (by omega)]
  | f + 1, g + 1, p, h1, h2 => by
    rw [complF, complF]
    by_cases hp : p < s.size
    · rw [if_pos hp, if_pos hp]
      by_cases hw : widthS s p ≠ 0
      · have := widthS_fits s p hp hw
        rw [if_pos hw, if_pos hw, complF_more s f g _ (by omega) (by omega)]
      · rw [if_neg hw, if_neg hw, complF_more s f g _ (by omega) (by omega)]
    · rw [if_neg hp, if_neg hp]

theorem complF_good {s : ByteArray} {p k : Nat} (hp : p < s.size) (hk : k = widthS s p) (h0 : k ≠ 0) : complF s (s.size - p) p = (⟨p, k, readS s p k, false⟩ :: (complF s (s.size - (p + k)) (p + k)).1, (complF s (s.size - (p + k)) (p + k)).2) := by
  have e : complF s (s.size - p) p = complF s (s.size - (p + 1) + 1) p := by congr 1; omega
  have := widthS_fits s p hp (by rw [← hk]; exact h0)
  rw [e, complF, if_pos hp, ← hk, if_pos h0, complF_more s (s.size - (p + 1)) (s.size - (p + k)) (p + k) (by omega) (by omega)]
theorem complF_held {s : ByteArray} {p : Nat} (hp : p < s.size) (hk : 0 = widthS s p) (hb : beginsS s p = s.size - p) : complF s (s.size - p) p = ([], p) := by
  have e : complF s (s.size - p) p = complF s (s.size - (p + 1) + 1) p := by congr 1; omega
  rw [e, complF, if_pos hp, ← hk, if_neg (by simp), if_pos hb]
theorem complF_bad {s : ByteArray} {p : Nat} (hp : p < s.size) (hk : 0 = widthS s p) (hb : beginsS s p ≠ s.size - p) : complF s (s.size - p) p = (⟨p, 1, 65533, true⟩ :: (complF s (s.size - (p + 1)) (p + 1)).1, (complF s (s.size - (p + 1)) (p + 1)).2) := by
  have e : complF s (s.size - p) p = complF s (s.size - (p + 1) + 1) p := by congr 1; omega
  rw [e, complF, if_pos hp, ← hk, if_neg (by simp), if_neg hb]

set_option maxRecDepth 100000 in
set_option maxHeartbeats 4000000 in
theorem complete_any (s : ByteArray) (hs : s.size ≤ 1048576) (w : World) :
    Calls Tryd.prog 35 #[.string s] w fun e w' => ∃ v, e = .returned (.tuple #[v, .int .i64 ((complS s).2 : Int)]) ∧ w'.ownsRow w.heap.size 80 4 v (complS s).1.length ((complS s).1.flatMap It.enc) ∧ Only [] w w' ∧ (complS s).2 ≤ s.size := by
  go_enter Tryd.func35, Tryd.ntmps35
  go_wp2_with (fail)
  go_loopw [5, 4] (fun vp v wr => ∃ (p : Nat) (l : List It), vp = .int .i64 (p : Int) ∧ p ≤ s.size ∧ l.length ≤ p ∧ wr.ownsRow w.heap.size 80 4 v l.length (l.flatMap It.enc) ∧ l ++ (complF s (s.size - p) p).1 = (complS s).1 ∧ (complF s (s.size - p) p).2 = (complS s).2 ∧ Only [] w wr) (fun vp _ _ => s.size - (intOf vp).toNat)
  case atStart => exact ⟨0, [], rfl, by omega, by simp, ⟨rfl, .inl ⟨rfl, rfl⟩⟩, by simp [complS], by simp [complS], .refl _ _⟩
  case round =>
    obtain ⟨p, l, rfl, hp, hlp, hown, hq1, hq2, hO⟩ := hrel
    have Hq1 := Lib.hid hq1
    have Hq2 := Lib.hid hq2
    clear hq1 hq2
    by_cases hlt : p < s.size
    · go_wp2_with (fail)
      refine (width_any s p hlt (by omega) _).mono ?_
      rintro e w2 ⟨rfl, rfl⟩
      have hwf := widthS_fits s p hlt
      obtain ⟨k, hk⟩ : ∃ k, k = widthS s p := ⟨_, rfl⟩
      rw [← hk] at hwf ⊢
      have Hk := Lib.hid hk
      clear hk
      by_cases h0 : k = 0
      · subst h0
        clear hwf
        go_wp2_with (fail)
        refine (begins_any s p hlt (by omega) _).mono ?_
        rintro e w3 ⟨rfl, rfl⟩
        obtain ⟨b, hb⟩ : ∃ b, b = beginsS s p := ⟨_, rfl⟩
        rw [← hb]
        have Hb := Lib.hid hb
        clear hb
        by_cases hh : b = s.size - p
        · have hh' : (b : Int) = (s.size : Int) - (p : Int) := by omega
          have Hh := Lib.hid hh
          have Hh' := Lib.hid hh'
          have ht : ((b : Int) == (s.size : Int) - (p : Int)) = true := by simp; exact hh'
          clear hh hh'
          go_wp2_with (fail)
          go_ret2
          rw [← Hq1.out, ← Hq2.out, complF_held hlt Hk.out (by rw [← Hb.out]; exact Hh.out), List.append_nil]
          exact ⟨_, rfl, hown, hO, hp⟩
        · have ht : ((b : Int) == (s.size : Int) - (p : Int)) = false := by simp; omega
          have Hh := Lib.hid hh
          clear hh
          obtain ⟨v', w', hrun, hown', hO', hat⟩ := app_it Tryd.prog 77 80 Tryd.underlying77 (by kernel_rfl) hown hO.size ⟨p, 1, 65533, true⟩ (by omega)
          have hOw : Only [] w w' := hO.trans' hO' (by intro x hx; exact .inr (own_lt hown (by simpa using hx)).1)
          have Hrun := Lib.hid hrun
          have Hown := Lib.hid hown'
          clear hrun hown' hO' hat hown
          go_wp2_with ((at_builtin; refine wpList_append_run (o := ⟨some 43, _, _, _, _, _⟩) (by rfl) (.tmp 39) (.tmp 42) 77 77 (by rfl) (by rfl) (by rfl) Hrun.out ?_))
          go_roundw
          case rel =>
            have e := complF_bad hlt Hk.out (by rw [← Hb.out]; exact Hh.out)
            exact ⟨p + 1, l ++ [⟨p, 1, 65533, true⟩], by go_num, by omega, by simp; omega, Hown.out, by rw [← Hq1.out, e, List.append_assoc]; rfl, by rw [← Hq2.out, e], hOw⟩
          case measure => simp [intOf]; omega
      · obtain ⟨f1, f2, f3⟩ := hwf h0
        have h0' : (0 : Int) < (k : Int) := by omega
        clear hwf
        go_wp2_with (fail)
        refine (read_any s p k ⟨f2, f3⟩ f1 (by omega) _).mono ?_
        rintro e w3 ⟨rfl, rfl⟩
        obtain ⟨v', w', hrun, hown', hO', hat⟩ := app_it Tryd.prog 77 80 Tryd.underlying77 (by kernel_rfl) hown hO.size ⟨p, k, readS s p k, false⟩ (by omega)
        have hOw : Only [] w w' := hO.trans' hO' (by intro x hx; exact .inr (own_lt hown (by simpa using hx)).1)
        have Hrun := Lib.hid hrun
        have Hown := Lib.hid hown'
        clear hrun hown' hO' hat hown
        go_wp2_with ((at_builtin; refine wpList_append_run (o := ⟨some 25, _, _, _, _, _⟩) (by rfl) (.tmp 16) (.tmp 24) 77 77 (by rfl) (by rfl) (by rfl) Hrun.out ?_))
        go_roundw
        case rel =>
          have e := complF_good hlt Hk.out h0
          exact ⟨p + k, l ++ [⟨p, k, readS s p k, false⟩], by go_num, by omega, by simp; omega, Hown.out, by rw [← Hq1.out, e, List.append_assoc]; rfl, by rw [← Hq2.out, e], hOw⟩
        case measure => simp [intOf]; omega
    · obtain rfl : p = s.size := by omega
      have he : complF s (s.size - s.size) s.size = ([], s.size) := by rw [Nat.sub_self]; rfl
      have He := Lib.hid he
      clear he
      go_wp2_with (fail)
      go_ret2
      rw [← Hq1.out, ← Hq2.out, He.out, List.append_nil]
      exact ⟨_, rfl, hown, hO, Nat.le_refl _⟩

/-- bytes of which none is a rune -/
def badsF (s : ByteArray) : Nat → Nat → List It
  | 0, _ => []
  | f + 1, p => if p < s.size then ⟨p, 1, 65533, true⟩ :: badsF s f (p + 1) else []
theorem badsF_step {s : ByteArray} {p : Nat} (hp : p < s.size) : badsF s (s.size - p) p = ⟨p, 1, 65533, true⟩ :: badsF s (s.size - (p + 1)) (p + 1) := by
  have e : s.size - p = s.size - (p + 1) + 1 := by omega
  rw [e, badsF, if_pos hp]
def refItems (s : ByteArray) : List It := (complS s).1 ++ badsF s (s.size - (complS s).2) (complS s).2

/-- a list of items is no longer than the bytes behind it -/
theorem complF_len (s : ByteArray) : ∀ (f p : Nat), p ≤ s.size → p + (complF s f p).1.length ≤ (complF s f p).2 ∧ (complF s f p).2 ≤ s.size
  | 0, p, h => by simp [complF]; exact h
  | f + 1, p, h => by
    rw [complF]
    by_cases hp : p < s.size
    · rw [if_pos hp]
      by_cases hw : widthS s p ≠ 0
      · have h1 := widthS_fits s p hp hw
        rw [if_pos hw]
        have := complF_len s f (p + widthS s p) (by omega)
        simp only [List.length_cons]
        omega
      · rw [if_neg hw]
        by_cases hb : beginsS s p = s.size - p
        · rw [if_pos hb]; simp; omega
        · rw [if_neg hb]
          have := complF_len s f (p + 1) (by omega)
          simp only [List.length_cons]
          omega
    · rw [if_neg hp]; simp; omega

set_option maxRecDepth 100000 in
set_option maxHeartbeats 4000000 in
theorem refItems_any (s : ByteArray) (hs : s.size ≤ 1048576) (w : World) :
    Calls Tryd.prog 24 #[.string s] w fun e w' => ∃ v, e = .returned v ∧ w'.ownsRow w.heap.size 80 4 v (refItems s).length ((refItems s).flatMap It.enc) ∧ Only [] w w' := by
  have hcl := complF_len s s.size 0 (by omega)
  go_enter Tryd.func24, Tryd.ntmps24
  go_wp2_with (fail)
  refine (complete_any s hs w).mono ?_
  rintro e w1 ⟨v0, rfl, hown0, hO0, hle⟩
  obtain ⟨at0, hat0⟩ : ∃ a, a = (complS s).2 := ⟨_, rfl⟩
  obtain ⟨l0, hl0⟩ : ∃ l, l = (complS s).1 := ⟨_, rfl⟩
  have hres : refItems s = l0 ++ badsF s (s.size - at0) at0 := by unfold refItems; rw [← hl0, ← hat0]
  have hll : l0.length ≤ at0 := by rw [hl0, hat0]; unfold complS; omega
  rw [← hat0] at hle ⊢
  rw [← hl0] at hown0
  have Hres := Lib.hid hres
  clear hat0 hl0 hcl hres
  go_wp2_with (fail)
  go_loopw [4, 3] (fun vp v wr => ∃ (p : Nat) (l : List It), vp = .int .i64 (p : Int) ∧ p ≤ s.size ∧ l.length ≤ p ∧ wr.ownsRow w.heap.size 80 4 v l.length (l.flatMap It.enc) ∧ l ++ badsF s (s.size - p) p = l0 ++ badsF s (s.size - at0) at0 ∧ Only [] w wr) (fun vp _ _ => s.size - (intOf vp).toNat)
  case atStart => exact ⟨at0, l0, rfl, hle, hll, hown0, rfl, hO0⟩
  case round =>
    obtain ⟨p, l, rfl, hp, hlp, hown, hq1, hO⟩ := hrel
    have Hq1 := Lib.hid hq1
    clear hq1
    by_cases hlt : p < s.size
    · obtain ⟨v', w', hrun, hown', hO', hat⟩ := app_it Tryd.prog 77 80 Tryd.underlying77 (by kernel_rfl) hown hO.size ⟨p, 1, 65533, true⟩ (by omega)
      have hOw : Only [] w w' := hO.trans' hO' (by intro x hx; exact .inr (own_lt hown (by simpa using hx)).1)
      have Hrun := Lib.hid hrun
      have Hown := Lib.hid hown'
      clear hrun hown' hO' hat hown
      go_wp2_with ((at_builtin; refine wpList_append_run (o := ⟨some 18, _, _, _, _, _⟩) (by rfl) (.tmp 14) (.tmp 17) 77 77 (by rfl) (by rfl) (by rfl) Hrun.out ?_))
      go_roundw
      case rel => exact ⟨p + 1, l ++ [⟨p, 1, 65533, true⟩], by go_num, by omega, by simp; omega, Hown.out, by rw [← Hq1.out, badsF_step hlt, List.append_assoc]; rfl, hOw⟩
      case measure => simp [intOf]; omega
    · obtain rfl : p = s.size := by omega
      have he : badsF s (s.size - s.size) s.size = [] := by rw [Nat.sub_self]; rfl
      have He := Lib.hid he
      clear he
      go_wp2_with (fail)
      go_ret
      rw [Hres.out, ← Hq1.out, He.out, List.append_nil]
      exact ⟨_, rfl, hown, hO⟩

end Go.Proofs.YtodgllnmepnpfaaDoor
