/- UtfKept: the walk. -/
import Derived.Test.YteadcibbpbbehaaDoorSc8
import Derived.Test.YteadcibbpbbehaaDoorBk3I
set_option linter.unusedVariables false
set_option linter.unusedSimpArgs false
namespace Go.Proofs.YteadcibbpbbehaaDoor
open Go.RowKit

/-- a block of a book of items -/
def TyI (w : World) (x : Nat) : Prop := ∃ t cs, Blk w x t cs ∧ (t = 47 ∨ t = 24 ∨ t = 33)
theorem ownS_blk {w : World} {base : Nat} {e : TypeId} {v : Value} {xs : List Value} (h : OwnS w base e v xs) {k : Nat} (hk : v.ownBlock = some k) : ∃ cs, Blk w k e cs := by
  rcases h with ⟨rfl, _⟩ | ⟨g', o', cap', cs', rfl, _, hg', _⟩
  · simp [Value.ownBlock] at hk
  · simp [Value.ownBlock] at hk; subst hk
    exact ⟨_, hg'⟩
theorem KbI.typed {w : World} {base g n : Nat} {Z : List Nat} (h : KbI w base g Z n) : ∃ Z', KbI w base g Z' n ∧ (∀ x ∈ Z', x ∈ Z) ∧ ∀ x ∈ Z', TyI w x := by
  obtain ⟨⟨bl, L, lv, wv, held, ws, hB, h1, h2, h3⟩, h4⟩ := h
  obtain ⟨b2, hb2⟩ : ∃ b2, b2 = g :: (lv.ownBlock.toList ++ (wv.ownBlock.toList ++ ws.flatMap fun u => u.ownBlock.toList)) := ⟨_, rfl⟩
  have key : ∀ x ∈ b2, x ∈ bl ∧ TyI w x := by
    intro x hx
    rw [hb2] at hx
    simp only [List.mem_cons, List.mem_append, Option.mem_toList, List.mem_flatMap] at hx
    rcases hx with rfl | hx | hx | ⟨u, hu, hx⟩
    · exact ⟨hB.ing, _, _, hB.blk, .inl rfl⟩
    · obtain ⟨cs, hb⟩ := ownS_blk hB.lists hx; exact ⟨hB.inl x hx, _, _, hb, .inr (.inl rfl)⟩
    · obtain ⟨cs, hb⟩ := ownS_blk hB.was hx; exact ⟨hB.inw x hx, _, _, hb, .inr (.inl rfl)⟩
    · obtain ⟨i, hi, rfl⟩ := List.mem_iff_getElem.1 hu
      have hil : i < L.length := by have := hB.len; omega
      have hd := hB.data i L[i] ws[i] (List.getElem?_eq_getElem hil) (List.getElem?_eq_getElem hi)
      obtain ⟨cs, hb⟩ := own_blk hd.1 hx
      exact ⟨hd.2 x hx, _, _, hb, .inr (.inr rfl)⟩
  have hB2 : BookBI w base g b2 L lv wv held ws := { hB with
    inl := fun k hk => by rw [hb2]; simp [hk]
    inw := fun k hk => by rw [hb2]; simp [hk]
    ing := by rw [hb2]; simp
    data := fun i e u he hu => ⟨(hB.data i e u he hu).1, fun k hk => by
      rw [hb2]
      simp only [List.mem_cons, List.mem_append, Option.mem_toList, List.mem_flatMap]
      exact .inr (.inr (.inr ⟨u, List.mem_of_getElem? hu, hk⟩))⟩
    ents := fun e he => ⟨(hB.ents e he).1, fun k hk hkb => (hB.ents e he).2 k hk (key k hkb).1⟩
    own := fun x hx => hB.own x (key x hx).1 }
  refine ⟨b2 ++ L.flatMap (fun e => e.v.ownBlock.toList), ⟨⟨b2, L, lv, wv, held, ws, hB2, h1, fun x hx => by simp [hx], ?_⟩, ?_⟩, ?_, ?_⟩
  · intro e he k hk
    simp only [List.mem_append, List.mem_flatMap, Option.mem_toList]
    exact .inr ⟨e, he, hk⟩
  · intro x hx
    simp only [List.mem_append, List.mem_flatMap, Option.mem_toList] at hx
    rcases hx with hx | ⟨e, he, hk⟩
    · exact hB2.own x hx
    · exact own_lt (hB2.ents e he).1 hk
  · intro x hx
    simp only [List.mem_append, List.mem_flatMap, Option.mem_toList] at hx
    rcases hx with hx | ⟨e, he, hk⟩
    · exact h2 x (key x hx).1
    · exact h3 e he x hk
  · intro x hx
    simp only [List.mem_append, List.mem_flatMap, Option.mem_toList] at hx
    rcases hx with hx | ⟨e, he, hk⟩
    · exact (key x hx).2
    · obtain ⟨cs, hb⟩ := own_blk (hB2.ents e he).1 hk
      exact ⟨_, _, hb, .inr (.inr rfl)⟩
theorem TyI.not {w : World} {x : Nat} (h : TyI w x) {t : TypeId} {cs : List Value} (hb : Blk w x t cs) (h1 : t ≠ 47) (h2 : t ≠ 24) (h3 : t ≠ 33) : False := by
  obtain ⟨t', cs', hb', h⟩ := h
  rcases h with rfl | rfl | rfl
  · exact hb.ne hb' h1 rfl
  · exact hb.ne hb' h2 rfl
  · exact hb.ne hb' h3 rfl
/-- what a scanner touches is no part of a book -/
theorem KbI.fr {w w' : World} {base g n b : Nat} {Z : List Nat} (h : KbI w base g Z n) (hZ : ∀ x ∈ Z, TyI w x) {hl : List UInt8} {put : Nat} (hS : ScanAt w b hl put) (hF : Fr b w w') : KbI w' base g Z n := by
  obtain ⟨l, hO, hl'⟩ := hF
  refine h.only hO (fun x hx hxZ => ?_)
  rcases hl' x hx with rfl | ⟨_, cs, hb⟩
  · obtain ⟨A, c, h1, h2⟩ := hS
    exact (hZ x hxZ).not h1 (by decide) (by decide) (by decide)
  · exact (hZ x hxZ).not hb (by decide) (by decide) (by decide)
theorem ScanAt.keep {w w' : World} {b : Nat} {Z : List Nat} (hZ : ∀ x ∈ Z, TyI w x) {hl : List UInt8} {put : Nat} (hS : ScanAt w b hl put) (hO : Only Z w w') : ScanAt w' b hl put := by
  obtain ⟨A, c, h1, h2⟩ := hS
  refine ⟨A, c, h1.only hO (fun hb => (hZ b hb).not h1 (by decide) (by decide) (by decide)), own_only h2 hO (fun k hk hkz => ?_)⟩
  obtain ⟨cs, hb⟩ := own_blk h2 hk
  exact (hZ k hkz).not hb (by decide) (by decide) (by decide)
theorem pre_0 (S : ByteArray) : from_ (pre_ S 0) 0 = [] := by
  have e : pre_ S 0 = ⟨#[]⟩ := by apply ByteArray.ext; apply Array.toList_inj.1; rw [pre_list]; rfl
  rw [e]; rfl
theorem movedL_length (d : Nat) (l : List It) : (movedL d l).length = l.length := by unfold movedL; simp

set_option maxRecDepth 100000 in
set_option maxHeartbeats 4000000 in
theorem utfKept_walk (w : World) (s : ByteArray) (hs : s.size ≤ 140737488351232) (hT : Tabs w) :
    Calls Tryd.prog 8 #[.string s] w fun e w' => e = .returned (.bool true) ∧ Only [] w w' := by
  have h2 := hT.size
  go_enter Tryd.func8, Tryd.ntmps8
  go_wp2_with (fail)
  refine (few_any s 300 hs (by omega) w).mono ?_
  rintro e w1 ⟨rfl, rfl⟩
  have hS := fewS_size s 300
  obtain ⟨S, hSS⟩ : ∃ S, S = fewS s 300 := ⟨_, rfl⟩
  rw [← hSS] at hS ⊢
  clear hSS
  go_wp2_with (fail)
  refine (new_any w).mono ?_
  obtain ⟨b, hb⟩ : ∃ b, b = w.heap.size := ⟨_, rfl⟩
  rw [← hb]
  have hwb : w.heap.size ≤ b := by omega
  have Hb := Lib.hid hb
  clear hb
  rintro e w1 ⟨rfl, hSc, hO1⟩
  obtain ⟨g, hg⟩ : ∃ g, g = w1.heap.size := ⟨_, rfl⟩
  obtain ⟨W2, hW2⟩ : ∃ W, W = w1.alloc (.cells #[.slice none 0 0, .slice none 0 0, .int .i64 0, .bool false] 47) := ⟨_, rfl⟩
  have hbk : Blk W2 g 47 [.slice none 0 0, .slice none 0 0, .int .i64 0, .bool false] := by rw [hW2]; exact Blk.new' _ _ _ hg.symm rfl
  have hO12 : Only [] w1 W2 := by rw [hW2]; exact (Only.refl _ _).alloc _
  have hSc2 := scanAt_only hSc hO12
  have hbg : b < g := by have := scanAt_lt hSc; omega
  have k1 := KbI.new (base := g) hbk (by omega)
  have Hg := Lib.hid hg
  have HW2 := Lib.hid hW2
  have hO2 := hO1.trans hO12
  clear hg hW2 hbk hO12 hSc hO1
  go_wp2_with (fail)
  rw [← Hg.out, ← HW2.out]
  go_loopw [5] (fun v wr => ∃ (i p : Nat) (Z : List Nat), v = .int .i64 (i : Int) ∧ i ≤ S.size ∧ p ≤ i ∧ KbI wr g g Z i ∧ ScanAt wr b (from_ (pre_ S i) p) i ∧ Only [] w wr) (fun v _ => S.size - (intOf v).toNat)
  case atStart => exact ⟨0, 0, _, rfl, by omega, by omega, k1, by rw [pre_0]; exact hSc2, hO2⟩
  case round =>
    clear k1 hSc2 hO2
    obtain ⟨i, p, Z0, rfl, hi, hp, k0, hSc, hO⟩ := hrel
    obtain ⟨Z, k1, -, hZ⟩ := k0.typed
    clear k0
    have hT1 := hT.only hO (by simp) (by simp)
    by_cases hlt : i < S.size
    · obtain ⟨s', hs'⟩ : ∃ s, s = pre_ S i := ⟨_, rfl⟩
      obtain ⟨t, ht⟩ : ∃ t, t = pre_ S (i + 1) := ⟨_, rfl⟩
      obtain ⟨x, hx⟩ : ∃ x, x = S.get! i := ⟨_, rfl⟩
      have hst : t.data.toList = s'.data.toList ++ [x] := by rw [hs', ht, hx]; exact pre_next S i (by omega)
      have hss : s'.size = i := by rw [hs']; exact pre_size S i (by omega)
      have hts : t.size = i + 1 := by rw [ht]; exact pre_size S (i + 1) (by omega)
      rw [← hs'] at hSc
      have hidx := idx_str (P := Tryd.prog) 9 Tryd.underlying9 S i (i : Int) rfl (by omega)
      rw [show byteAt S i = x.toNat from by rw [hx]; rfl] at hidx
      have hput := put_any wr b 0 s' t x p (by omega) hst (by omega) (by omega) hT1 (by omega) (by rw [hss, Nat.zero_add]; exact hSc)
      have hle := scanS_le false t p (by omega)
      obtain ⟨T, hTT⟩ : ∃ T, T = scanS false t p := ⟨_, rfl⟩
      rw [← hTT] at hput hle
      have Hput := Lib.hid hput
      have Ht := Lib.hid ht
      have Hts := Lib.hid hts
      have HO := Lib.hid hO
      have HSc := Lib.hid hSc
      have K1 := Lib.hid k1
      have HZ := Lib.hid hZ
      have Hle := Lib.hid hle
      clear hput ht hts hO hSc k1 hZ hs' hx hst hss hTT hle
      go_wp2_with (fail)
      refine Hput.out.mono ?_
      rintro e w3 ⟨v, rfl, o1, hS1, hF1⟩
      obtain ⟨U, c, rfl, -⟩ := own_slice o1
      have k2 := K1.out.fr HZ.out HSc.out hF1
      obtain ⟨Z', k3, hZZ, hZ'⟩ := k2.typed
      have hO3 : Only [] w w3 := hF1.only0 HO.out hwb
      have hlt1 : ∀ k, (Value.slice U (movedL 0 T.1).length c).ownBlock = some k → k ∉ Z' := fun k hk hkz => by
        have h1 := (own_lt o1 hk).1; have h2 := (K1.out.2 k (hZZ k hkz)).2; omega
      have hgw : g ≤ wr.heap.size := by obtain ⟨⟨bl, L, lv, wv, held, ws, hB, _⟩, _⟩ := K1.out; have := hB.blk.lt; omega
      have hml : (movedL 0 T.1).length ≤ 1000000 := by rw [movedL_length]; have := Hle.out.2; have := Hts.out; omega
      have hkp := kbKeepI k3 (by omega) U (movedL 0 T.1).length c (movedL 0 T.1) (own_base o1 hgw) hlt1 hml
      have Hkp := Lib.hid hkp
      have HS1 := Lib.hid hS1
      have HO3 := Lib.hid hO3
      have HZ' := Lib.hid hZ'
      have K3 := Lib.hid k3
      clear hidx hkp hS1 o1 k2 k3 hZZ hlt1 hml hF1 hO3 hZ'
      go_wp2_with (fail)
      refine Hkp.out.mono ?_
      rintro e w4 ⟨rfl, Z4, k4, hO4, -⟩
      have hS4 := HS1.out.keep HZ'.out hO4
      have hO5 : Only [] w w4 := HO3.out.trans' hO4 (fun x hx => .inr (by have := (K3.out.2 x hx).1; omega))
      rw [Nat.zero_add, Hts.out] at hS4
      have hl1 := Hle.out.1
      rw [Hts.out] at hl1
      rw [Ht.out] at hS4
      go_wp2_with (fail)
      go_roundw
      case rel => exact ⟨i + 1, T.2, Z4, by go_num, by omega, hl1, k4, hS4, hO5⟩
      case measure => simp [intOf]; omega
    · obtain rfl : i = S.size := by omega
      have hps : (pre_ S S.size).size = S.size := by rw [pre_all]
      have hend := end_any wr b 0 (pre_ S S.size) p (by omega) (by omega) (by omega) hT1 (by omega) (by rw [hps, Nat.zero_add]; exact hSc)
      have hle := scanS_le true (pre_ S S.size) p (by omega)
      obtain ⟨T, hTT⟩ : ∃ T, T = scanS true (pre_ S S.size) p := ⟨_, rfl⟩
      rw [← hTT] at hend hle
      have Hend := Lib.hid hend
      have HO := Lib.hid hO
      have HSc := Lib.hid hSc
      have K1 := Lib.hid k1
      have HZ := Lib.hid hZ
      clear hend hO hSc k1 hZ hTT
      go_wp2_with (fail)
      refine Hend.out.mono ?_
      rintro e w3 ⟨v, rfl, o1, hS1, hF1⟩
      obtain ⟨U, c, rfl, -⟩ := own_slice o1
      have k2 := K1.out.fr HZ.out HSc.out hF1
      have hO3 : Only [] w w3 := hF1.only0 HO.out hwb
      have hlt1 : ∀ k, (Value.slice U (movedL 0 T.1).length c).ownBlock = some k → k ∉ Z := fun k hk hkz => by
        have h1 := (own_lt o1 hk).1; have h2 := (K1.out.2 k hkz).2; omega
      have hgw : g ≤ wr.heap.size := by obtain ⟨⟨bl, L, lv, wv, held, ws, hB, _⟩, _⟩ := K1.out; have := hB.blk.lt; omega
      have hml : (movedL 0 T.1).length ≤ 1000000 := by rw [movedL_length]; omega
      have hkp := kbKeepI k2 (by omega) U (movedL 0 T.1).length c (movedL 0 T.1) (own_base o1 hgw) hlt1 hml
      have Hkp := Lib.hid hkp
      have HO3 := Lib.hid hO3
      clear hkp hS1 o1 hlt1 hml hF1 hO3
      go_wp2_with (fail)
      refine Hkp.out.mono ?_
      rintro e w4 ⟨rfl, Z4, k4, hO4, -⟩
      have hO5 : Only [] w w4 := HO3.out.trans' hO4 (fun x hx => .inr (by have := (k2.2 x hx).1; omega))
      have hT4 := hT.only hO5 (by simp) (by simp)
      go_wp2_with (fail)
      refine (kbApartI k4 (by omega)).mono ?_
      rintro e w5 ⟨rfl, hO6⟩
      have hO7 : Only [] w w5 := hO5.trans' hO6 (fun x hx => .inr (by have := (k4.2 x hx).1; omega))
      have hT5 := hT.only hO7 (by simp) (by simp)
      go_wp2_with (fail)
      refine (known_any w5 hT5 (by have := hO7.size; omega)).mono ?_
      rintro e w6 ⟨rfl, hO8⟩
      go_wp2_with (fail)
      go_ret
      exact ⟨rfl, hO7.trans hO8⟩
end Go.Proofs.YteadcibbpbbehaaDoor
