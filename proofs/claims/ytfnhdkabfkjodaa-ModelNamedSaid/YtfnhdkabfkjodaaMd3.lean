/- A model in memory; what it says. -/
import Derived.Test.YtfnhdkabfkjodaaMd2
import Derived.Deep.QuietTactic
import Derived.BigQuiet
set_option linter.unusedVariables false
set_option linter.unusedSimpArgs false
namespace Go.Proofs.Ytfnhdkabfkjodaa
open Go.RowKit

/-- a table whose blocks lie below 'top' -/
def TabK (w : World) (base top tb : Nat) (a b d : List Sp) : Prop := ∃ w0, Tab w0 base tb a b d ∧ w0.heap.size ≤ top ∧ top ≤ w.heap.size ∧ ∀ x, base ≤ x → x < w0.heap.size → w.heap[x]? = w0.heap[x]?
theorem TabK.only {w w' : World} {base top tb : Nat} {a b d : List Sp} (h : TabK w base top tb a b d) {l : List Nat} (hO : Only l w w') (hl : ∀ x ∈ l, x < base ∨ top ≤ x) : TabK w' base top tb a b d := by
  obtain ⟨w0, h1, h2, h3, h4⟩ := h
  exact ⟨w0, h1, h2, Nat.le_trans h3 hO.size, fun x hb hx => (hO.block x (by omega) (fun hm => by have := hl x hm; omega)).trans (h4 x hb hx)⟩
theorem TabK.tab {w : World} {base top tb : Nat} {a b d : List Sp} (h : TabK w base top tb a b d) : Tab w base tb a b d := by
  obtain ⟨w0, h, h2, h3, h4⟩ := h
  refine ⟨?_, h.small, h.right⟩
  obtain ⟨A1, A2, A3, c1, c2, c3, hb, hg, r1, r2, r3, b1, b2, b3⟩ := h.at_
  have key : ∀ {A : Option Addr} {n : Nat} {xs : List Value}, Rd w0 w0.heap.size 2 A n xs → (∀ ad, A = some ad → base ≤ ad.block) → Rd w w.heap.size 2 A n xs := by
    intro A n xs r hb
    refine ⟨r.1, fun hn => ?_⟩
    obtain ⟨ad, e, hB, hw, hsp, hc⟩ := r.2 hn
    refine ⟨ad, e, by omega, by omega, hsp, fun j u hu => ?_⟩
    exact (World.cell?_of_block (h4 _ (by rw [add_block]; exact hb ad e) (by rw [add_block]; exact hw))).trans (hc j u hu)
  exact ⟨A1, A2, A3, c1, c2, c3, (h4 _ hg hb.lt).trans hb, hg, key r1 b1, key r2 b2, key r3 b3, b1, b2, b3⟩
/-- a model at block g; what it was made of lies in blocks from base on -/
structure MdX (w : World) (base g : Nat) (v0 v1 v2 v3 v4 : Value) (tb mq : Nat) (ws : List ByteArray) (ms : List Mg) (a b d : List Sp) (N : Nat) (f : Int × Int → Option (Nat × Int)) (lg : Nat) : Prop where
  blk : Blk w g 100 [v0, v1, v2, v3, v4, .pointer (some ⟨tb, 0, none⟩), .map (some mq), .int .i64 (lg : Int)]
  own : Own5 w base v0 v1 v2 v3 v4 ws ms a b d
  tab : TabK w base mq tb a b d
  map : MapIs pairTy w mq N f
  hb : base ≤ mq
  hg : mq < g
  small : ws.length ≤ 4096 ∧ ms.length ≤ 4096 ∧ a.length ≤ 512 ∧ b.length ≤ 512 ∧ d.length ≤ 512
structure MdAt (w : World) (base g : Nat) (ws : List ByteArray) (ms : List Mg) (a b d : List Sp) (N : Nat) (f : Int × Int → Option (Nat × Int)) (lg : Nat) : Prop where
  at_ : ∃ v0 v1 v2 v3 v4 tb mq, MdX w base g v0 v1 v2 v3 v4 tb mq ws ms a b d N f lg
section
variable {w w' : World} {base g : Nat} {v0 v1 v2 v3 v4 : Value} {tb mq : Nat} {ws : List ByteArray} {ms : List Mg} {a b d : List Sp} {N : Nat} {f : Int × Int → Option (Nat × Int)} {lg : Nat}
theorem MdX.at_ (h : MdX w base g v0 v1 v2 v3 v4 tb mq ws ms a b d N f lg) : MdAt w base g ws ms a b d N f lg := ⟨⟨v0, v1, v2, v3, v4, tb, mq, h⟩⟩
theorem MdX.ne (h : MdX w base g v0 v1 v2 v3 v4 tb mq ws ms a b d N f lg) : mq ≠ g := by have := h.hg; omega
theorem MdX.only (h : MdX w base g v0 v1 v2 v3 v4 tb mq ws ms a b d N f lg) {l : List Nat} (hO : Only l w w') (hl : ∀ x ∈ l, x < base ∨ (mq < x ∧ x ≠ g ∧ ∃ (t : TypeId) (cs : List Value), Blk w x t cs ∧ t ≠ 9 ∧ t ≠ 38 ∧ t ≠ 67)) : MdX w' base g v0 v1 v2 v3 v4 tb mq ws ms a b d N f lg := by
  have hb := h.hb
  have hg := h.hg
  refine ⟨h.blk.only hO (fun hm => ?_), h.own.only hO (fun x hx => ?_), h.tab.only hO (fun x hx => ?_), h.map.only hO (fun hm => ?_), hb, hg, h.small⟩
  · rcases hl g hm with e | ⟨_, e, _⟩
    · omega
    · exact e rfl
  · rcases hl x hx with e | ⟨_, _, t, cs, e⟩
    · exact .inl e
    · exact .inr ⟨t, cs, .inl e⟩
  · rcases hl x hx with e | ⟨e, _⟩
    · exact .inl e
    · exact .inr (by omega)
  · rcases hl mq hm with e | ⟨e, _⟩ <;> omega
theorem MdX.only0 (h : MdX w base g v0 v1 v2 v3 v4 tb mq ws ms a b d N f lg) (hO : Only [] w w') : MdX w' base g v0 v1 v2 v3 v4 tb mq ws ms a b d N f lg := h.only hO (by simp)
theorem MdAt.only (h : MdAt w base g ws ms a b d N f lg) {l : List Nat} (hO : Only l w w') (hl : ∀ x ∈ l, x < base) : MdAt w' base g ws ms a b d N f lg := by
  obtain ⟨v0, v1, v2, v3, v4, tb, mq, hX⟩ := h.at_
  exact (hX.only hO (fun x hx => .inl (hl x hx))).at_
theorem MdAt.only0 (h : MdAt w base g ws ms a b d N f lg) (hO : Only [] w w') : MdAt w' base g ws ms a b d N f lg := h.only hO (by simp)
theorem MdAt.small (h : MdAt w base g ws ms a b d N f lg) : ws.length ≤ 4096 ∧ ms.length ≤ 4096 ∧ a.length ≤ 512 ∧ b.length ≤ 512 ∧ d.length ≤ 512 := by
  obtain ⟨v0, v1, v2, v3, v4, tb, mq, hX⟩ := h.at_; exact hX.small
theorem MdAt.lt (h : MdAt w base g ws ms a b d N f lg) : base ≤ g ∧ g < w.heap.size := by
  obtain ⟨v0, v1, v2, v3, v4, tb, mq, hX⟩ := h.at_
  have := hX.hb
  have := hX.hg
  exact ⟨by omega, hX.blk.lt⟩
end
/-- an id's bytes -/
def wordB (ws : List ByteArray) (id : Int) : ByteArray := if 0 ≤ id ∧ id < 256 then str [UInt8.ofNat id.toNat] else if 256 ≤ id ∧ id < 256 + ws.length then ws.getD (id - 256).toNat ⟨#[]⟩ else ⟨#[]⟩
def isWord (ws : List ByteArray) (id : Int) : Bool := decide (0 ≤ id ∧ id < 256 + (ws.length : Int))
section
variable (w : World) (base g : Nat) (ws : List ByteArray) (ms : List Mg) (a b d : List Sp) (N : Nat) (f : Int × Int → Option (Nat × Int)) (lg : Nat) (hM : MdAt w base g ws ms a b d N f lg)
include hM
set_option maxRecDepth 100000 in
set_option maxHeartbeats 2000000 in
theorem size_any : Calls Try.prog 18 #[.pointer (some ⟨g, 0, none⟩)] w fun e w' => e = .returned (.int .i64 ((256 + ws.length : Nat) : Int)) ∧ w = w' := by
  obtain ⟨v0, v1, v2, v3, v4, tb, mp, ⟨hb, h5, ht, hm, hmp, hg, -⟩⟩ := hM.at_
  obtain ⟨A, c, rfl, -, -, -⟩ := own_slice h5.o0
  have c0 : w.cell? ⟨g, 0, none⟩ = some (.slice A ws.length c) := hb.cell 0
  have hs := hM.small.1
  obtain ⟨n, hn⟩ : ∃ n, n = ws.length := ⟨_, rfl⟩
  rw [← hn] at c0 hs ⊢
  obtain ⟨sz, hsz⟩ : ∃ sz, sz = 256 + n := ⟨_, rfl⟩
  rw [← hsz]
  have Hsz := Lib.hid hsz
  clear hb h5 ht hm hsz hn hM
  go_enter Try.func18, Try.ntmps18
  go_wp2_with (fail)
  go_ret
  exact ⟨ret_int (by rw [Hsz.out]; first | rfl | simp), rfl⟩
set_option maxRecDepth 100000 in
set_option maxHeartbeats 2000000 in
theorem longest_any : Calls Try.prog 33 #[.pointer (some ⟨g, 0, none⟩)] w fun e w' => e = .returned (.int .i64 (lg : Int)) ∧ w = w' := by
  obtain ⟨v0, v1, v2, v3, v4, tb, mp, ⟨hb, h5, ht, hm, hmp, hg, -⟩⟩ := hM.at_
  have c0 : w.cell? ⟨g, 7, none⟩ = some (.int .i64 (lg : Int)) := hb.cell 7
  clear hb h5 ht hm
  go_enter Try.func33, Try.ntmps33
  go_wp2_with (fail)
  go_ret
  exact ⟨rfl, rfl⟩
set_option maxRecDepth 100000 in
set_option maxHeartbeats 2000000 in
theorem table_any : Calls Try.prog 35 #[.pointer (some ⟨g, 0, none⟩)] w fun e w' => ∃ tb, e = .returned (.pointer (some ⟨tb, 0, none⟩)) ∧ Tab w base tb a b d ∧ w = w' := by
  obtain ⟨v0, v1, v2, v3, v4, tb, mp, ⟨hb, h5, ht, hm, hmp, hg, -⟩⟩ := hM.at_
  have c0 : w.cell? ⟨g, 5, none⟩ = some (.pointer (some ⟨tb, 0, none⟩)) := hb.cell 5
  have Ht := Lib.hid ht
  clear hb h5 hm ht
  go_enter Try.func35, Try.ntmps35
  go_wp2_with (fail)
  go_ret
  exact ⟨tb, rfl, Ht.out.tab, rfl⟩
set_option maxRecDepth 100000 in
set_option maxHeartbeats 4000000 in
theorem word_any (id : Int) (hid : i64ok id) : Calls Try.prog 17 #[.pointer (some ⟨g, 0, none⟩), .int .i64 id] w fun e w' => e = .returned (.tuple #[.string (wordB ws id), .bool (isWord ws id)]) ∧ Only [] w w' := by
  obtain ⟨v0, v1, v2, v3, v4, tb, mp, ⟨hb, h5, ht, hm, hmp, hg, -⟩⟩ := hM.at_
  obtain ⟨A, c, rfl, -, hR, -⟩ := own_slice h5.o0
  have c0 : w.cell? ⟨g, 0, none⟩ = some (.slice A ws.length c) := hb.cell 0
  have hs := hM.small.1
  have hsz := size_any w base g ws ms a b d N f lg hM
  unfold i64ok at hid
  obtain ⟨n, hn⟩ : ∃ n, n = ws.length := ⟨_, rfl⟩
  have hwb : wordB ws id = if 0 ≤ id ∧ id < 256 then str [UInt8.ofNat id.toNat] else if 256 ≤ id ∧ id < 256 + n then ws.getD (id - 256).toNat ⟨#[]⟩ else ⟨#[]⟩ := by rw [hn]; rfl
  have hiw : isWord ws id = decide (0 ≤ id ∧ id < 256 + (n : Int)) := by rw [hn]; rfl
  obtain ⟨V, hV⟩ : ∃ V, V = wordB ws id := ⟨_, rfl⟩
  obtain ⟨I, hI⟩ : ∃ I, I = isWord ws id := ⟨_, rfl⟩
  rw [← hV, ← hI]
  rw [hwb] at hV
  rw [hiw] at hI
  have HV := Lib.hid hV
  have HI := Lib.hid hI
  rw [← hn] at c0 hs hR hsz
  obtain ⟨sz, hsz2⟩ : ∃ sz, sz = 256 + n := ⟨_, rfl⟩
  rw [← hsz2] at hsz
  have Hs2 := Lib.hid hsz2
  have Hn := Lib.hid hn
  have Hsz := Lib.hid hsz
  have HR := Lib.hid hR
  clear hb h5 ht hm hwb hiw hn hsz hR hV hI hsz2 hM
  go_enter Try.func17, Try.ntmps17
  by_cases h0 : id < 0
  · go_wp2_with (fail)
    go_ret2
    exact ⟨by rw [HV.out, HI.out, if_neg (by have := Hs2.out; omega), if_neg (by have := Hs2.out; omega), decide_eq_false (by have := Hs2.out; omega)]; rfl, .refl _ _⟩
  · by_cases h1 : (sz : Int) ≤ id
    · go_wp2_with (fail)
      refine Hsz.out.mono ?_
      rintro e w1 ⟨rfl, rfl⟩
      go_wp2_with (fail)
      go_ret2
      exact ⟨by rw [HV.out, HI.out, if_neg (by have := Hs2.out; omega), if_neg (by have := Hs2.out; omega), decide_eq_false (by have := Hs2.out; omega)]; rfl, .refl _ _⟩
    · by_cases h2 : id < 256
      · obtain ⟨k, hk⟩ : ∃ k : Nat, id = (k : Int) := ⟨id.toNat, by omega⟩
        subst hk
        have hbl : Blk (w.alloc (.cells #[.int .u8 (k : Int)] 5)) w.heap.size 5 (bvs [UInt8.ofNat k]) := Blk.new' _ _ _ rfl (by simp [bvs, bv]; omega)
        have hcv := run_string_rd (P := Try.prog) 80 9 5 (by kernel_rfl) (by kernel_rfl) (by kernel_rfl) 1 (Rd.whole (t := 5) (n := 1) (size := 1) hbl rfl)
        have hmod : (k : Int) % 256 = (k : Int) := by omega
        clear hbl
        go_wp2_with (fail)
        refine Hsz.out.mono ?_
        rintro e w1 ⟨rfl, rfl⟩
        go_wp2_with (fail)
        go_ret2
        have e1 : V = str [UInt8.ofNat k] := by rw [HV.out, if_pos ⟨by omega, by omega⟩]; rfl
        have e2 : I = true := by rw [HI.out]; exact decide_eq_true ⟨by omega, by have := Hs2.out; omega⟩
        exact ⟨by rw [e1, e2]; rfl, (Only.refl _ _).alloc _⟩
      · obtain ⟨k, hk⟩ : ∃ k : Nat, id - 256 = (k : Int) := ⟨(id - 256).toNat, by omega⟩
        obtain ⟨s, hs'⟩ : ∃ s, ws[k]? = some s := ⟨_, List.getElem?_eq_getElem (by rw [← Hn.out]; have := Hs2.out; omega)⟩
        obtain ⟨g', o', rfl, _, q⟩ := HR.out.wd hs'
        have hgd : ws.getD k ⟨#[]⟩ = s := by rw [List.getD_eq_getElem?_getD, hs']; rfl
        have hkn : k < n := by have := Hs2.out; omega
        have Hgd := Lib.hid hgd
        have Hk := Lib.hid hk
        clear hs' hgd
        go_wp2_with (fail)
        refine Hsz.out.mono ?_
        rintro e w1 ⟨rfl, rfl⟩
        go_wp2_with (fail)
        go_ret2
        have e1 : V = s := by rw [HV.out, if_neg (by omega), if_pos ⟨by omega, by have := Hs2.out; omega⟩, Hk.out, Int.toNat_natCast, Hgd.out]
        have e2 : I = true := by rw [HI.out]; exact decide_eq_true ⟨by omega, by have := Hs2.out; omega⟩
        exact ⟨by rw [e1, e2]; rfl, .refl _ _⟩
set_option maxRecDepth 100000 in
set_option maxHeartbeats 4000000 in
theorem merge_any (l r : Int) (hl : i64ok l) (hr : i64ok r) : Calls Try.prog 15 #[.pointer (some ⟨g, 0, none⟩), .int .i64 l, .int .i64 r] w fun e w' => e = .returned (.tuple #[.int .i64 (((f (l, r)).getD (0, 0)).1 : Int), .int .i64 ((f (l, r)).getD (0, 0)).2, .bool (f (l, r)).isSome]) ∧ Only [] w w' := by
  obtain ⟨v0, v1, v2, v3, v4, tb, mp, ⟨hb, h5, ht, hm, hmp, hg, -⟩⟩ := hM.at_
  have c0 : w.cell? ⟨g, 6, none⟩ = some (.map (some mp)) := hb.cell 6
  have hrun : (Instr.lookup 98 (.map (some mp)) (.agg #[.int .i64 l, .int .i64 r]) true).run Try.prog w = .ok (.tuple #[.agg #[.int .i64 (((f (l, r)).getD (0, 0)).1 : Int), .int .i64 ((f (l, r)).getD (0, 0)).2], .bool (f (l, r)).isSome]) w := hm.look (a := (l, r)) ⟨hl, hr⟩
  obtain ⟨x, hx⟩ : ∃ x, x = (f (l, r)).getD (0, 0) := ⟨_, rfl⟩
  obtain ⟨y, hy⟩ : ∃ y, y = (f (l, r)).isSome := ⟨_, rfl⟩
  rw [← hx, ← hy] at hrun ⊢
  obtain ⟨x1, x2⟩ := x
  simp only at hrun ⊢
  clear hb h5 ht hm hx hy
  go_enter Try.func15, Try.ntmps15
  go_wp2_with (fail)
  go_quiet (fail)
  go_wp2_with (fail)
  go_ret3
  exact ⟨rfl, ((Only.refl _ _).alloc _).drewN _⟩
set_option maxRecDepth 100000 in
set_option maxHeartbeats 4000000 in
theorem data_any : Calls Try.prog 16 #[.pointer (some ⟨g, 0, none⟩)] w fun e w' => ∃ u0 u1 u2 u3 u4, e = .returned (.agg #[u0, u1, u2, u3, u4]) ∧ Own5 w' w.heap.size u0 u1 u2 u3 u4 ws ms a b d ∧ Only [] w w' := by
  obtain ⟨v0, v1, v2, v3, v4, tb, mp, ⟨hb, h5, ht, hm, hmp, hg, -⟩⟩ := hM.at_
  obtain ⟨s0, s1, s2, s3, s4⟩ := hM.small
  obtain ⟨h, hh⟩ : ∃ h, h = w.heap.size := ⟨_, rfl⟩
  obtain ⟨W1, hW1⟩ : ∃ W1, W1 = w.alloc (.cells #[.slice none 0 0, .slice none 0 0, .slice none 0 0, .slice none 0 0, .slice none 0 0] 26) := ⟨_, rfl⟩
  have hb2 : Blk W1 h 26 [.slice none 0 0, .slice none 0 0, .slice none 0 0, .slice none 0 0, .slice none 0 0] := by rw [hW1]; exact Blk.new' _ _ _ hh.symm rfl
  have hO : Only [] w W1 := by rw [hW1]; exact (Only.refl _ _).alloc _
  have hc := copied_any W1 v0 v1 v2 v3 v4 ws ms a b d (h5.rd.only hO) s0 s1 s2 s3 s4
  have hb1 := hb.only hO (by simp)
  have c0 : W1.cell? ⟨g, 0, none⟩ = some v0 := hb1.cell 0
  have c1 : W1.cell? ⟨g, 1, none⟩ = some v1 := hb1.cell 1
  have c2 : W1.cell? ⟨g, 2, none⟩ = some v2 := hb1.cell 2
  have c3 : W1.cell? ⟨g, 3, none⟩ = some v3 := hb1.cell 3
  have c4 : W1.cell? ⟨g, 4, none⟩ = some v4 := hb1.cell 4
  have hws : w.heap.size ≤ h := by omega
  have hz : W1.heap.size = h + 1 := by rw [hW1]; simp; omega
  obtain ⟨A0, x0, rfl, -⟩ := own_slice h5.o0
  obtain ⟨A1, x1, rfl, -⟩ := own_slice h5.o1
  obtain ⟨A2, x2, rfl, -⟩ := own_slice h5.o2
  obtain ⟨A3, x3, rfl, -⟩ := own_slice h5.o3
  obtain ⟨A4, x4, rfl, -⟩ := own_slice h5.o4
  have Hc := Lib.hid hc
  have Hw := Lib.hid hW1
  have Hh := Lib.hid hh
  clear hc hb hb1 h5 ht hm hW1 hh
  go_enter Try.func16, Try.ntmps16
  go_upto_region 1 with (fail)
  rw [← Hw.out, ← Hh.out]
  go_wp2_with (fail)
  refine Hc.out.mono ?_
  rintro e w2 ⟨u0, u1, u2, u3, u4, rfl, h5, hO2⟩
  have hb3 := hb2.only hO2 (by simp)
  obtain ⟨B0, y0, rfl, -⟩ := own_slice h5.o0
  obtain ⟨B1, y1, rfl, -⟩ := own_slice h5.o1
  obtain ⟨B2, y2, rfl, -⟩ := own_slice h5.o2
  obtain ⟨B3, y3, rfl, -⟩ := own_slice h5.o3
  obtain ⟨B4, y4, rfl, -⟩ := own_slice h5.o4
  have e0 : w2.cell? ⟨h, 0, none⟩ = some _ := hb3.cell 0
  have e1 : w2.cell? ⟨h, 1, none⟩ = some _ := hb3.cell 1
  have e2 : w2.cell? ⟨h, 2, none⟩ = some _ := hb3.cell 2
  have e3 : w2.cell? ⟨h, 3, none⟩ = some _ := hb3.cell 3
  have e4 : w2.cell? ⟨h, 4, none⟩ = some _ := hb3.cell 4
  have z0 := hb3.frozen 0
  have z1 := hb3.frozen 1
  have z2 := hb3.frozen 2
  have z3 := hb3.frozen 3
  have z4 := hb3.frozen 4
  have H5 := Lib.hid h5
  have hO3 := hO.trans hO2
  clear h5 c0 c1 c2 c3 c4
  go_wp2_with (fail)
  (try simp only [Exit.inBlock, Exit.then])
  have hb9 := ((((hb3.set 0 (.slice B0 ws.length y0)).set 1 (.slice B1 ms.length y1)).set 2 (.slice B2 a.length y2)).set 3 (.slice B3 b.length y3)).set 4 (.slice B4 d.length y4)
  refine bodyPost_ret (v := .agg #[.slice B0 ws.length y0, .slice B1 ms.length y1, .slice B2 a.length y2, .slice B3 b.length y3, .slice B4 d.length y4]) ?_ rfl ⟨_, _, _, _, _, rfl, ?_, (((((hO3.setCell (.inr hws) _).setCell (.inr hws) _).setCell (.inr hws) _).setCell (.inr hws) _).setCell (.inr hws) _)⟩
  · rw [results_cellD rfl]
    exact load5 hb9
  · have h6 := H5.out.only (l := [h]) (((((((Only.refl [h] w2).setCell (p := ⟨h, 0, none⟩) (.inl (by simp)) (.slice B0 ws.length y0)).setCell (p := ⟨h, 1, none⟩) (.inl (by simp)) (.slice B1 ms.length y1)).setCell (p := ⟨h, 2, none⟩) (.inl (by simp)) (.slice B2 a.length y2)).setCell (p := ⟨h, 3, none⟩) (.inl (by simp)) (.slice B3 b.length y3)).setCell (p := ⟨h, 4, none⟩) (.inl (by simp)) (.slice B4 d.length y4))) (fun x hx => .inl (by simp at hx; omega))
    exact h6.down (by omega)
end
end Go.Proofs.Ytfnhdkabfkjodaa
