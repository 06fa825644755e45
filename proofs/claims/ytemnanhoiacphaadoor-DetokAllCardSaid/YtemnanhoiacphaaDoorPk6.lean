/- Several texts in one: strings.Builder: WriteRune.; utf.Replace, the reference's Replace.; utf.Replace: the walk. -/
import Derived.Test.YtemnanhoiacphaaDoorUtfIK
import Derived.Test.YtemnanhoiacphaaDoorPk1
import Derived.Lib.MapLaws
set_option linter.unusedVariables false
set_option linter.unusedSimpArgs false
namespace Go.Proofs.YtemnanhoiacphaaDoor
open Go.RowKit

theorem own_type {w : World} {base : Nat} {e : TypeId} {size : Nat} {v : Value} {n : Nat} {xs : List Value} (h : w.ownsRow base e size v n xs) {k : Nat} (hk : v.ownBlock = some k) {b : Nat} {t : TypeId} {cs : List Value} (hb : Blk w b t cs) (ht : t ≠ e) : b ≠ k := by
  rcases h.2 with ⟨rfl, _⟩ | ⟨g, cap, cur, rfl, _, hg, _⟩
  · simp [Value.ownBlock] at hk
  · have hgk : g = k := by simpa [Value.ownBlock] using hk
    subst hgk
    exact hb.ne (cs' := cur.toList) (Blk.mk' hg rfl) ht
/-- a builder in a box of the call's own -/
def BldAt (w : World) (g : Nat) (l : List UInt8) : Prop := ∃ p A c, Blk w g 102 [.pointer p, .slice A l.length c] ∧ (p = none ∨ p = some ⟨g, 0, none⟩) ∧ w.ownsRow (g + 1) 5 1 (.slice A l.length c) l.length (bvs l)

set_option maxRecDepth 100000 in
set_option maxHeartbeats 2000000 in
theorem copyCheck_any (w : World) (g : Nat) (p : Option Addr) (v : Value) (hb : Blk w g 102 [.pointer p, v]) (hp : p = none ∨ p = some ⟨g, 0, none⟩) :
    Calls Tryd.prog 70 #[.pointer (some ⟨g, 0, none⟩)] w fun e w' => e = .returned (.tuple #[]) ∧ Blk w' g 102 [.pointer (some ⟨g, 0, none⟩), v] ∧ Only [g] w w' := by
  have c0 : w.cell? ⟨g, 0, none⟩ = some (.pointer p) := hb.cell 0
  have z0 : w.frozen? ⟨g, 0, none⟩ = false := hb.frozen 0
  have hjm : (Tryd.prog.info? 102).map (·.size) = some 2 := by kernel_rfl
  obtain ⟨j, hj, hjs⟩ := Option.map_eq_some_iff.1 hjm
  have hsh : w.shape? g = some (102, 2) := by
    have h : w.heap[g]? = some (.cells #[.pointer p, v] 102 (0, 0)) := hb
    simp [World.shape?, h]
  rcases hp with rfl | rfl
  · go_enter Tryd.func70, Tryd.ntmps70
    go_wp2
    rw [Lib.run_to_unsafe w ⟨g, 0, none⟩ Tryd.underlying100 Tryd.underlying166 hj (by rw [hjs]; decide) hsh (Nat.zero_lt_succ 1)]
    simp only [Result.andThen]
    rw [Oper.upon_value]
    go_wp2
    rw [run_callFunc_extern Tryd.func86 (by kernel_rfl) (by kernel_rfl) (by kernel_rfl) (e := Extern.AbiNoEscape.same) (by kernel_rfl)]
    rw [Lib.run_noEscape]
    simp only [Result.andThen]
    rw [Oper.upon_value]
    go_wp2
    rw [Lib.run_from_unsafe w ⟨g, 0, none⟩ Tryd.underlying166 Tryd.underlying100 hj hsh (by kernel_rfl)]
    simp only [Result.andThen]
    rw [Oper.upon_value]
    go_wp2
    go_end0
    exact ⟨rfl, hb.set 0 _, (Only.refl _ _).setCell (.inl (by simp)) _⟩
  · go_enter Tryd.func70, Tryd.ntmps70
    go_wp2
    rw [Lib.run_neq_ptr_same w _ Tryd.underlying100 hj]
    go_wp2
    go_end0
    exact ⟨rfl, hb, .refl _ _⟩

theorem runeCells_bvs (r : Nat) : Lib.runeCells (r : Int) = bvs (Lib.encodeRune (r : Int)) := by
  have h : ∀ x ∈ Lib.encodeRuneZ (r : Int), 0 ≤ x ∧ x ≤ 255 := by
    intro x hx
    unfold Lib.encodeRuneZ at hx
    (repeat' split at hx) <;> simp at hx <;> omega
  unfold Lib.runeCells Lib.encodeRune bvs
  rw [List.map_map]
  apply List.map_congr_left
  intro x hx
  have := h x hx
  simp [bv]
  omega

set_option maxRecDepth 100000 in
set_option maxHeartbeats 2000000 in
theorem writeRune_any (w : World) (g : Nat) (l : List UInt8) (h : BldAt w g l) (r : Nat) (hr : r ≤ 2147483647) (hl : l.length + 4 ≤ 140737488355328) :
    Calls Tryd.prog 47 #[.pointer (some ⟨g, 0, none⟩), .int .i32 (r : Int)] w fun e w' => (∃ v, e = .returned v) ∧ BldAt w' g (l ++ Lib.encodeRune (r : Int)) ∧ (∀ w0, Only [] w0 w → w0.heap.size ≤ g → Only [] w0 w') ∧ (∀ b t cs, Blk w b t cs → t ≠ 102 → t ≠ 5 → Blk w' b t cs) := by
  obtain ⟨p, A, c, hb, hp, hown⟩ := h
  have hb0 := hb
  go_enter Tryd.func47, Tryd.ntmps47
  go_wp2_with (fail)
  refine (copyCheck_any w g p _ hb hp).mono ?_
  rintro e w1 ⟨rfl, hb1, hO1⟩
  have hown1 := own_only hown hO1 (by
    intro k hk hm
    have := (own_lt hown hk).1
    simp at hm; omega)
  have c1 : w1.cell? ⟨g, 1, none⟩ = some (.slice A l.length c) := hb1.cell 1
  have hgl := hb1.lt
  go_wp2_with (fail)
  refine (Tryd.utf8_AppendRune_plain (g + 1) _ l.length (bvs l) r (by omega) (by omega) w1 hown1 hl (by omega)).mono ?_
  rintro e w2 ⟨v', rfl, hown2, o, hgrow⟩
  rw [runeCells_bvs, bvs_append, bvs_length] at hown2
  have hOg : Only (Value.slice A l.length c).ownBlock.toList w1 w2 := ((Only.refl _ _).alloc o).grown hgrow (fun k hk => .inl (by simp [hk]))
  have hgn : g ∉ (Value.slice A l.length c).ownBlock.toList := by
    intro hm
    have := (own_lt hown1 (by simpa using hm)).1; omega
  have hb2 := hb1.only hOg hgn
  obtain ⟨A2, c2, rfl, _⟩ := own_slice hown2
  have e0 : w2.cell? ⟨g, 0, none⟩ = some (.pointer (some ⟨g, 0, none⟩)) := hb2.cell 0
  have e1 : w2.cell? ⟨g, 1, none⟩ = some (.slice A l.length c) := hb2.cell 1
  have z1 : w2.frozen? ⟨g, 1, none⟩ = false := hb2.frozen 1
  obtain ⟨m, hm⟩ : ∃ m, m = l.length + (Lib.encodeRune (r : Int)).length := ⟨_, rfl⟩
  rw [← hm] at hown2 ⊢
  have Hm := Lib.hid hm
  have hml : l.length ≤ m := by omega
  have hmx : m ≤ 140737488355328 := by
    have := (Lib.runeCells_le (r : Int)).2
    rw [Lib.runeCells_length] at this
    omega
  clear c1 hm
  go_wp2_with (fail)
  go_ret2
  have hb3 := hb2.set 1 (.slice A2 m c2)
  have hOs : Only [g] w2 (w2.setCell ⟨g, 1, none⟩ (.slice A2 m c2)) := (Only.refl _ _).setCell (.inl (by simp)) _
  have hlen : m = (l ++ Lib.encodeRune (r : Int)).length := by rw [List.length_append]; exact Hm.out
  refine ⟨⟨_, rfl⟩, ⟨some ⟨g, 0, none⟩, A2, c2, by rw [← hlen]; exact hb3, .inr rfl, ?_⟩, ?_, ?_⟩
  · rw [← hlen]
    exact own_only hown2 hOs (by
      intro k hk hm
      have := (own_lt hown2 hk).1
      simp at hm; omega)
  · intro w0 h0 hg
    refine ((h0.trans' hO1 (by intro x hx; simp at hx; omega)).trans' hOg ?_).trans' hOs (by intro x hx; simp at hx; omega)
    intro x hx
    exact .inr (by have := (own_lt hown1 (by simpa using hx)).1; omega)
  · intro b t cs hB h1 h2
    have n1 : b ≠ g := hB.ne hb0 h1
    have hB1 := hB.only hO1 (by simp [n1])
    have hB2 := hB1.only hOg (by
      intro hm
      exact own_type hown1 (by simpa using hm) hB1 h2 rfl)
    exact hB2.only hOs (by simp [n1])
end Go.Proofs.YtemnanhoiacphaaDoor

set_option linter.unusedVariables false
set_option linter.unusedSimpArgs false
namespace Go.Proofs.YtemnanhoiacphaaDoor
open Go.RowKit

def skipS (s : ByteArray) (p : Nat) : Nat := if widthS s p ≠ 0 then widthS s p else if beginsS s p = 0 then 1 else beginsS s p
def outS (s : ByteArray) (p : Nat) : List UInt8 := if widthS s p ≠ 0 then (s.data.toList.drop p).take (widthS s p) else [239, 191, 189]
def replF (s : ByteArray) : Nat → Nat → List UInt8
  | 0, _ => []
  | f + 1, p => if p < s.size then outS s p ++ replF s f (p + skipS s p) else []
def replS (s : ByteArray) : List UInt8 := replF s s.size 0
theorem skip_pos (s : ByteArray) (p : Nat) : 1 ≤ skipS s p := by unfold skipS; (repeat' split) <;> omega
theorem begins_le (s : ByteArray) (p : Nat) (hp : p < s.size) : beginsS s p ≤ s.size - p ∧ beginsS s p ≤ 4 := by
  unfold beginsS
  by_cases h : needN (byteAt s p) = 0
  · rw [if_pos h]; omega
  · rw [if_neg h]
    have hb := fits_bytes (needN (byteAt s p) - 1) (s.size - p) (byteAt s p) (byteAt s (p + 1)) (byteAt s (p + 2)) (byteAt s (p + 3))
    show fitsP (needN (byteAt s p) - 1) (s.size - p) (byteAt s p) (byteAt s (p + 1)) (byteAt s (p + 2)) (byteAt s (p + 3)) ≤ s.size - p ∧ fitsP (needN (byteAt s p) - 1) (s.size - p) (byteAt s p) (byteAt s (p + 1)) (byteAt s (p + 2)) (byteAt s (p + 3)) ≤ 4
    generalize fitsP (needN (byteAt s p) - 1) (s.size - p) (byteAt s p) (byteAt s (p + 1)) (byteAt s (p + 2)) (byteAt s (p + 3)) = k at hb ⊢
    omega
theorem skip_le (s : ByteArray) (p : Nat) (hp : p < s.size) : p + skipS s p ≤ s.size := by
  have h1 := widthS_fits s p hp
  have h2 := begins_le s p hp
  unfold skipS
  by_cases h : widthS s p ≠ 0
  · rw [if_pos h]; exact (h1 h).1
  · rw [if_neg h]; split <;> omega
theorem out_le (s : ByteArray) (p : Nat) : (outS s p).length ≤ 4 := by
  unfold outS
  by_cases h : widthS s p ≠ 0
  · rw [if_pos h, List.length_take]
    have : widthS s p ≤ 4 := by unfold widthS; have := needN_le (byteAt s p); (repeat' split) <;> omega
    omega
  · rw [if_neg h]; simp
theorem replF_more (s : ByteArray) : ∀ (f g p : Nat), s.size ≤ p + f → s.size ≤ p + g → replF s f p = replF s g p
  | 0, 0, p, _, _ => rfl
  | 0, g + 1, p, h, _ => by rw [replF, replF, if_neg (by omega)]
  | f + 1, 0, p, _, h => by rw [replF, replF, if_neg (by omega)]
  | f + 1, g + 1, p, h1, h2 => by
    rw [replF, replF]
    by_cases hp : p < s.size
    · have := skip_pos s p
      rw [if_pos hp, if_pos hp, replF_more s f g _ (by omega) (by omega)]
    · rw [if_neg hp, if_neg hp]
theorem replF_step {s : ByteArray} {p : Nat} (hp : p < s.size) : replF s (s.size - p) p = outS s p ++ replF s (s.size - (p + skipS s p)) (p + skipS s p) := by
  have e : replF s (s.size - p) p = replF s (s.size - (p + 1) + 1) p := by congr 1; omega
  have := skip_pos s p
  rw [e, replF, if_pos hp, replF_more s (s.size - (p + 1)) (s.size - (p + skipS s p)) _ (by omega) (by omega)]

theorem fitsP_min (most n m b0 b1 b2 b3 : Nat) (hn : 1 ≤ n) (hnm : n ≤ m) : n ≤ fitsP most n b0 b1 b2 b3 ↔ n ≤ fitsP most m b0 b1 b2 b3 := by
  unfold fitsP
  cases hs : secondN b0 b1 <;> cases h2 : contN b2 <;> cases h3 : contN b3 <;> simp only [and_true, and_false, Bool.false_eq_true, if_false] <;> (repeat' split) <;> omega
theorem ext_size (s : ByteArray) (p n : Nat) (h : p + n ≤ s.size) : ((s.extract p s.size).extract 0 n).size = n := by simp [ByteArray.size_extract]; omega
theorem ext_get (s : ByteArray) (p n i : Nat) (h : p + n ≤ s.size) (hi : i < n) : (((s.extract p s.size).extract 0 n).get! i).toNat = byteAt s (p + i) := by
  rw [← get_extract s p i, ← Lib.getD_get!', ← Lib.getD_get!']
  have e : ((s.extract p s.size).extract 0 n).data.toList = (s.extract p s.size).data.toList.take n := by
    rw [ByteArray.data_extract, Array.toList_extract]
    show (((s.extract p s.size).data.toList).drop 0).take (n - 0) = _
    simp
  rw [e]
  simp [List.getD, List.getElem?_take, hi]
/-- is a beginning of what stands at a place the beginning of a sequence? -/
theorem begins_pre (s : ByteArray) (p n : Nat) (hn : 1 ≤ n) (h : p + n ≤ s.size) : beginsGo ((s.extract p s.size).extract 0 n) = decide (n ≤ beginsS s p) := by
  have e : beginsGo ((s.extract p s.size).extract 0 n) = !fullN n (byteAt s p) (if 1 < n then byteAt s (p + 1) else (((s.extract p s.size).extract 0 n).get! 1).toNat) (if 2 < n then byteAt s (p + 2) else (((s.extract p s.size).extract 0 n).get! 2).toNat) := by
    unfold beginsGo fullGo
    rw [ext_size s p n h, decide_eq_true (by omega), Bool.true_and, ext_get s p n 0 h (by omega), Nat.add_zero]
    congr 2
    · split
      · rw [ext_get s p n 1 h (by omega)]
      · rfl
    · split
      · rw [ext_get s p n 2 h (by omega)]
      · rfl
  obtain ⟨c1, hc1⟩ : ∃ c, c = (if 1 < n then byteAt s (p + 1) else (((s.extract p s.size).extract 0 n).get! 1).toNat) := ⟨_, rfl⟩
  obtain ⟨c2, hc2⟩ : ∃ c, c = (if 2 < n then byteAt s (p + 2) else (((s.extract p s.size).extract 0 n).get! 2).toNat) := ⟨_, rfl⟩
  rw [← hc1, ← hc2] at e
  have l1 : c1 < 256 := by rw [hc1]; split; exact byte_lt' _ _; exact UInt8.toNat_lt _
  have l2 : c2 < 256 := by rw [hc2]; split; exact byte_lt' _ _; exact UInt8.toNat_lt _
  have hf := fullN_iff n (byteAt s p) c1 c2 (byteAt s (p + 3)) hn (byte_lt' _ _) l1 l2 (byte_lt' _ _)
  have hsame : fitsP (needN (byteAt s p) - 1) n (byteAt s p) c1 c2 (byteAt s (p + 3)) = fitsP (needN (byteAt s p) - 1) n (byteAt s p) (byteAt s (p + 1)) (byteAt s (p + 2)) (byteAt s (p + 3)) := by
    unfold fitsP
    by_cases g1 : 1 < n
    · rw [if_pos g1] at hc1
      rw [hc1]
      by_cases g2 : 2 < n
      · rw [if_pos g2] at hc2; rw [hc2]
      · simp [g2]
    · simp [g1]
  have hmin := fitsP_min (needN (byteAt s p) - 1) n (s.size - p) (byteAt s p) (byteAt s (p + 1)) (byteAt s (p + 2)) (byteAt s (p + 3)) hn (by omega)
  have hb := fits_bytes (needN (byteAt s p) - 1) n (byteAt s p) (byteAt s (p + 1)) (byteAt s (p + 2)) (byteAt s (p + 3))
  rw [e, Bool.eq_iff_iff, Bool.not_eq_true', hf, hsame, decide_eq_true_eq]
  unfold beginsS
  by_cases h0 : needN (byteAt s p) = 0
  · rw [if_pos h0]; simp [h0]; omega
  · rw [if_neg h0]
    show _ ↔ n ≤ fitsP (needN (byteAt s p) - 1) (s.size - p) (byteAt s p) (byteAt s (p + 1)) (byteAt s (p + 2)) (byteAt s (p + 3))
    rw [← hmin]
    generalize fitsP (needN (byteAt s p) - 1) n (byteAt s p) (byteAt s (p + 1)) (byteAt s (p + 2)) (byteAt s (p + 3)) = k at hb ⊢
    simp [h0]
    omega
theorem ext_ext (s : ByteArray) (p n : Nat) (h : p + n ≤ s.size) : (s.extract p s.size).extract n (s.extract p s.size).size = s.extract (p + n) s.size := by
  apply ByteArray.ext
  rw [ByteArray.data_extract, ByteArray.data_extract, ByteArray.data_extract, Array.extract_extract]
  congr 1
  simp [ByteArray.size_extract]
  omega
theorem bad_width (s : ByteArray) (p : Nat) (hp : p < s.size) : isBad (Utf8.decode s p) = decide (widthS s p = 0) := by
  by_cases h : widthS s p = 0
  · rw [(dec_eq s p hp).2 h.symm, h]; rfl
  · rw [(dec_eq s p hp).1 h, decide_eq_false h]
    unfold isBad
    apply decide_eq_false
    rintro ⟨g1, g2⟩
    simp only at g1 g2
    have hb : byteAt s p < 256 := byte_lt' _ _
    rw [g2] at g1
    unfold readS readP at g1
    rw [if_pos rfl] at g1
    omega
theorem dec_width (s : ByteArray) (p : Nat) (hp : p < s.size) : (Utf8.decode s p).2 = if widthS s p = 0 then 1 else widthS s p := by
  by_cases h : widthS s p = 0
  · rw [(dec_eq s p hp).2 h.symm, h]; rfl
  · rw [(dec_eq s p hp).1 h, if_neg h]
/-- a good item's rune is written as its bytes; a bad one as U+FFFD -/
theorem enc_out (s : ByteArray) (p : Nat) (hp : p < s.size) : Lib.encodeRune ((Utf8.decode s p).1 : Int) = outS s p := by
  unfold outS
  by_cases h : widthS s p = 0
  · rw [if_neg (by simp [h]), (dec_eq s p hp).2 h.symm]; rfl
  · rw [if_pos h]
    have e := (dec_eq s p hp).1 h
    have hne : s.data.toList.drop p ≠ [] := by
      intro h0
      have := congrArg List.length h0
      rw [List.length_drop, ← Lib.size_eq] at this
      simp at this; omega
    have hnb : ¬ ((Lib.decodeL (s.data.toList.drop p)).1 = 65533 ∧ (Lib.decodeL (s.data.toList.drop p)).2 = 1) := by
      rw [Lib.decodeL_drop, e]
      rintro ⟨g1, g2⟩
      simp only at g1 g2
      have hb : byteAt s p < 256 := byte_lt' _ _
      rw [g2] at g1
      unfold readS readP at g1
      rw [if_pos rfl] at g1
      omega
    have := Lib.encode_decode _ hne hnb
    rw [Lib.decodeL_drop, e] at this
    rw [e]
    exact this
end Go.Proofs.YtemnanhoiacphaaDoor

set_option linter.unusedVariables false
set_option linter.unusedSimpArgs false
namespace Go.Proofs.YtemnanhoiacphaaDoor
open Go.RowKit

theorem BldAt.only {w w' : World} {g : Nat} {l : List UInt8} (h : BldAt w g l) (hO : Only [] w w') : BldAt w' g l := by
  obtain ⟨p, A, c, hb, hp, hown⟩ := h
  exact ⟨p, A, c, hb.only hO (by simp), hp, own_only hown hO (by simp)⟩
theorem bld_new {w : World} {g : Nat} (hb : Blk w g 102 [.pointer none, .slice none 0 0]) : BldAt w g [] := ⟨none, none, 0, hb, .inl rfl, ⟨rfl, .inl ⟨rfl, rfl⟩⟩⟩
theorem string_any (w : World) (g : Nat) (l : List UInt8) (h : BldAt w g l) (w0 : World) (h0 : Only [] w0 w) (hg : w0.heap.size ≤ g) :
    Calls Tryd.prog 48 #[.pointer (some ⟨g, 0, none⟩)] w fun e w' => e = .returned (.string ⟨l.toArray⟩) ∧ Only [] w0 w' := by
  obtain ⟨p, A, c, hb, hp, hown⟩ := h
  have hB : Lib.BuilderAtF 102 5 g g (.pointer p) (Lib.byteCells l) w := by
    refine ⟨Nat.le_refl _, _, hb, ?_, ?_⟩
    · rw [Lib.byteCells_length]
      exact World.ownsRowF_of (own_base hown (by omega))
    · intro hk
      have := (own_lt hown hk).1; omega
  have hI : Lib.IsBuilderF 102 5 g g (Lib.byteCells l) w := by
    rcases hp with rfl | rfl
    · exact .inl hB
    · exact .inr hB
  refine (Tryd.Builder_String_any_k g g l w hI (Nat.le_of_lt hb.lt)).mono ?_
  rintro e w' ⟨rfl, _, hBl, _⟩
  exact ⟨rfl, Only.of_below (h0.below.trans (hBl.mono hg))⟩

theorem str_ne (s : ByteArray) (h : 0 < s.size) : s.toList.isEmpty = false := by
  rw [Lib.toList_data]
  cases h' : s.data.toList with
  | nil =>
    rw [Lib.size_eq s, h'] at h
    exact absurd h (by simp)
  | cons _ _ => rfl
theorem str_nil (s : ByteArray) (h : s.size = 0) : s.toList.isEmpty = true := by
  rw [Lib.toList_data]
  cases h' : s.data.toList with
  | nil => rfl
  | cons _ _ =>
    rw [Lib.size_eq s, h'] at h
    exact absurd h (by simp)

set_option maxRecDepth 100000 in
set_option maxHeartbeats 4000000 in
theorem replace_any' (s : ByteArray) (hs : s.size ≤ 4500000) (w : World) (hT : Tabs w) :
    Calls Tryd.prog 19 #[.string s] w fun e w' => e = .returned (.string ⟨(replS s).toArray⟩) ∧ Only [] w w' := by
  obtain ⟨R, hR⟩ : ∃ R, R = replS s := ⟨_, rfl⟩
  rw [← hR]
  have HR := Lib.hid hR
  clear hR
  obtain ⟨g, hg⟩ : ∃ g, g = w.heap.size := ⟨_, rfl⟩
  have hb0 : Blk (w.alloc (.cells #[.pointer none, .slice none 0 0] 102)) g 102 [.pointer none, .slice none 0 0] := Blk.new' _ _ _ hg.symm rfl
  have hO0 := (Only.refl [] w).alloc (.cells #[.pointer none, .slice none 0 0] 102)
  have hB0 := bld_new hb0
  have hgw : w.heap.size ≤ g := by omega
  have he : s.extract 0 s.size = s := by
    apply ByteArray.ext; rw [ByteArray.data_extract]; simp [← ByteArray.size_data]
  have He := Lib.hid he
  have Hg := Lib.hid hg
  clear he hb0
  go_enter Tryd.func19, Tryd.ntmps19
  go_wp2_with (fail)
  rw [← Hg.out]
  clear hg
  go_loopw [0] (fun v wr => ∃ (p : Nat) (acc : List UInt8), v = .string (s.extract p s.size) ∧ p ≤ s.size ∧ acc.length ≤ 4 * p ∧ BldAt wr g acc ∧ acc ++ replF s (s.size - p) p = replS s ∧ Only [] w wr) (fun v _ => match v with | .string b => b.size | _ => 0)
  case atStart => exact ⟨0, [], by rw [He.out], by omega, by simp, hB0, rfl, hO0⟩
  case round =>
    clear hB0 hO0
    obtain ⟨p, acc, rfl, hp, hacc, hB, hq, hO⟩ := hrel
    have Hq := Lib.hid hq
    clear hq
    by_cases hlt : p < s.size
    · obtain ⟨cur, hcur⟩ : ∃ c, c = s.extract p s.size := ⟨_, rfl⟩
      have hsz : cur.size = s.size - p := by rw [hcur]; simp [ByteArray.size_extract]
      have hfi : firstIt cur 0 = ⟨0, (Utf8.decode s p).2, (Utf8.decode s p).1, isBad (Utf8.decode s p)⟩ := by
        have e := firstIt_at s p hlt
        rw [← hcur] at e
        unfold firstIt itAt at e
        unfold firstIt
        injection e with _ e1 e2 e3
        rw [e1, e2, e3]
      have hne := str_ne cur (by omega)
      have henc := enc_out s p hlt
      have hrle := Lib.rune_le s p
      have hstep := replF_step hlt
      have hbw := bad_width s p hlt
      have hdw := dec_width s p hlt
      have hsl := skip_le s p hlt
      have hsp := skip_pos s p
      rw [← hcur]
      have Hcur := Lib.hid hcur
      have Hfi := Lib.hid hfi
      have Hbw := Lib.hid hbw
      have Hdw := Lib.hid hdw
      clear hbw hdw
      have Henc := Lib.hid henc
      have Hstep := Lib.hid hstep
      clear hcur hfi henc hstep
      obtain ⟨d, hd⟩ : ∃ d, d = Utf8.decode s p := ⟨_, rfl⟩
      rw [← hd] at Hfi Henc Hbw Hdw hrle
      have Hd := Lib.hid hd
      clear hd
      obtain ⟨r, n⟩ := d
      simp only at hrle
      go_wp2_with (fail)
      refine (first_any cur 0 _ (hT.only hO (by simp) (by simp))).mono ?_
      rintro e w1 ⟨rfl, hO1⟩
      rw [Hfi.out]
      simp only [It.enc]
      obtain ⟨bx, hbx⟩ : ∃ b, b = w1.heap.size := ⟨_, rfl⟩
      obtain ⟨bad, hbad⟩ : ∃ b, b = isBad (r, n) := ⟨_, rfl⟩
      rw [← hbad]
      have hb1 : Blk (w1.alloc (.cells #[.int .i64 0, .int .i64 (n : Int), .int .i32 (r : Int), .bool bad] 104)) bx 104 [.int .i64 0, .int .i64 (n : Int), .int .i32 (r : Int), .bool bad] := Blk.new' _ _ _ hbx.symm rfl
      have hOa := hO1.alloc (.cells #[.int .i64 0, .int .i64 (n : Int), .int .i32 (r : Int), .bool bad] 104)
      have hBa := hB.only hOa
      have hOw := hO.trans hOa
      have hTa := hT.only hOw (by simp) (by simp)
      have Hbx := Lib.hid hbx
      have Hbad := Lib.hid hbad
      clear hO1 hOa hB hO hbx hbad
      go_wp2_with (fail)
      rw [← Hbx.out]
      generalize (w1.alloc (.cells #[.int .i64 0, .int .i64 (n : Int), .int .i32 (r : Int), .bool bad] 104)) = w2 at hb1 hBa hOw hTa ⊢
      refine (writeRune_any w2 g acc hBa r (by omega) (by omega)).mono ?_
      rintro e w3 ⟨⟨vv, rfl⟩, hB3, hO3, hk3⟩
      have hb3 := hk3 _ _ _ hb1 (by decide) (by decide)
      have hOw3 := hO3 w hOw hgw
      rw [Henc.out] at hB3
      have hT3 := hT.only hOw3 (by simp) (by simp)
      clear hO3 hk3 hBa hb1 hOw hTa
      have k1 : w3.cell? ⟨bx, 1, none⟩ = some (.int .i64 (n : Int)) := hb3.cell 1
      have k3 : w3.cell? ⟨bx, 3, none⟩ = some (.bool bad) := hb3.cell 3
      go_wp2_with (fail)
      obtain ⟨sk, hsk⟩ : ∃ k, k = skipS s p := ⟨_, rfl⟩
      rw [← hsk] at hsl hsp
      have hnsk : n ≤ sk := by
        have := Hdw.out
        rw [hsk]; unfold skipS
        by_cases h0 : widthS s p = 0
        · rw [if_pos h0] at this; rw [if_neg (by simp [h0])]; split <;> omega
        · rw [if_neg h0] at this; rw [if_pos h0]; omega
      have hn1 : 1 ≤ n := by
        have := Hdw.out
        rw [this]; split <;> omega
      have Hsk := Lib.hid hsk
      have hgood : bad = false → n = sk := by
        intro hb
        have h1 := Hbw.out
        rw [← Hbad.out, hb] at h1
        have h0 : widthS s p ≠ 0 := of_decide_eq_false h1.symm
        have := Hdw.out
        rw [if_neg h0] at this
        rw [Hsk.out, skipS, if_pos h0, this]
      have hbadw : bad = true → widthS s p = 0 := by
        intro hb
        have h1 := Hbw.out
        rw [← Hbad.out, hb] at h1
        exact of_decide_eq_true h1.symm
      clear hsk
      go_loopw [5] (fun vn wr => ∃ m : Nat, vn = .int .i64 (m : Int) ∧ 1 ≤ m ∧ m ≤ sk ∧ (bad = false → m = sk) ∧ BldAt wr g (acc ++ outS s p) ∧ Blk wr bx 104 [.int .i64 0, .int .i64 (n : Int), .int .i32 (r : Int), .bool bad] ∧ Only [] w wr) (fun vn _ => sk - (intOf vn).toNat)
      case atStart => exact ⟨n, rfl, hn1, hnsk, hgood, hB3, hb3, hOw3⟩
      case round =>
        clear hB3 hb3 hOw3 hT3 hgood hnsk hn1 k1 k3
        obtain ⟨m, rfl, hm1, hmk, hgood, hB3, hb3, hOw3⟩ := hrel
        have hT3 := hT.only hOw3 (by simp) (by simp)
        have k3 : wr.cell? ⟨bx, 3, none⟩ = some (.bool bad) := hb3.cell 3
        have hfin : ∀ (a b : Nat), a = sk → b = s.size - p → ∀ (wx : World), BldAt wx g (acc ++ outS s p) → Only [] w wx → ∃ (p : Nat) (acc : List UInt8), Value.string (cur.extract a b) = .string (s.extract p s.size) ∧ p ≤ s.size ∧ acc.length ≤ 4 * p ∧ BldAt wx g acc ∧ acc ++ replF s (s.size - p) p = replS s ∧ Only [] w wx := by
          intro a b e1 e2 wx hB' hO'
          rw [e1, e2, ← hsz]
          refine ⟨p + sk, acc ++ outS s p, ?_, hsl, ?_, hB', ?_, hO'⟩
          · rw [Hcur.out, ext_ext s p sk hsl]
          · have := out_le s p
            rw [List.length_append]; omega
          · rw [← Hq.out, Hstep.out, ← Hsk.out, List.append_assoc]
        have hmc' : m ≤ cur.size := by omega
        have hpre : ∀ k, 1 ≤ k → k ≤ cur.size → beginsGo (cur.extract 0 k) = decide (k ≤ beginsS s p) := by
          intro k h1 h2
          rw [Hcur.out]
          exact begins_pre s p k h1 (by omega)
        have hskb : bad = true → sk = if beginsS s p = 0 then 1 else beginsS s p := by
          intro h
          rw [Hsk.out, skipS, if_neg (by simp [hbadw h])]
        have hble := (begins_le s p hlt).1
        have Hfin := Lib.hid hfin
        clear hfin
        cases bad with
        | false =>
          have hmk' := hgood rfl
          go_wp2_with (fail)
          go_roundw
          case rel => exact Hfin.out _ _ (by omega) (by omega) _ hB3 hOw3
          case measure => show ByteArray.size _ < ByteArray.size _; simp [ByteArray.size_extract]; omega
        | true =>
          have hsk' := hskb rfl
          have hpm := hpre m hm1 hmc'
          have Hsk' := Lib.hid hsk'
          clear hgood hskb hsk'
          by_cases hmc : m < cur.size
          · have hpm1 := hpre (m + 1) (by omega) (by omega)
            have Hpm := Lib.hid hpm
            have Hpm1 := Lib.hid hpm1
            have Hpre := Lib.hid hpre
            clear hpm hpm1 hpre
            go_wp2_with (fail)
            refine (beginning_any _ _ hT3).mono ?_
            rintro e w4 ⟨rfl, hO4⟩
            rw [Hpm.out]
            have hB4 := hB3.only hO4
            have hOw4 := hOw3.trans hO4
            have hb4 := hb3.only hO4 (by simp)
            have hT4 := hT.only hOw4 (by simp) (by simp)
            by_cases hd1 : m ≤ beginsS s p
            · rw [decide_eq_true hd1]
              go_wp2_with (fail)
              refine (beginning_any _ _ hT4).mono ?_
              rintro e w5 ⟨rfl, hO5⟩
              have hB5 := hB4.only hO5
              have hOw5 := hOw4.trans hO5
              have hb5 := hb4.only hO5 (by simp)
              rw [Hpm1.out]
              by_cases hd2 : m + 1 ≤ beginsS s p
              · rw [decide_eq_true hd2]
                go_wp2_with (fail)
                go_roundw
                case rel => exact ⟨m + 1, by go_num, by omega, by have hsk' := Hsk'.out; (repeat' split at hsk') <;> omega, by simp, hB5, hb5, hOw5⟩
                case measure => simp [intOf]; have hsk' := Hsk'.out; (repeat' split at hsk') <;> omega
              · rw [decide_eq_false hd2]
                have hmk' : m = sk := by have hsk' := Hsk'.out; (repeat' split at hsk') <;> omega
                go_wp2_with (fail)
                go_roundw
                case rel => exact Hfin.out _ _ (by omega) (by omega) _ hB5 hOw5
                case measure => show ByteArray.size _ < ByteArray.size _; simp [ByteArray.size_extract]; omega
            · rw [decide_eq_false hd1]
              have hmk' : m = sk := by have hsk' := Hsk'.out; (repeat' split at hsk') <;> omega
              go_wp2_with (fail)
              go_roundw
              case rel => exact Hfin.out _ _ (by omega) (by omega) _ hB4 hOw4
              case measure => show ByteArray.size _ < ByteArray.size _; simp [ByteArray.size_extract]; omega
          · have hmk' : m = sk := by have hsk' := Hsk'.out; (repeat' split at hsk') <;> omega
            go_wp2_with (fail)
            go_roundw
            case rel => exact Hfin.out _ _ (by omega) (by omega) _ hB3 hOw3
            case measure => show ByteArray.size _ < ByteArray.size _; simp [ByteArray.size_extract]; omega
    · have hpe : p = s.size := by omega
      subst hpe
      have hz : (s.extract s.size s.size).size = 0 := by simp [ByteArray.size_extract]
      have hnil := str_nil _ hz
      obtain ⟨cur, hcur⟩ : ∃ c, c = s.extract s.size s.size := ⟨_, rfl⟩
      rw [← hcur] at hnil hz ⊢
      have Hcur := Lib.hid hcur
      have hacc2 : acc = replS s := by
        have h0 : replF s (s.size - s.size) s.size = [] := by rw [Nat.sub_self]; rfl
        have := Hq.out
        rw [h0, List.append_nil] at this
        exact this
      have Hacc := Lib.hid hacc2
      clear hcur hacc2
      go_wp2_with (fail)
      refine (string_any _ g acc hB w hO hgw).mono ?_
      rintro e w4 ⟨rfl, hO4⟩
      go_wp2_with (fail)
      go_ret
      exact ⟨by rw [HR.out, Hacc.out]; rfl, hO4⟩
theorem replace_any (s : ByteArray) (hs : s.size ≤ 1048576) (w : World) (hT : Tabs w) :
    Calls Tryd.prog 19 #[.string s] w fun e w' => e = .returned (.string ⟨(replS s).toArray⟩) ∧ Only [] w w' :=
  replace_any' s (by omega) w hT
end Go.Proofs.YtemnanhoiacphaaDoor
