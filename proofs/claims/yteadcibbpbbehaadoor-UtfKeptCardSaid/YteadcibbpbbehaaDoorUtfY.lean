/- utf.Replace: the walk. -/
import Derived.Test.YteadcibbpbbehaaDoorUtfX
set_option linter.unusedVariables false
set_option linter.unusedSimpArgs false
namespace Go.Proofs.YteadcibbpbbehaaDoor
open Go.RowKit

theorem BldAt.only {w w' : World} {g : Nat} {l : List UInt8} (h : BldAt w g l) (hO : Only [] w w') : BldAt w' g l := by
  obtain ⟨p, A, c, hb, hp, hown⟩ := h
  exact ⟨p, A, c, hb.only hO (by simp), hp, own_only hown hO (by simp)⟩
theorem bld_new {w : World} {g : Nat} (hb : Blk w g 62 [.pointer none, .slice none 0 0]) : BldAt w g [] := ⟨none, none, 0, hb, .inl rfl, ⟨rfl, .inl ⟨rfl, rfl⟩⟩⟩
theorem string_any (w : World) (g : Nat) (l : List UInt8) (h : BldAt w g l) (w0 : World) (h0 : Only [] w0 w) (hg : w0.heap.size ≤ g) :
    Calls Tryd.prog 36 #[.pointer (some ⟨g, 0, none⟩)] w fun e w' => e = .returned (.string ⟨l.toArray⟩) ∧ Only [] w0 w' := by
  obtain ⟨p, A, c, hb, hp, hown⟩ := h
  have hB : Lib.BuilderAtF 62 5 g g (.pointer p) (Lib.byteCells l) w := by
    refine ⟨Nat.le_refl _, _, hb, ?_, ?_⟩
    · rw [Lib.byteCells_length]
      exact World.ownsRowF_of (own_base hown (by omega))
    · intro hk
      have := (own_lt hown hk).1; omega
  have hI : Lib.IsBuilderF 62 5 g g (Lib.byteCells l) w := by
    rcases hp with rfl | rfl
    · exact .inl hB
    · exact .inr hB
  refine (Tryd.Builder_String_any_k g g l w hI (Nat.le_of_lt hb.lt)).mono ?_
  rintro e w' ⟨rfl, _, hBl, _⟩
  exact ⟨rfl, Only.of_below (h0.below.trans (hBl.mono hg))⟩

theorem str_ne (s : ByteArray) (h : 0 < s.size) : s.toList.isEmpty = false := by
  rw [Lib.toList_data]
  cases h' : s.data.toList with
  | nil =>
    rw [Lib.size_eq s, h'] at h
    exact absurd h (by simp)
  | cons _ _ => rfl
theorem str_nil (s : ByteArray) (h : s.size = 0) : s.toList.isEmpty = true := by
  rw [Lib.toList_data]
  cases h' : s.data.toList with
  | nil => rfl
  | cons _ _ =>
    rw [Lib.size_eq s, h'] at h
    exact absurd h (by simp)

set_option maxRecDepth 100000 in
set_option maxHeartbeats 4000000 in
theorem replace_any' (s : ByteArray) (hs : s.size ≤ 4500000) (w : World) (hT : Tabs w) :
    Calls Tryd.prog 19 #[.string s] w fun e w' => e = .returned (.string ⟨(replS s).toArray⟩) ∧ Only [] w w' := by
  obtain ⟨R, hR⟩ : ∃ R, R = replS s := ⟨_, rfl⟩
  rw [← hR]
  have HR := Lib.hid hR
  clear hR
  obtain ⟨g, hg⟩ : ∃ g, g = w.heap.size := ⟨_, rfl⟩
  have hb0 : Blk (w.alloc (.cells #[.pointer none, .slice none 0 0] 62)) g 62 [.pointer none, .slice none 0 0] := Blk.new' _ _ _ hg.symm rfl
  have hO0 := (Only.refl [] w).alloc (.cells #[.pointer none, .slice none 0 0] 62)
  have hB0 := bld_new hb0
  have hgw : w.heap.size ≤ g := by omega
  have he : s.extract 0 s.size = s := by
    apply ByteArray.ext; rw [ByteArray.data_extract]; simp [← ByteArray.size_data]
  have He := Lib.hid he
  have Hg := Lib.hid hg
  clear he hb0
  go_enter Tryd.func19, Tryd.ntmps19
  go_wp2_with (fail)
  rw [← Hg.out]
  clear hg
  go_loopw [0] (fun v wr => ∃ (p : Nat) (acc : List UInt8), v = .string (s.extract p s.size) ∧ p ≤ s.size ∧ acc.length ≤ 4 * p ∧ BldAt wr g acc ∧ acc ++ replF s (s.size - p) p = replS s ∧ Only [] w wr) (fun v _ => match v with | .string b => b.size | _ => 0)
  case atStart => exact ⟨0, [], by rw [He.out], by omega, by simp, hB0, rfl, hO0⟩
  case round =>
    clear hB0 hO0
    obtain ⟨p, acc, rfl, hp, hacc, hB, hq, hO⟩ := hrel
    have Hq := Lib.hid hq
    clear hq
    by_cases hlt : p < s.size
    · obtain ⟨cur, hcur⟩ : ∃ c, c = s.extract p s.size := ⟨_, rfl⟩
      have hsz : cur.size = s.size - p := by rw [hcur]; simp [ByteArray.size_extract]
      have hfi : firstIt cur 0 = ⟨0, (Utf8.decode s p).2, (Utf8.decode s p).1, isBad (Utf8.decode s p)⟩ := by
        have e := firstIt_at s p hlt
        rw [← hcur] at e
        unfold firstIt itAt at e
        unfold firstIt
        injection e with _ e1 e2 e3
        rw [e1, e2, e3]
      have hne := str_ne cur (by omega)
      have henc := enc_out s p hlt
      have hrle := Lib.rune_le s p
      have hstep := replF_step hlt
      have hbw := bad_width s p hlt
      have hdw := dec_width s p hlt
      have hsl := skip_le s p hlt
      have hsp := skip_pos s p
      rw [← hcur]
      have Hcur := Lib.hid hcur
      have Hfi := Lib.hid hfi
      have Hbw := Lib.hid hbw
      have Hdw := Lib.hid hdw
      clear hbw hdw
      have Henc := Lib.hid henc
      have Hstep := Lib.hid hstep
      clear hcur hfi henc hstep
      obtain ⟨d, hd⟩ : ∃ d, d = Utf8.decode s p := ⟨_, rfl⟩
      rw [← hd] at Hfi Henc Hbw Hdw hrle
      have Hd := Lib.hid hd
      clear hd
      obtain ⟨r, n⟩ := d
      simp only at hrle
      go_wp2_with (fail)
      refine (first_any cur 0 _ (hT.only hO (by simp) (by simp))).mono ?_
      rintro e w1 ⟨rfl, hO1⟩
      rw [Hfi.out]
      simp only [It.enc]
      obtain ⟨bx, hbx⟩ : ∃ b, b = w1.heap.size := ⟨_, rfl⟩
      obtain ⟨bad, hbad⟩ : ∃ b, b = isBad (r, n) := ⟨_, rfl⟩
      rw [← hbad]
      have hb1 : Blk (w1.alloc (.cells #[.int .i64 0, .int .i64 (n : Int), .int .i32 (r : Int), .bool bad] 33)) bx 33 [.int .i64 0, .int .i64 (n : Int), .int .i32 (r : Int), .bool bad] := Blk.new' _ _ _ hbx.symm rfl
      have hOa := hO1.alloc (.cells #[.int .i64 0, .int .i64 (n : Int), .int .i32 (r : Int), .bool bad] 33)
      have hBa := hB.only hOa
      have hOw := hO.trans hOa
      have hTa := hT.only hOw (by simp) (by simp)
      have Hbx := Lib.hid hbx
      have Hbad := Lib.hid hbad
      clear hO1 hOa hB hO hbx hbad
      go_wp2_with (fail)
      rw [← Hbx.out]
      generalize (w1.alloc (.cells #[.int .i64 0, .int .i64 (n : Int), .int .i32 (r : Int), .bool bad] 33)) = w2 at hb1 hBa hOw hTa ⊢
      refine (writeRune_any w2 g acc hBa r (by omega) (by omega)).mono ?_
      rintro e w3 ⟨⟨vv, rfl⟩, hB3, hO3, hk3⟩
      have hb3 := hk3 _ _ _ hb1 (by decide) (by decide)
      have hOw3 := hO3 w hOw hgw
      rw [Henc.out] at hB3
      have hT3 := hT.only hOw3 (by simp) (by simp)
      clear hO3 hk3 hBa hb1 hOw hTa
      have k1 : w3.cell? ⟨bx, 1, none⟩ = some (.int .i64 (n : Int)) := hb3.cell 1
      have k3 : w3.cell? ⟨bx, 3, none⟩ = some (.bool bad) := hb3.cell 3
      go_wp2_with (fail)
      obtain ⟨sk, hsk⟩ : ∃ k, k = skipS s p := ⟨_, rfl⟩
      rw [← hsk] at hsl hsp
      have hnsk : n ≤ sk := by
        have := Hdw.out
        rw [hsk]; unfold skipS
        by_cases h0 : widthS s p = 0
        · rw [if_pos h0] at this; rw [if_neg (by simp [h0])]; split <;> omega
        · rw [if_neg h0] at this; rw [if_pos h0]; omega
      have hn1 : 1 ≤ n := by
        have := Hdw.out
        rw [this]; split <;> omega
      have Hsk := Lib.hid hsk
      have hgood : bad = false → n = sk := by
        intro hb
        have h1 := Hbw.out
        rw [← Hbad.out, hb] at h1
        have h0 : widthS s p ≠ 0 := of_decide_eq_false h1.symm
        have := Hdw.out
        rw [if_neg h0] at this
        rw [Hsk.out, skipS, if_pos h0, this]
      have hbadw : bad = true → widthS s p = 0 := by
        intro hb
        have h1 := Hbw.out
        rw [← Hbad.out, hb] at h1
        exact of_decide_eq_true h1.symm
      clear hsk
      go_loopw [5] (fun vn wr => ∃ m : Nat, vn = .int .i64 (m : Int) ∧ 1 ≤ m ∧ m ≤ sk ∧ (bad = false → m = sk) ∧ BldAt wr g (acc ++ outS s p) ∧ Blk wr bx 33 [.int .i64 0, .int .i64 (n : Int), .int .i32 (r : Int), .bool bad] ∧ Only [] w wr) (fun vn _ => sk - (intOf vn).toNat)
      case atStart => exact ⟨n, rfl, hn1, hnsk, hgood, hB3, hb3, hOw3⟩
      case round =>
        clear hB3 hb3 hOw3 hT3 hgood hnsk hn1 k1 k3
        obtain ⟨m, rfl, hm1, hmk, hgood, hB3, hb3, hOw3⟩ := hrel
        have hT3 := hT.only hOw3 (by simp) (by simp)
        have k3 : wr.cell? ⟨bx, 3, none⟩ = some (.bool bad) := hb3.cell 3
        have hfin : ∀ (a b : Nat), a = sk → b = s.size - p → ∀ (wx : World), BldAt wx g (acc ++ outS s p) → Only [] w wx → ∃ (p : Nat) (acc : List UInt8), Value.string (cur.extract a b) = .string (s.extract p s.size) ∧ p ≤ s.size ∧ acc.length ≤ 4 * p ∧ BldAt wx g acc ∧ acc ++ replF s (s.size - p) p = replS s ∧ Only [] w wx := by
          intro a b e1 e2 wx hB' hO'
          rw [e1, e2, ← hsz]
          refine ⟨p + sk, acc ++ outS s p, ?_, hsl, ?_, hB', ?_, hO'⟩
          · rw [Hcur.out, ext_ext s p sk hsl]
          · have := out_le s p
            rw [List.length_append]; omega
          · rw [← Hq.out, Hstep.out, ← Hsk.out, List.append_assoc]
        have hmc' : m ≤ cur.size := by omega
        have hpre : ∀ k, 1 ≤ k → k ≤ cur.size → beginsGo (cur.extract 0 k) = decide (k ≤ beginsS s p) := by
          intro k h1 h2
          rw [Hcur.out]
          exact begins_pre s p k h1 (by omega)
        have hskb : bad = true → sk = if beginsS s p = 0 then 1 else beginsS s p := by
          intro h
          rw [Hsk.out, skipS, if_neg (by simp [hbadw h])]
        have hble := (begins_le s p hlt).1
        have Hfin := Lib.hid hfin
        clear hfin
        cases bad with
        | false =>
          have hmk' := hgood rfl
          go_wp2_with (fail)
          go_roundw
          case rel => exact Hfin.out _ _ (by omega) (by omega) _ hB3 hOw3
          case measure => show ByteArray.size _ < ByteArray.size _; simp [ByteArray.size_extract]; omega
        | true =>
          have hsk' := hskb rfl
          have hpm := hpre m hm1 hmc'
          have Hsk' := Lib.hid hsk'
          clear hgood hskb hsk'
          by_cases hmc : m < cur.size
          · have hpm1 := hpre (m + 1) (by omega) (by omega)
            have Hpm := Lib.hid hpm
            have Hpm1 := Lib.hid hpm1
            have Hpre := Lib.hid hpre
            clear hpm hpm1 hpre
            go_wp2_with (fail)
            refine (beginning_any _ _ hT3).mono ?_
            rintro e w4 ⟨rfl, hO4⟩
            rw [Hpm.out]
            have hB4 := hB3.only hO4
            have hOw4 := hOw3.trans hO4
            have hb4 := hb3.only hO4 (by simp)
            have hT4 := hT.only hOw4 (by simp) (by simp)
            by_cases hd1 : m ≤ beginsS s p
            · rw [decide_eq_true hd1]
              go_wp2_with (fail)
              refine (beginning_any _ _ hT4).mono ?_
              rintro e w5 ⟨rfl, hO5⟩
              have hB5 := hB4.only hO5
              have hOw5 := hOw4.trans hO5
              have hb5 := hb4.only hO5 (by simp)
              rw [Hpm1.out]
              by_cases hd2 : m + 1 ≤ beginsS s p
              · rw [decide_eq_true hd2]
                go_wp2_with (fail)
                go_roundw
                case rel => exact ⟨m + 1, by go_num, by omega, by have hsk' := Hsk'.out; (repeat' split at hsk') <;> omega, by simp, hB5, hb5, hOw5⟩
                case measure => simp [intOf]; have hsk' := Hsk'.out; (repeat' split at hsk') <;> omega
              · rw [decide_eq_false hd2]
                have hmk' : m = sk := by have hsk' := Hsk'.out; (repeat' split at hsk') <;> omega
                go_wp2_with (fail)
                go_roundw
                case rel => exact Hfin.out _ _ (by omega) (by omega) _ hB5 hOw5
                case measure => show ByteArray.size _ < ByteArray.size _; simp [ByteArray.size_extract]; omega
            · rw [decide_eq_false hd1]
              have hmk' : m = sk := by have hsk' := Hsk'.out; (repeat' split at hsk') <;> omega
              go_wp2_with (fail)
              go_roundw
              case rel => exact Hfin.out _ _ (by omega) (by omega) _ hB4 hOw4
              case measure => show ByteArray.size _ < ByteArray.size _; simp [ByteArray.size_extract]; omega
          · have hmk' : m = sk := by have hsk' := Hsk'.out; (repeat' split at hsk') <;> omega
            go_wp2_with (fail)
            go_roundw
            case rel => exact Hfin.out _ _ (by omega) (by omega) _ hB3 hOw3
            case measure => show ByteArray.size _ < ByteArray.size _; simp [ByteArray.size_extract]; omega
    · have hpe : p = s.size := by omega
      subst hpe
      have hz : (s.extract s.size s.size).size = 0 := by simp [ByteArray.size_extract]
      have hnil := str_nil _ hz
      obtain ⟨cur, hcur⟩ : ∃ c, c = s.extract s.size s.size := ⟨_, rfl⟩
      rw [← hcur] at hnil hz ⊢
      have Hcur := Lib.hid hcur
      have hacc2 : acc = replS s := by
        have h0 : replF s (s.size - s.size) s.size = [] := by rw [Nat.sub_self]; rfl
        have := Hq.out
        rw [h0, List.append_nil] at this
        exact this
      have Hacc := Lib.hid hacc2
      clear hcur hacc2
      go_wp2_with (fail)
      refine (string_any _ g acc hB w hO hgw).mono ?_
      rintro e w4 ⟨rfl, hO4⟩
      go_wp2_with (fail)
      go_ret
      exact ⟨by rw [HR.out, Hacc.out]; rfl, hO4⟩
theorem replace_any (s : ByteArray) (hs : s.size ≤ 1048576) (w : World) (hT : Tabs w) :
    Calls Tryd.prog 19 #[.string s] w fun e w' => e = .returned (.string ⟨(replS s).toArray⟩) ∧ Only [] w w' :=
  replace_any' s (by omega) w hT
end Go.Proofs.YteadcibbpbbehaaDoor
