/- model.words. -/
import Derived.Test.YtfnhdkabfkjodaaMd3
set_option linter.unusedVariables false
set_option linter.unusedSimpArgs false
namespace Go.Proofs.Ytfnhdkabfkjodaa
open Go.RowKit

/-- is the word on the list? -/
def inB (s : ByteArray) (l : List ByteArray) : Bool := (l.map fun t => t.data.toList).contains s.data.toList
theorem inB_iff (s : ByteArray) (l : List ByteArray) : inB s l = true ↔ s ∈ l := by
  unfold inB
  rw [List.contains_iff_mem, List.mem_map]
  constructor
  · rintro ⟨t, ht, e⟩
    have : t = s := by apply ByteArray.ext; exact Array.toList_inj.1 e
    rw [← this]; exact ht
  · intro h; exact ⟨s, h, rfl⟩
theorem inB_snoc (s t : ByteArray) (l : List ByteArray) : inB s (l ++ [t]) = (inB s l || decide (s.data.toList = t.data.toList)) := by
  unfold inB
  rw [List.map_append, Bool.eq_iff_iff]
  simp
/-- what is wrong with a word: its place, why -/
def wordsAt (seen : List ByteArray) (i : Nat) : List ByteArray → Nat × Nat
  | [] => (0, 0)
  | s :: r => if s.size < 2 ∨ 256 < s.size then (i, 21) else if inB s seen = true then (i, 22) else wordsAt (seen ++ [s]) (i + 1) r
def lgF (ws : List ByteArray) : Nat := ws.foldl (fun m s => max m s.size) 1
theorem lgF_snoc (ws : List ByteArray) (s : ByteArray) : lgF (ws ++ [s]) = max (lgF ws) s.size := by simp [lgF]
theorem take_snoc' {α : Type} {l : List α} {i : Nat} {x : α} (h : l[i]? = some x) : l.take (i + 1) = l.take i ++ [x] := by rw [List.take_add_one, h]; rfl
theorem drop_cons' {α : Type} {l : List α} {i : Nat} {x : α} (h : l[i]? = some x) : l.drop i = x :: l.drop (i + 1) := by
  obtain ⟨hl, e⟩ := List.getElem?_eq_some_iff.1 h
  rw [List.drop_eq_getElem_cons hl, e]

def WdRel (w : World) (g mp : Nat) (vs : List Value) (ws : List ByteArray) (i : Nat) (wr : World) : Prop :=
  (∃ fs, MapIs seenTy wr mp i fs ∧ ∀ s, (fs s).isSome = inB s (ws.take i)) ∧ Blk wr g 100 (vs ++ [.int .i64 (lgF (ws.take i) : Int)]) ∧ Only [g, mp] w wr ∧ wordsAt (ws.take i) i (ws.drop i) = wordsAt [] 0 ws ∧ lgF (ws.take i) ≤ 256
set_option maxRecDepth 100000 in
set_option maxHeartbeats 4000000 in
theorem words_any (w : World) (base g : Nat) (ws : List ByteArray) (ms : List Mg) (a b d : List Sp) (N : Nat) (f : Int × Int → Option (Nat × Int)) (v0 v1 v2 v3 v4 : Value) (tb mq : Nat) (hM : MdX w base g v0 v1 v2 v3 v4 tb mq ws ms a b d N f 1) (hws : ∀ s ∈ ws, s.size ≤ maxLen) :
    Calls Try.prog 48 #[.pointer (some ⟨g, 0, none⟩)] w fun e w' => e = .returned (.tuple #[.int .i64 ((wordsAt [] 0 ws).1 : Int), .int .i64 ((wordsAt [] 0 ws).2 : Int)]) ∧ Only [g] w w' ∧ ((wordsAt [] 0 ws).2 = 0 → MdX w' base g v0 v1 v2 v3 v4 tb mq ws ms a b d N f (lgF ws)) := by
  have hMs := hM.small
  obtain ⟨hb, h5, ht, hm, hmq, hg, -⟩ := hM
  obtain ⟨A, c, rfl, -, hR, hA⟩ := own_slice h5.o0
  have hs := hMs
  obtain ⟨T, hT⟩ : ∃ T, T = wordsAt [] 0 ws := ⟨_, rfl⟩
  obtain ⟨vs, hvs⟩ : ∃ vs : List Value, vs = [.slice A ws.length c, v1, v2, v3, v4, .pointer (some ⟨tb, 0, none⟩), .map (some mq)] := ⟨_, rfl⟩
  have hb' : Blk w g 100 (vs ++ [.int .i64 1]) := by rw [hvs]; exact hb
  obtain ⟨mp, hmp⟩ : ∃ mp, mp = w.heap.size := ⟨_, rfl⟩
  have hgm : g < mp := by rw [hmp]; exact hb.lt
  have hnew : MapIs seenTy (w.alloc (.map #[] 0)) mp 0 (fun _ => none) := MapIs.new seenTy w hmp.symm
  have hAg : ∀ ad, A = some ad → ad.block ≠ g ∧ ad.block ≠ mp := fun ad e => by
    obtain ⟨h1, h2⟩ := hA ad e
    have h3 := own_type h5.o0 h1 hb (by decide)
    have h4 := (own_lt h5.o0 h1).2
    exact ⟨fun h => h3 h.symm, by omega⟩
  obtain ⟨n, hn⟩ : ∃ n, n = ws.length := ⟨_, rfl⟩
  have hmm := @run_makeMap Try.prog
  have hO0 : Only [g, mp] w (w.alloc (.map #[] 0)) := (Only.refl _ _).alloc _
  have H0 : WdRel w g mp vs ws 0 (w.alloc (.map #[] 0)) := ⟨⟨_, hnew, fun s => rfl⟩, hb'.alloc _, hO0, by simp, by simp [lgF]⟩
  rw [← hT]
  have c0 : w.cell? ⟨g, 0, none⟩ = some (.slice A ws.length c) := hb.cell 0
  rw [← hn] at c0 hR
  have c0 := ((Only.refl [] w).alloc (.map #[] 0)).cellv c0 (by simp)
  have HR := Lib.hid hR
  have HT := Lib.hid hT
  have Hvs := Lib.hid hvs
  have Hn := Lib.hid hn
  have HA := Lib.hid hAg
  have Hmp := Lib.hid hmp
  have hwz : w.heap.size ≤ mp := by omega
  have Hb := Lib.hid hb
  have H5 := Lib.hid h5
  have Ht := Lib.hid ht
  have Hm := Lib.hid hm
  have Hsm := Lib.hid hs
  have Hws := Lib.hid hws
  have hn4 : n ≤ 4096 := by rw [hn]; exact hs.1
  have HH0 := Lib.hid H0
  clear hb hb' h5 ht hm hR hA hs hT hMs hvs hnew hAg hn hO0 H0 hmp hws
  go_enter Try.func48, Try.ntmps48
  go_wp2_with (fail)
  rw [← Hmp.out]
  go_loopw [5, 6, 7, 8, 16] (fun _ _ _ _ v16 wr => ∃ i : Nat, v16 = .int .i64 (i : Int) ∧ i ≤ n ∧ WdRel w g mp vs ws i wr) (fun _ _ _ _ v16 _ => n - (intOf v16).toNat)
  case atStart => exact ⟨0, rfl, by omega, HH0.out⟩
  case round =>
    obtain ⟨i, rfl, hi, hrel⟩ := hrel
    by_cases hlt : i < n
    · obtain ⟨⟨fs, hmap, hfs⟩, hbm, hO, hw, hlg⟩ := hrel
      obtain ⟨s, hsi⟩ : ∃ s, ws[i]? = some s := ⟨_, List.getElem?_eq_getElem (by rw [← Hn.out]; exact hlt)⟩
      obtain ⟨gw, ow, rfl, _, q⟩ := (HR.out.only' hO (fun ad e _ hm => by have := HA.out ad e; simp at hm; omega)).wd hsi
      have hsz := Hws.out s (List.mem_of_getElem? hsi)
      have hdr := drop_cons' hsi
      have htk := take_snoc' hsi
      have hfss := hfs s
      have hlook : (Instr.lookup 126 (.map (some mp)) (.string s) true).run Try.prog wr = .ok (.tuple #[.int .i64 ((fs s).getD 0), .bool (fs s).isSome]) wr := hmap.look (a := s) hsz
      rw [hfss] at hlook
      obtain ⟨x, hx⟩ : ∃ x, x = (fs s).getD 0 := ⟨_, rfl⟩
      rw [← hx] at hlook
      rw [hdr, wordsAt] at hw
      unfold maxLen at hsz
      obtain ⟨lg, hlge⟩ : ∃ lg, lg = lgF (ws.take i) := ⟨_, rfl⟩
      rw [← hlge] at hbm hlg
      have cl : wr.cell? ⟨g, 7, none⟩ = some (.int .i64 (lg : Int)) := by rw [Hvs.out] at hbm; exact hbm.cell 7
      have Hw := Lib.hid hw
      have Hsi := Lib.hid hsi
      have Htk := Lib.hid htk
      have Hx := Lib.hid hx
      have Hlg := Lib.hid hlge
      have Hmap := Lib.hid hmap
      have Hfs := Lib.hid hfs
      clear hw hsi hdr htk hx hlge hmap hfs hfss
      by_cases h2 : s.size < 2
      · clear hlook
        have h2' : decide (s.size < 2) = true := decide_eq_true h2
        have hT2 : T = (i, 21) := by rw [HT.out, ← Hw.out, if_pos (.inl h2)]
        have HT2 := Lib.hid hT2
        clear hT2
        go_wp2_with (fail)
        go_ret2
        exact ⟨by rw [HT2.out]; rfl, hO.mono (by simp; omega), fun h => by rw [HT2.out] at h; cases h⟩
      · by_cases h3 : 256 < s.size
        · clear hlook
          have h3' : decide (256 < s.size) = true := decide_eq_true h3
          have hT2 : T = (i, 21) := by rw [HT.out, ← Hw.out, if_pos (.inr h3)]
          have HT2 := Lib.hid hT2
          clear hT2
          go_wp2_with (fail)
          go_ret2
          exact ⟨by rw [HT2.out]; rfl, hO.mono (by simp; omega), fun h => by rw [HT2.out] at h; cases h⟩
        · cases hin : inB s (ws.take i) with
          | true =>
            rw [hin] at hlook
            have hT2 : T = (i, 22) := by rw [HT.out, ← Hw.out, if_neg (by omega), if_pos hin]
            have HT2 := Lib.hid hT2
            clear hT2 hin
            go_wp2_with (fail)
            go_ret2
            exact ⟨by rw [HT2.out]; rfl, hO.mono (by simp; omega), fun h => by rw [HT2.out] at h; cases h⟩
          | false =>
            rw [hin] at hlook
            obtain ⟨w', hrun, hO', hst⟩ := Hmap.out.store (a := s) (by unfold seenTy maxLen; exact hsz) (i : Int) (by unfold maxLen; omega)
            have hrun : (Instr.mapUpdate 126 (.map (some mp)) (.string s) (.int .i64 (i : Int))).run Try.prog wr = .ok () w' := hrun
            have hbm2 := hbm.only hO' (by simp; omega)
            have cl2 : w'.cell? ⟨g, 7, none⟩ = some (.int .i64 (lg : Int)) := by rw [Hvs.out] at hbm2; exact hbm2.cell 7
            have fl2 : w'.frozen? ⟨g, 7, none⟩ = false := hbm2.frozen 7
            have hmax : ∀ W, (Builtin.max_ #[3, 3] 3 #[.int .i64 (lg : Int), .int .i64 (s.size : Int)]).run Try.prog W = .ok (.int .i64 ((max lg s.size : Nat) : Int)) W := fun W => by
              rw [run_max_int2]; congr 2; split <;> omega
            have Hin := Lib.hid hin
            have Hst := Lib.hid hst
            have hOn : Only [g, mp] w (w'.setCell ⟨g, 7, none⟩ (.int .i64 ((max lg s.size : Nat) : Int))) := (hO.trans (hO'.mono (by simp))).setCell (.inl (by simp)) _
            have hbn : Blk (w'.setCell ⟨g, 7, none⟩ (.int .i64 ((max lg s.size : Nat) : Int))) g 100 (vs ++ [.int .i64 ((max lg s.size : Nat) : Int)]) := by
              have h := hbm2.set 7 (.int .i64 ((max lg s.size : Nat) : Int))
              rw [Hvs.out] at h ⊢
              exact h
            have hmn : ∀ gf : ByteArray → Option Int, gf s = some (i : Int) → (∀ a', a' ≠ s → gf a' = fs a') → MapIs seenTy (w'.setCell ⟨g, 7, none⟩ (.int .i64 ((max lg s.size : Nat) : Int))) mp (i + 1) gf := fun gf h1 h2 => (hst gf h1 h2).only (l := [g]) ((Only.refl [g] _).setCell (.inl (by simp)) _) (by simp; omega)
            have Hmn := Lib.hid hmn
            have Hbn := Lib.hid hbn
            have HOn := Lib.hid hOn
            clear hin hst hmn hbn hOn hO' hbm2
            go_wp2_with (fail)
            refine ⟨⟨i + 1, by go_num, by omega, ⟨⟨fun t => if t.data.toList = s.data.toList then some (i : Int) else fs t, Hmn.out _ (if_pos rfl) (fun a' ha' => if_neg (fun e => ha' (by apply ByteArray.ext; exact Array.toList_inj.1 e))), fun t => ?_⟩, ?_, HOn.out, ?_, ?_⟩⟩, by simp [intOf]; omega⟩
            · show (if t.data.toList = s.data.toList then some (i : Int) else fs t).isSome = inB t (ws.take (i + 1))
              rw [Htk.out, inB_snoc]
              by_cases ht : t.data.toList = s.data.toList
              · rw [if_pos ht, decide_eq_true ht, Bool.or_true]; rfl
              · rw [if_neg ht, decide_eq_false ht, Bool.or_false]; exact Hfs.out t
            · rw [Htk.out, lgF_snoc, ← Hlg.out]; exact Hbn.out
            · rw [Htk.out, ← Hw.out, if_neg (by omega), if_neg (by rw [Hin.out]; simp)]
            · rw [Htk.out, lgF_snoc, ← Hlg.out]; omega
    · obtain rfl : i = n := by omega
      obtain ⟨-, hbm, hO, hw, -⟩ := hrel
      have htk : ws.take i = ws := List.take_of_length_le (by rw [← Hn.out]; exact Nat.le_refl _)
      have hdr : ws.drop i = [] := List.drop_of_length_le (by rw [← Hn.out]; exact Nat.le_refl _)
      rw [hdr, wordsAt] at hw
      rw [htk] at hbm
      have hT2 : T = (0, 0) := by rw [HT.out, ← hw]
      have HT2 := Lib.hid hT2
      have Hbm := Lib.hid hbm
      clear hT2 hw htk hdr hbm
      go_wp2_with (fail)
      go_ret2
      have hO1 : Only [g] w wr := hO.mono (by simp; omega)
      refine ⟨by rw [HT2.out]; rfl, hO1, fun _ => ?_⟩
      have hb7 := Hbm.out
      rw [Hvs.out] at hb7
      exact ⟨hb7, H5.out.only hO1 (fun x hx => .inr (by
        obtain rfl : x = g := by simpa using hx
        exact ⟨_, _, .inl ⟨Hb.out, by decide, by decide, by decide⟩⟩)), Ht.out.only hO1 (fun x hx => .inr (by simp at hx; omega)), Hm.out.only hO1 (by simp; omega), hmq, hg, Hsm.out⟩
end Go.Proofs.Ytfnhdkabfkjodaa
