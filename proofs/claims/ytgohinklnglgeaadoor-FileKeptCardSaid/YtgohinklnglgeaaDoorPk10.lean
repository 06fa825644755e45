/- Several texts in one: model.pairs.; model.New.; Chapter 6: what a file says, plain: rounds, the parse, the refusal.; Chapter 6's reader: data: lemmas.; Chapter 6's reader: place.; The document's answer for chapter 5: a word; an id that is made; the longest; a merge.; The document's answer for chapter 5: what is wrong with a word.; The document's answer for chapter 5: what is wrong with a merge. -/
import Derived.Test.YtgohinklnglgeaaDoorPk9
import Derived.WalkHide
import Derived.Deep.RegionHeld3
import Derived.Test.YtgohinklnglgeaaDoorPk7
import Derived.Test.YtgohinklnglgeaaDoorPk8
import Derived.Test.YtgohinklnglgeaaDoorPk2
import Derived.Test.YtgohinklnglgeaaDoorApStepK
import Derived.Deep.RegionLaw
import Derived.Deep.DeepCutAuto
import Derived.Deep.CutBlock
set_option linter.unusedVariables false
set_option linter.unusedSimpArgs false
namespace Go.Proofs.YtgohinklnglgeaaDoor
open Go.RowKit

theorem own_rd' {w : World} {base : Nat} {e : TypeId} {size n c : Nat} {A : Option Addr} {xs : List Value} (h : w.ownsRow base e size (.slice A n c) n xs) : n ≤ c ∧ Rd w w.heap.size size A n xs := by
  obtain ⟨A', c', e, h1, h2, _⟩ := own_slice h
  injection e with e1 _ e2
  subst e1 e2
  exact ⟨h1, h2⟩
def PrRel (w : World) (base g : Nat) (v0 v1 v2 v3 v4 : Value) (tb mq : Nat) (ws : List ByteArray) (ms : List Mg) (a b d : List Sp) (lg bx b4 bm n i : Nat) (wr : World) : Prop :=
  MdX wr base g v0 v1 v2 v3 v4 tb mq ws ms a b d i (lookM 0 (ms.take i)) lg ∧ (∃ mk, MadeAt wr (bm + 1) (some ⟨bm, 0, none⟩) n (idsOf (ms.take i)) mk ∧ Blk wr bm 4 (mk.map Value.bool)) ∧
    Blk wr bx 25 [.pointer (some ⟨g, 0, none⟩)] ∧ Blk wr b4 144 [.slice (some ⟨bm, 0, none⟩) n n] ∧ Only [mq] w wr ∧ pairsAt ws (ms.take i) i (ms.drop i) = pairsAt ws [] 0 ms

theorem MapIs.there {P : Program} {α β : Type} {M : MapTy P α β} {w : World} {b N : Nat} {f : α → Option β} (h : MapIs M w b N f) : ∃ es cl, w.heap[b]? = some (.map es cl) := by
  obtain ⟨D, ⟨es, cl, h1, _⟩, _⟩ := h
  exact ⟨es, cl, h1⟩
/-- a merge more -/
theorem MdX.more {w w' : World} {base g : Nat} {v0 v1 v2 v3 v4 : Value} {tb mq : Nat} {ws : List ByteArray} {ms : List Mg} {a b d : List Sp} {N N' : Nat} {f f' : Int × Int → Option (Nat × Int)} {lg : Nat} (h : MdX w base g v0 v1 v2 v3 v4 tb mq ws ms a b d N f lg) (hO : Only [mq] w w') (hm : MapIs pairTy w' mq N' f') : MdX w' base g v0 v1 v2 v3 v4 tb mq ws ms a b d N' f' lg := by
  have hg := h.hg
  refine ⟨h.blk.only hO (by simp; omega), h.own.only hO (fun x hx => .inr ?_), h.tab.only hO (fun x hx => .inr (by simp at hx; omega)), hm, h.hb, h.hg, h.small⟩
  obtain rfl : x = mq := by simpa using hx
  exact ⟨0, [], .inr h.map.there⟩
theorem MadeAt.put {w w' : World} {bm n : Nat} {ids : List Int} {mk : List Bool} (h : MadeAt w (bm + 1) (some ⟨bm, 0, none⟩) n ids mk) {j : Nat} (hj : j < n) {mid : Int} (hm : (256 : Int) + (j : Int) = mid) (hb : Blk w' bm 4 ((mk.set j true).map Value.bool)) : MadeAt w' (bm + 1) (some ⟨bm, 0, none⟩) n (ids ++ [mid]) (mk.set j true) := by
  have hl := h.len
  refine ⟨Rd.whole (size := 1) (n := n) hb (by simp [hl]), by simp [hl], fun k hk => ?_, fun x hx => ?_⟩
  · by_cases e : j = k
    · subst e
      rw [List.getElem?_set_self (by omega), ← hm]
      simp
    · rw [List.getElem?_set_ne e, h.is_ k hk]
      have hne : ¬ (256 + (k : Int) = mid) := by omega
      simp [hne]
  · rcases List.mem_append.1 hx with hx | hx
    · exact h.rng x hx
    · have : x = mid := by simpa using hx
      omega
set_option maxRecDepth 100000 in
set_option maxHeartbeats 8000000 in
theorem pairs_any (w : World) (base g : Nat) (ws : List ByteArray) (ms : List Mg) (a b d : List Sp) (lg : Nat) (v0 v1 v2 v3 v4 : Value) (tb mq : Nat) (hM : MdX w base g v0 v1 v2 v3 v4 tb mq ws ms a b d 0 (fun _ => none) lg) (hws : ∀ s ∈ ws, s.size ≤ 256) (hms : ∀ m ∈ ms, m.ok) (hln : ws.length = ms.length) :
    Calls Tryd.prog 61 #[.pointer (some ⟨g, 0, none⟩)] w fun e w' => e = .returned (.tuple #[.int .i64 ((pairsAt ws [] 0 ms).1 : Int), .int .i64 ((pairsAt ws [] 0 ms).2 : Int)]) ∧ Only [mq] w w' ∧ ((pairsAt ws [] 0 ms).2 = 0 → MdX w' base g v0 v1 v2 v3 v4 tb mq ws ms a b d ms.length (lookM 0 ms) lg) := by
  obtain ⟨T, hT⟩ : ∃ T, T = pairsAt ws [] 0 ms := ⟨_, rfl⟩
  obtain ⟨A, c, rfl, -, -, hA⟩ := own_slice hM.own.o0
  obtain ⟨A1, c1, rfl, -, -, -⟩ := own_slice hM.own.o1
  obtain ⟨n, hn⟩ : ∃ n, n = ws.length := ⟨_, rfl⟩
  obtain ⟨nm, hnm⟩ : ∃ nm, nm = ms.length := ⟨_, rfl⟩
  have hn4 : n ≤ 4096 := by rw [hn]; exact hM.small.1
  have hnm4 : nm ≤ 4096 := by rw [hnm]; exact hM.small.2.1
  obtain ⟨bx, hbx⟩ : ∃ bx, bx = w.heap.size := ⟨_, rfl⟩
  have hgx : g < bx := by rw [hbx]; exact hM.blk.lt
  have hmk := fun W => run_make_rep1 (P := Tryd.prog) 144 4 (.bool false) 1 Tryd.underlying144 (by kernel_rfl) rfl .i64 .i64 n n (Nat.le_refl _) (by omega) (by omega) W
  have cw : (w.alloc (.cells #[.pointer (some ⟨g, 0, none⟩)] 25)).cell? ⟨g, 0, none⟩ = some (.slice A n c) := by rw [hn]; exact (hM.blk.alloc _).cell 0
  obtain ⟨w2, hw2⟩ : ∃ w2, w2 = ((w.alloc (.cells #[.pointer (some ⟨g, 0, none⟩)] 25)).alloc (.cells (Array.replicate n (Value.bool false)) 4)).alloc (.cells #[.slice (some ⟨bx + 1, 0, none⟩) n n] 144) := ⟨_, rfl⟩
  have hb1 : Blk w2 bx 25 [.pointer (some ⟨g, 0, none⟩)] := by rw [hw2]; exact ((Blk.new' _ _ _ hbx.symm rfl).alloc _).alloc _
  have hb2 : Blk w2 (bx + 1) 4 ((List.replicate n false).map Value.bool) := by rw [hw2]; exact (Blk.new' _ _ _ (by simp; omega) (by simp)).alloc _
  have hb3 : Blk w2 (bx + 1 + 1) 144 [.slice (some ⟨bx + 1, 0, none⟩) n n] := by rw [hw2]; exact Blk.new' _ _ _ (by simp; omega) rfl
  have hO2 : Only [] w w2 := by rw [hw2]; exact (((Only.refl _ _).alloc _).alloc _).alloc _
  have H0 : PrRel w base g (.slice A ws.length c) (.slice A1 ms.length c1) v2 v3 v4 tb mq ws ms a b d lg bx (bx + 1 + 1) (bx + 1) n 0 w2 := by
    refine ⟨hM.only0 hO2, ⟨List.replicate n false, ⟨?_, by simp, fun j hj => by simp [hj, idsOf], by simp [idsOf]⟩, hb2⟩, hb1, hb3, hO2.mono (by simp), rfl⟩
    exact (Rd.whole (size := 1) (n := n) hb2 (by simp)).more (Nat.le_refl _)
  have cm : w2.cell? ⟨g, 1, none⟩ = some (.slice A1 nm c1) := by rw [hnm]; exact (hM.only0 hO2).blk.cell 1
  have cx : w2.cell? ⟨bx, 0, none⟩ = some (.pointer (some ⟨g, 0, none⟩)) := hb1.cell 0
  rw [← hT]
  have HT := Lib.hid hT
  have Hn := Lib.hid hn
  have Hnm := Lib.hid hnm
  have Hbx := Lib.hid hbx
  have Hw2 := Lib.hid hw2
  have HH0 := Lib.hid H0
  have hwx : w.heap.size ≤ bx := by omega
  have Hws := Lib.hid hws
  have Hms := Lib.hid hms
  have Hln := Lib.hid hln
  have hmqw : mq < g := hM.hg
  clear hT hn hnm hbx hw2 hb1 hb2 hb3 hO2 H0 hM hA hws hms hln
  go_enter Tryd.func61, Tryd.ntmps61
  go_upto_region 2 with (fail)
  rw [← Hbx.out, ← Hw2.out]
  go_wp2_with (fail)
  go_loopw [6, 7, 8, 9, 10, 11, 12, 13, 14, 29] (fun _ _ _ _ _ _ _ _ _ v29 wr => ∃ i : Nat, v29 = .int .i64 (i : Int) ∧ i ≤ nm ∧ PrRel w base g (.slice A ws.length c) (.slice A1 ms.length c1) v2 v3 v4 tb mq ws ms a b d lg bx (bx + 1 + 1) (bx + 1) n i wr) (fun _ _ _ _ _ _ _ _ _ v29 _ => nm - (intOf v29).toNat)
  case atStart => exact ⟨0, rfl, by omega, HH0.out⟩
  case round =>
    obtain ⟨i, rfl, hi, hrel⟩ := hrel
    by_cases hlt : i < nm
    · obtain ⟨hX, ⟨mk, hmk, hbm⟩, hbx, hb4, hO, hw⟩ := hrel
      obtain ⟨m, hmi⟩ : ∃ m, ms[i]? = some m := ⟨_, List.getElem?_eq_getElem (by rw [← Hnm.out]; exact hlt)⟩
      obtain ⟨hok1, hok2, hok3⟩ := Hms.out m (List.mem_of_getElem? hmi)
      have hdr := drop_cons' hmi
      have htk := take_snoc' hmi
      rw [hdr, pairsAt] at hw
      obtain ⟨g1, o1, rfl, _, q0, q1, q2⟩ := (own_rd' hX.own.o1).2.mg hmi
      obtain ⟨done, hdone⟩ : ∃ done, done = ms.take i := ⟨_, rfl⟩
      rw [← hdone] at hX hmk hw htk
      have hdl : done.length = i := by rw [hdone, List.length_take]; have := Hnm.out; omega
      obtain ⟨ml, mr, mid⟩ := m
      simp only at q0 q1 q2 hok1 hok2 hok3 hw
      have hsz := hX.blk.lt
      have hbxl := hbx.lt
      have hb4l := hb4.lt
      obtain ⟨W, hW⟩ : ∃ W, W = (wr.alloc (.cells #[.int .i64 ml, .int .i64 mr, .int .i64 mid] 75)).alloc (.cells #[.int .i64 ml, .int .i64 mr] 146) := ⟨_, rfl⟩
      obtain ⟨hx, hhx⟩ : ∃ hx, hx = wr.heap.size := ⟨_, rfl⟩
      have bx1 : Blk W hx 75 [.int .i64 ml, .int .i64 mr, .int .i64 mid] := by rw [hW]; exact (Blk.new' _ _ _ hhx.symm rfl).alloc _
      have bx2 : Blk W (hx + 1) 146 [.int .i64 ml, .int .i64 mr] := by rw [hW]; exact Blk.new' _ _ _ (by simp; omega) rfl
      have hOW : Only [] wr W := by rw [hW]; exact ((Only.refl _ _).alloc _).alloc _
      have Hw := Lib.hid hw
      have Hmi := Lib.hid hmi
      have Htk := Lib.hid htk
      have Hdone := Lib.hid hdone
      have Hdl := Lib.hid hdl
      have HW := Lib.hid hW
      have Hhx := Lib.hid hhx
      have HX := Lib.hid (hX.only0 hOW)
      have Hmk := Lib.hid (hmk.only hOW (by simp))
      have Hbm := Lib.hid (hbm.only hOW (by simp))
      have Hbx := Lib.hid (hbx.only hOW (by simp))
      have Hb4 := Lib.hid (hb4.only hOW (by simp))
      have HO := Lib.hid (hO.trans0 hOW)
      have hwxr : w.heap.size ≤ hx := by rw [hhx]; exact hO.size
      have hbxh : bx + 1 + 1 < hx := by omega
      clear hw hmi htk hdone hdl hdr hX hmk hbm hbx hb4 hO hW hhx
      go_upto_region 7 with (fail)
      rw [← Hhx.out, ← HW.out]
      have e0 : W.cell? ⟨hx, 0, none⟩ = some (.int .i64 ml) := bx1.cell 0
      have e1 : W.cell? ⟨hx, 1, none⟩ = some (.int .i64 mr) := bx1.cell 1
      have e2 : W.cell? ⟨hx, 2, none⟩ = some (.int .i64 mid) := bx1.cell 2
      have e3 : W.cell? ⟨hx + 1, 0, none⟩ = some (.int .i64 ml) := bx2.cell 0
      have e4 : W.cell? ⟨hx + 1, 1, none⟩ = some (.int .i64 mr) := bx2.cell 1
      have e5 : W.cell? ⟨bx, 0, none⟩ = some (.pointer (some ⟨g, 0, none⟩)) := Hbx.out.cell 0
      have e6 : W.cell? ⟨bx + 1 + 1, 0, none⟩ = some (.slice (some ⟨bx + 1, 0, none⟩) n n) := Hb4.out.cell 0
      have Bx1 := Lib.hid bx1
      have Bx2 := Lib.hid bx2
      have hszc := fun W' (h : Only [] W W') => size_any W' base g ws ms a b d i (lookM 0 done) lg (HX.out.only0 h).at_
      obtain ⟨sz, hsz2⟩ : ∃ sz, sz = 256 + ws.length := ⟨_, rfl⟩
      rw [← hsz2] at hszc
      have Hs2 := Lib.hid hsz2
      have Hszc := Lib.hid hszc
      have hszn : sz = 256 + n := by rw [hsz2, Hn.out]
      unfold i64ok at hok1 hok2 hok3
      have Hret : ∀ (k : Nat) (W' : World), Only [] W W' → T = (i, k) → k ≠ 0 → Only [mq] w W' ∧ (T.2 = 0 → MdX W' base g (.slice A ws.length c) (.slice (some ⟨g1, o1, none⟩) ms.length c1) v2 v3 v4 tb mq ws ms a b d ms.length (lookM 0 ms) lg) := fun k W' h e hk => ⟨HO.out.trans0 h, fun h0 => by rw [e] at h0; exact absurd h0 hk⟩
      have HRet := Lib.hid Hret
      clear bx1 bx2 hszc hsz2 Hret
      by_cases h1 : mid < 256
      · have hb : badId ws done mid = true := by unfold badId; rw [decide_eq_true (.inl h1)]; rfl
        have hT2 : T = (i, 24) := by rw [HT.out, ← Hw.out, if_pos hb]
        have HT2 := Lib.hid hT2
        have h1' : decide (mid < 256) = true := decide_eq_true h1
        clear hb hT2
        go_quiet (fail)
        go_wp2_with (fail)
        go_ret2
        exact ⟨by rw [HT2.out]; rfl, HRet.out 24 _ ((Only.refl _ _).drewN _) HT2.out (by omega)⟩
      · have h1' : decide (mid < 256) = false := decide_eq_false h1
        by_cases h2 : (sz : Int) ≤ mid
        · have h2' : decide ((sz : Int) ≤ mid) = true := decide_eq_true h2
          have hb : badId ws done mid = true := by unfold badId; rw [decide_eq_true (.inr (by have := Hs2.out; omega))]; rfl
          have hT2 : T = (i, 24) := by rw [HT.out, ← Hw.out, if_pos hb]
          have HT2 := Lib.hid hT2
          clear hb hT2 hszn
          go_quiet ((go_at_call 40; exact Calls.quiet_of_same ((Hszc.out _ (by first | exact Only.refl _ _ | exact (Only.refl _ _).drewN _ | exact Only.drew (Only.refl _ _))).mono fun e w' h => ⟨h.1, h.2.symm⟩)))
          go_wp2_with (fail)
          go_ret2
          exact ⟨by rw [HT2.out]; rfl, HRet.out 24 _ ((Only.refl _ _).drewN _) HT2.out (by omega)⟩
        · have h2' : decide ((sz : Int) ≤ mid) = false := decide_eq_false h2
          obtain ⟨j, hj⟩ : ∃ j : Nat, mid - 256 = (j : Int) := ⟨(mid - 256).toNat, by omega⟩
          have hjn : j < n := by omega
          obtain ⟨gm, om, hgm, q⟩ := Hmk.out.cell hjn
          injection hgm with hgm
          injection hgm with hgm1 hgm2
          subst hgm1 hgm2
          have hje : (256 : Int) + (j : Int) = mid := by omega
          rw [hje, Nat.zero_add] at q
          have hbI : badId ws done mid = (idsOf done).contains mid := by unfold badId; rw [decide_eq_false (by have := Hs2.out; omega), Bool.false_or]
          obtain ⟨C, hC⟩ : ∃ C, C = (idsOf done).contains mid := ⟨_, rfl⟩
          rw [← hC] at q hbI
          have HbI := Lib.hid hbI
          have HC := Lib.hid hC
          have hwr : IntKind.i64.wrap (mid - 256) = (j : Int) := by rw [hj]; exact IntWalk.i64_in _ (by omega)
          have hj0 : (0 : Int) ≤ (j : Int) := by omega
          have hjn' : (j : Int) < (n : Int) := by omega
          clear hbI hC hje hszn
          cases C with
          | true =>
            have hT2 : T = (i, 24) := by rw [HT.out, ← Hw.out, if_pos HbI.out]
            have HT2 := Lib.hid hT2
            clear hT2
            go_quiet ((go_at_call 40; exact Calls.quiet_of_same ((Hszc.out _ (by first | exact Only.refl _ _ | exact (Only.refl _ _).drewN _ | exact Only.drew (Only.refl _ _))).mono fun e w' h => ⟨h.1, h.2.symm⟩)))
            go_wp2_with (fail)
            go_ret2
            exact ⟨by rw [HT2.out]; rfl, HRet.out 24 _ ((Only.refl _ _).drewN _) HT2.out (by omega)⟩
          | false =>
            go_quiet ((go_at_call 40; exact Calls.quiet_of_same ((Hszc.out _ (by first | exact Only.refl _ _ | exact (Only.refl _ _).drewN _ | exact Only.drew (Only.refl _ _))).mono fun e w' h => ⟨h.1, h.2.symm⟩)))
            go_wp2_with (fail)
            refine name_it (p := fun y => Calls _ _ _ y _) ?_
            intro W1 H1
            have hO1 : Only [] W W1 := by rw [H1.out]; exact (Only.refl _ _).drewN _
            have hbad : badId ws done mid = false := HbI.out
            have hw1 := Hw.out
            rw [if_neg (by rw [hbad]; simp)] at hw1
            have Hw1 := Lib.hid hw1
            clear hw1 hbad h1' h2' hwr H1 q e0 e1 e2 e3 e4 e5 e6
            have X1 := HX.out.only0 hO1
            have K1 := Hmk.out.only hO1 (by simp)
            have bb1 := Hbx.out.only hO1 (by simp)
            have b41 := Hb4.out.only hO1 (by simp)
            have bx1 := Bx1.out.only hO1 (by simp)
            have bx2 := Bx2.out.only hO1 (by simp)
            have hpt := part_any W1 base g ws ms a b d i (lookM 0 done) lg X1.at_ bx (bx + 1 + 1) (some ⟨bx + 1, 0, none⟩) n (bx + 1 + 1) n (idsOf done) mk Hn.out (bb1.cell 0) (b41.cell 0) K1
            have Hpt := Lib.hid hpt
            have e0 : W1.cell? ⟨hx, 0, none⟩ = some (.int .i64 ml) := bx1.cell 0
            have e1 : W1.cell? ⟨hx, 1, none⟩ = some (.int .i64 mr) := bx1.cell 1
            have e2 : W1.cell? ⟨hx, 2, none⟩ = some (.int .i64 mid) := bx1.cell 2
            have e5 : W1.cell? ⟨bx, 0, none⟩ = some (.pointer (some ⟨g, 0, none⟩)) := bb1.cell 0
            have X1 := Lib.hid X1
            have K1 := Lib.hid K1
            clear hpt bb1 b41 bx1 bx2
            refine (Hpt.out ml hok1).mono ?_
            rintro e w5 ⟨rfl, rfl⟩
            obtain ⟨pl, hpl⟩ : ∃ p, p = partB (idsOf done) ml := ⟨_, rfl⟩
            obtain ⟨pr, hpr⟩ : ∃ p, p = partB (idsOf done) mr := ⟨_, rfl⟩
            rw [← hpl]
            have hw1 := Hw1.out
            rw [← hpl, ← hpr] at hw1
            have Hw2 := Lib.hid hw1
            have Hpl := Lib.hid hpl
            have Hpr := Lib.hid hpr
            clear hpl hpr hw1
            cases pl with
            | false =>
              have hT2 : T = (i, 23) := by rw [HT.out, ← Hw2.out, if_pos (by simp)]
              have HT2 := Lib.hid hT2
              clear hT2
              go_wp2_with (fail)
              go_ret2
              exact ⟨by rw [HT2.out]; rfl, HRet.out 23 _ hO1 HT2.out (by omega)⟩
            | true =>
              go_wp2_with (fail)
              refine (Hpt.out mr hok2).mono ?_
              rintro e w5 ⟨rfl, rfl⟩
              rw [← Hpr.out]
              cases pr with
              | false =>
                have hT2 : T = (i, 23) := by rw [HT.out, ← Hw2.out, if_pos (by simp)]
                have HT2 := Lib.hid hT2
                clear hT2
                go_wp2_with (fail)
                go_ret2
                exact ⟨by rw [HT2.out]; rfl, HRet.out 23 _ hO1 HT2.out (by omega)⟩
              | true =>
                have hw1 := Hw2.out
                rw [if_neg (by simp)] at hw1
                have Hw3 := Lib.hid hw1
                clear hw1 Hpt
                go_wp2_with (fail)
                refine (word_any W1 base g ws ms a b d i (lookM 0 done) lg X1.out.at_ ml hok1).mono ?_
                rintro e W2 ⟨rfl, hO2⟩
                have hO2 := hO1.trans hO2
                obtain ⟨sl, hsl⟩ : ∃ s, s = wordB ws ml := ⟨_, rfl⟩
                obtain ⟨sr, hsr⟩ : ∃ s, s = wordB ws mr := ⟨_, rfl⟩
                rw [← hsl]
                have Hsl := Lib.hid hsl
                have Hsr := Lib.hid hsr
                clear hsl hsr e0 e1 e2 e5 X1 K1
                have X2 := HX.out.only0 hO2
                have bx1 := Bx1.out.only hO2 (by simp)
                have e1 : W2.cell? ⟨hx, 1, none⟩ = some (.int .i64 mr) := bx1.cell 1
                have e5 : W2.cell? ⟨bx, 0, none⟩ = some (.pointer (some ⟨g, 0, none⟩)) := (Hbx.out.only hO2 (by simp)).cell 0
                have X2 := Lib.hid X2
                clear bx1
                go_wp2_with (fail)
                refine (word_any W2 base g ws ms a b d i (lookM 0 done) lg X2.out.at_ mr hok2).mono ?_
                rintro e W3 ⟨rfl, hO3⟩
                have hO3 := hO2.trans hO3
                rw [← Hsr.out]
                clear e1 e5 X2
                have X3 := HX.out.only0 hO3
                have bx1 := Bx1.out.only hO3 (by simp)
                have e2 : W3.cell? ⟨hx, 2, none⟩ = some (.int .i64 mid) := bx1.cell 2
                have e5 : W3.cell? ⟨bx, 0, none⟩ = some (.pointer (some ⟨g, 0, none⟩)) := (Hbx.out.only hO3 (by simp)).cell 0
                have e6 : W3.cell? ⟨g, 0, none⟩ = some (.slice A n c) := by have h := X3.blk.cell 0; rw [← Hn.out] at h; exact h
                obtain ⟨s, hsj⟩ : ∃ s, ws[j]? = some s := ⟨_, List.getElem?_eq_getElem (by rw [← Hn.out]; exact hjn)⟩
                obtain ⟨g0, o0, rfl, _, q⟩ := (own_rd' X3.own.o0).2.wd hsj
                have hwm : wordB ws mid = s := by
                  unfold wordB
                  rw [if_neg (by omega), if_pos ⟨by omega, by have := Hs2.out; omega⟩, hj, Int.toNat_natCast, List.getD_eq_getElem?_getD, hsj]; rfl
                have hwr : IntKind.i64.wrap (mid - 256) = (j : Int) := by rw [hj]; exact IntWalk.i64_in _ (by omega)
                have z1 : sl.size ≤ 256 := by rw [Hsl.out]; exact wordB_size Hws.out ml
                have z2 : sr.size ≤ 256 := by rw [Hsr.out]; exact wordB_size Hws.out mr
                have had : ¬ (9223372036854775807 < sl.size + sr.size) := by omega
                obtain ⟨su, hsu⟩ : ∃ su, su = sl ++ sr := ⟨_, rfl⟩
                have hap : sl ++ sr = su := hsu.symm
                have X3 := Lib.hid X3
                have hw3 := Hw3.out
                rw [hwm, ← Hsl.out, ← Hsr.out, ← hsu] at hw3
                have Hw4 := Lib.hid hw3
                clear hw3 hsj hwm hsu bx1 Hw3
                by_cases hse : s.data.toList = su.data.toList
                · have hne : (s.toList == su.toList) = true := by rw [Lib.toList_data, Lib.toList_data, hse]; simp
                  have hw5 := Hw4.out
                  rw [if_neg (by simpa using hse)] at hw5
                  have Hw5 := Lib.hid hw5
                  clear hse hw5
                  go_wp2_with (fail)
                  go_quiet (fail)
                  go_wp2_with (fail)
                  refine name_it (p := fun y => Code.wp _ _ _ _ y) ?_
                  intro W4 H4
                  have hO4 : Only [] W W4 := by rw [H4.out]; exact hO3.drewN _
                  have X4 := HX.out.only0 hO4
                  have hlk : ∀ W', Only [] W4 W' → (Instr.lookup 109 (.map (some mq)) (.agg #[.int .i64 ml, .int .i64 mr]) true).run Tryd.prog W' = .ok (.tuple #[.agg #[.int .i64 (((lookM 0 done (ml, mr)).getD (0, 0)).1 : Int), .int .i64 ((lookM 0 done (ml, mr)).getD (0, 0)).2], .bool (lookM 0 done (ml, mr)).isSome]) W' := fun W' h => (X4.only0 h).map.look (a := (ml, mr)) ⟨hok1, hok2⟩
                  obtain ⟨x, hx'⟩ : ∃ x, x = (lookM 0 done (ml, mr)).getD (0, 0) := ⟨_, rfl⟩
                  obtain ⟨y, hy⟩ : ∃ y, y = (lookM 0 done (ml, mr)).isSome := ⟨_, rfl⟩
                  rw [← hx', ← hy] at hlk
                  obtain ⟨x1, x2⟩ := x
                  simp only at hlk
                  have hk1 := hlk W4.drew ((Only.refl _ _).drew)
                  have hk2 := hlk (W4.alloc (.cells #[.int .i64 0, .int .i64 0] 150)).drew (((Only.refl _ _).alloc _).drew)
                  have kS : ∀ w', Only [] W4 w' → (w'.cell? ⟨bx, 0, none⟩ = some (.pointer (some ⟨g, 0, none⟩)) ∧ w'.cell? ⟨g, 6, none⟩ = some (.map (some mq)) ∧ w'.cell? ⟨hx + 1, 0, none⟩ = some (.int .i64 ml) ∧ w'.cell? ⟨hx + 1, 1, none⟩ = some (.int .i64 mr)) := fun w' h => by
                    have k1 := Hbx.out.only (hO4.trans h) (by simp)
                    have k2 := (X4.only0 h).blk
                    have k3 := Bx2.out.only (hO4.trans h) (by simp)
                    exact ⟨k1.cell 0, k2.cell 6, k3.cell 0, k3.cell 1⟩
                  have KS := Lib.hid kS
                  have X4 := Lib.hid X4
                  have Hx := Lib.hid hx'
                  have Hy := Lib.hid hy
                  clear hlk kS hx' hy H4 q e2 e5 e6 hap had hne
                  go_region_held3 (fun w' => w'.cell? ⟨bx, 0, none⟩ = some (.pointer (some ⟨g, 0, none⟩)) ∧ w'.cell? ⟨g, 6, none⟩ = some (.map (some mq)) ∧ w'.cell? ⟨hx + 1, 0, none⟩ = some (.int .i64 ml) ∧ w'.cell? ⟨hx + 1, 1, none⟩ = some (.int .i64 mr))
                    (first | exact KS.out _ ((Only.refl _ _).drew) | exact KS.out _ (((Only.refl _ _).alloc _).drew) | exact KS.out _ (by assumption))
                    (fail)
                  all_goals
                    refine name_it (p := fun y => Exit.then _ _ _ _ y) ?_
                    intro W5 H5
                    have hO5 : Only [] W W5 := by rw [H5.out]; exact hO4.trans (((Only.refl _ _).alloc _).drew)
                    clear H5 hk1 hk2 KS
                    cases y with
                    | true =>
                      have hw5 := Hw5.out
                      rw [← Hy.out, if_pos rfl] at hw5
                      have hT2 : T = (i, 22) := by rw [HT.out, ← hw5]
                      have HT2 := Lib.hid hT2
                      clear hT2 hw5
                      go_wp2_with (fail)
                      go_ret2
                      exact ⟨by rw [HT2.out]; rfl, HRet.out 22 _ hO5 HT2.out (by omega)⟩
                    | false =>
                      have hw5 := Hw5.out
                      rw [← Hy.out, if_neg (by simp)] at hw5
                      have Hw6 := Lib.hid hw5
                      have X5 := HX.out.only0 (hO5.trans (Only.refl [] W5).drew)
                      have hnone : lookM 0 done (ml, mr) = none := by
                        have := Hy.out
                        cases h : lookM 0 done (ml, mr) with
                        | none => rfl
                        | some v => rw [h] at this; cases this
                      obtain ⟨W6, hrun, hO6, hst⟩ := X5.map.store (a := (ml, mr)) ⟨hok1, hok2⟩ (i, mid) (by unfold maxLen; omega)
                      have hrun : (Instr.mapUpdate 109 (.map (some mq)) (.agg #[.int .i64 ml, .int .i64 mr]) (.agg #[.int .i64 (i : Int), .int .i64 mid])).run Tryd.prog W5.drew = .ok () W6 := hrun
                      have c1 : W5.drew.cell? ⟨bx, 0, none⟩ = some (.pointer (some ⟨g, 0, none⟩)) := (Hbx.out.only hO5 (by simp)).cell 0
                      have c2 : W5.drew.cell? ⟨g, 6, none⟩ = some (.map (some mq)) := X5.blk.cell 6
                      have c3 : W5.drew.cell? ⟨hx + 1, 0, none⟩ = some (.int .i64 ml) := (Bx2.out.only hO5 (by simp)).cell 0
                      have c4 : W5.drew.cell? ⟨hx + 1, 1, none⟩ = some (.int .i64 mr) := (Bx2.out.only hO5 (by simp)).cell 1
                      have c5 : W5.drew.cell? ⟨hx, 2, none⟩ = some (.int .i64 mid) := (Bx1.out.only hO5 (by simp)).cell 2
                      have hmw : mq < W.heap.size := HX.out.map.lt
                      have hO6' : Only [mq] W W6 := (hO5.mono (by simp)).trans (((Only.refl [mq] W5).drew).trans hO6)
                      have hgx' : g ≠ mq := by omega
                      have d5 : W6.cell? ⟨hx, 2, none⟩ = some (.int .i64 mid) := (Bx1.out.only hO6' (by simp; omega)).cell 2
                      have d6 : W6.cell? ⟨bx + 1 + 1, 0, none⟩ = some (.slice (some ⟨bx + 1, 0, none⟩) n n) := (Hb4.out.only hO6' (by simp; omega)).cell 0
                      have hbm6 := Hbm.out.only hO6' (by simp; omega)
                      have d7 : W6.cell? ⟨bx + 1, j, none⟩ = some (.bool false) := by
                        obtain ⟨gm, om, hgm, q⟩ := Hmk.out.cell hjn
                        injection hgm with hgm
                        injection hgm with hgm1 hgm2
                        subst hgm1 hgm2
                        have hje : (256 : Int) + (j : Int) = mid := by omega
                        rw [hje, ← HC.out, Nat.zero_add] at q
                        exact hO6'.cellv q (by simp; omega)
                      have d8 : W6.frozen? ⟨bx + 1, j, none⟩ = false := hbm6.frozen j
                      have X5' := Lib.hid X5
                      have Hst := Lib.hid hst
                      have Hbm6 := Lib.hid hbm6
                      have HO6 := Lib.hid hO6
                      have HO6' := Lib.hid hO6'
                      have Hnone := Lib.hid hnone
                      clear hw5 X5 hst hbm6 hO6 hO6' hnone
                      go_wp2_with (fail)
                      go_still_tail 9, (by kernel_rfl)
                      go_wp2_with (fail)
                      refine ⟨⟨i + 1, by go_num, by omega, ?_⟩, by simp [intOf]; omega⟩
                      have hX6 := X5'.out.more HO6.out (Hst.out (lookM 0 (done ++ [⟨ml, mr, mid⟩])) (by rw [lookM_snoc, Hnone.out]; simp; exact Hdl.out) (fun a' ha' => by
                        rw [lookM_snoc]
                        cases h : lookM 0 done a' with
                        | some v => rfl
                        | none => simp only; rw [if_neg (fun e => ha' e.symm)]))
                      have hbm6 := Hbm6.out
                      have hOs : Only [bx + 1] W6 (W6.setCell ⟨bx + 1, j, none⟩ (.bool true)) := (Only.refl [bx + 1] _).setCell (.inl (by simp)) _
                      have hX7 := hX6.only hOs (fun x hx => .inr (by
                        obtain rfl : x = bx + 1 := by simpa using hx
                        exact ⟨by omega, by omega, _, _, hbm6, by decide, by decide, by decide⟩))
                      have hb7 : Blk (W6.setCell ⟨bx + 1, j, none⟩ (.bool true)) (bx + 1) 4 ((mk.set j true).map Value.bool) := by
                        rw [List.map_set]; exact hbm6.set j (.bool true)
                      have hO7 := HO6'.out
                      refine ⟨?_, ⟨mk.set j true, ?_, hb7⟩, ?_, ?_, ?_, ?_⟩
                      · rw [Htk.out]; exact hX7
                      · rw [Htk.out, idsOf_snoc]; exact Hmk.out.put (mid := mid) hjn (by omega) hb7
                      · exact (Hbx.out.only hO7 (by simp; omega)).only hOs (by simp)
                      · exact (Hb4.out.only hO7 (by simp; omega)).only hOs (by simp)
                      · exact ((HO.out.trans hO7).setCell (p := ⟨bx + 1, j, none⟩) (.inr (by show w.heap.size ≤ bx + 1; omega)) _)
                      · rw [Htk.out]; exact Hw6.out
                · have hne : (s.toList == su.toList) = false := by rw [Lib.toList_data, Lib.toList_data]; simpa using hse
                  have hT2 : T = (i, 25) := by rw [HT.out, ← Hw4.out, if_pos hse]
                  have HT2 := Lib.hid hT2
                  clear hT2 hse
                  go_wp2_with (fail)
                  go_quiet (fail)
                  go_wp2_with (fail)
                  go_ret2
                  exact ⟨by rw [HT2.out]; rfl, HRet.out 25 _ (hO3.drewN _) HT2.out (by omega)⟩
    · obtain rfl : i = nm := by omega
      obtain ⟨hX, -, -, -, hO, hw⟩ := hrel
      have htk : ms.take i = ms := List.take_of_length_le (by rw [← Hnm.out]; exact Nat.le_refl _)
      have hdr : ms.drop i = [] := List.drop_of_length_le (by rw [← Hnm.out]; exact Nat.le_refl _)
      rw [hdr, pairsAt] at hw
      rw [htk] at hX
      have hT2 : T = (0, 0) := by rw [HT.out, ← hw]
      have HT2 := Lib.hid hT2
      have HX := Lib.hid hX
      clear hT2 hw htk hdr hX
      go_wp2_with (fail)
      go_ret2
      exact ⟨by rw [HT2.out]; rfl, hO, fun _ => by have h := HX.out; rw [Hnm.out] at h; exact h⟩
end Go.Proofs.YtgohinklnglgeaaDoor

set_option linter.unusedVariables false
set_option linter.unusedSimpArgs false
namespace Go.Proofs.YtgohinklnglgeaaDoor
open Go.RowKit

/-- what a model is refused for -/
def faultW (ws : List ByteArray) (ms : List Mg) (a b d : List Sp) : Wr :=
  if 4096 < ms.length then (4, 5, 4096) else if ws.length ≠ ms.length then (4, 4, min ws.length ms.length) else if (checkW a b d).1 ≠ 0 then checkW a b d
  else if (wordsAt [] 0 ws).2 ≠ 0 then ((wordsAt [] 0 ws).2, 4, (wordsAt [] 0 ws).1) else if (pairsAt ws [] 0 ms).2 ≠ 0 then ((pairsAt ws [] 0 ms).2, 5, (pairsAt ws [] 0 ms).1) else (0, 0, 0)
theorem loadF {w : World} {h0 : Nat} {v0 v1 v2 u : Value} (hb : Blk w h0 66 [v0, v1, v2]) :
    (((asAddr (.pointer (some ⟨h0, 0, none⟩))).run Tryd.prog w).andThen fun a w₁ => ((loadVar 66 a).run Tryd.prog w₁).andThen fun v w₂ => Result.ok (Value.tuple #[u, v]) w₂) = Result.ok (Value.tuple #[u, Value.agg #[v0, v1, v2]]) w := by
  have c0 : w.cell? ⟨h0, 0, none⟩ = some v0 := hb.cell 0
  have c1 : w.cell? ⟨h0, 1, none⟩ = some v1 := hb.cell 1
  have c2 : w.cell? ⟨h0, 2, none⟩ = some v2 := hb.cell 2
  go_simp
theorem Own5.only0 {w w' : World} {base : Nat} {v0 v1 v2 v3 v4 : Value} {ws : List ByteArray} {ms : List Mg} {a b d : List Sp} (h : Own5 w base v0 v1 v2 v3 v4 ws ms a b d) (hO : Only [] w w') : Own5 w' base v0 v1 v2 v3 v4 ws ms a b d := h.only hO (by simp)
def NewPost (w : World) (ws : List ByteArray) (ms : List Mg) (a b d : List Sp) (e : Ending) (w' : World) : Prop :=
  ∃ v, e = .returned (.tuple #[v, .agg #[.int .i64 ((faultW ws ms a b d).1 : Int), .int .i64 ((faultW ws ms a b d).2.1 : Int), .int .i64 ((faultW ws ms a b d).2.2 : Int)]]) ∧ Only [] w w' ∧
    (((faultW ws ms a b d).1 = 0 ∧ ∃ g base, w.heap.size ≤ base ∧ v = .pointer (some ⟨g, 0, none⟩) ∧ MdAt w' base g ws ms a b d ms.length (lookM 0 ms) (lgF ws)) ∨ ((faultW ws ms a b d).1 ≠ 0 ∧ v = .pointer none))

set_option maxRecDepth 100000 in
set_option maxHeartbeats 8000000 in
theorem newM_any (w : World) (v0 v1 v2 v3 v4 : Value) (ws : List ByteArray) (ms : List Mg) (a b d : List Sp) (hR : Rd5 w v0 v1 v2 v3 v4 ws ms a b d) (s0 : ws.length ≤ 17592186043904) (s1 : ms.length ≤ 17592186043904) (s2 : a.length ≤ 17592186043904) (s3 : b.length ≤ 17592186043904) (s4 : d.length ≤ 17592186043904)
    (hws : ∀ s ∈ ws, s.size ≤ maxLen) (hms : ∀ m ∈ ms, m.ok) :
    Calls Tryd.prog 35 #[.agg #[v0, v1, v2, v3, v4]] w (NewPost w ws ms a b d) := by
  obtain ⟨T, hT⟩ : ∃ T, T = faultW ws ms a b d := ⟨_, rfl⟩
  unfold NewPost
  rw [← hT]
  unfold faultW at hT
  obtain ⟨h, hh⟩ : ∃ h, h = w.heap.size := ⟨_, rfl⟩
  obtain ⟨W1, hW1⟩ : ∃ W1, W1 = (w.alloc (.cells #[v0, v1, v2, v3, v4] 38)).alloc (.cells #[.int .i64 0, .int .i64 0, .int .i64 0] 66) := ⟨_, rfl⟩
  have hb : Blk W1 h 38 [v0, v1, v2, v3, v4] := by rw [hW1]; exact (Blk.new' _ _ _ hh.symm rfl).alloc _
  have hb2 : Blk W1 (h + 1) 66 [.int .i64 0, .int .i64 0, .int .i64 0] := by rw [hW1]; exact Blk.new' _ _ _ (by simp; omega) rfl
  have hO : Only [] w W1 := by rw [hW1]; exact ((Only.refl _ _).alloc _).alloc _
  have hwh : w.heap.size ≤ h := by omega
  have hz : W1.heap.size = h + 2 := by rw [hW1]; simp; omega
  have hR1 := hR.only hO
  obtain ⟨⟨A0, c0, rfl, k0, r0⟩, ⟨A1, c1, rfl, k1, r1⟩, ⟨A2, c2, rfl, k2, r2⟩, ⟨A3, c3, rfl, k3, r3⟩, ⟨A4, c4, rfl, k4, r4⟩⟩ := hR1
  obtain ⟨n0, hn0⟩ : ∃ n, n = ws.length := ⟨_, rfl⟩
  obtain ⟨n1, hn1⟩ : ∃ n, n = ms.length := ⟨_, rfl⟩
  have e0 : W1.cell? ⟨h, 0, none⟩ = some (.slice A0 n0 c0) := by rw [hn0]; exact hb.cell 0
  have e1 : W1.cell? ⟨h, 1, none⟩ = some (.slice A1 n1 c1) := by rw [hn1]; exact hb.cell 1
  have q0 : W1.cell? ⟨h + 1, 0, none⟩ = some (.int .i64 0) := hb2.cell 0
  have q1 : W1.cell? ⟨h + 1, 1, none⟩ = some (.int .i64 0) := hb2.cell 1
  have q2 : W1.cell? ⟨h + 1, 2, none⟩ = some (.int .i64 0) := hb2.cell 2
  have z0 := hb2.frozen 0
  have z1 := hb2.frozen 1
  have z2 := hb2.frozen 2
  have HT := Lib.hid hT
  have Hh := Lib.hid hh
  have HW := Lib.hid hW1
  have N0 := Lib.hid hn0
  have N1 := Lib.hid hn1
  have Hb := Lib.hid hb
  have Hb2 := Lib.hid hb2
  have Hws := Lib.hid hws
  have Hms := Lib.hid hms
  rw [← hn0] at s0
  rw [← hn1] at s1
  have R0 := Lib.hid hR
  have e2 : W1.cell? ⟨h, 2, none⟩ = some (.slice A2 a.length c2) := hb.cell 2
  have e3 : W1.cell? ⟨h, 3, none⟩ = some (.slice A3 b.length c3) := hb.cell 3
  have e4 : W1.cell? ⟨h, 4, none⟩ = some (.slice A4 d.length c4) := hb.cell 4
  have R2 := Lib.hid r2
  have R3 := Lib.hid r3
  have R4 := Lib.hid r4
  /- how it is left, where it refuses -/
  have hout : ∀ (W : World) (x y z : Nat), Only [] W1 W → T = (x, y, z) → x ≠ 0 → Only [] w (((W.setCell ⟨h + 1, 0, none⟩ (.int .i64 (x : Int))).setCell ⟨h + 1, 1, none⟩ (.int .i64 (y : Int))).setCell ⟨h + 1, 2, none⟩ (.int .i64 (z : Int))) ∧
      Blk (((W.setCell ⟨h + 1, 0, none⟩ (.int .i64 (x : Int))).setCell ⟨h + 1, 1, none⟩ (.int .i64 (y : Int))).setCell ⟨h + 1, 2, none⟩ (.int .i64 (z : Int))) (h + 1) 66 [.int .i64 (T.1 : Int), .int .i64 (T.2.1 : Int), .int .i64 (T.2.2 : Int)] := by
    intro W x y z hw hTx _
    have hg : w.heap.size ≤ h + 1 := by omega
    refine ⟨(((hO.trans hw).setCell (p := ⟨h + 1, 0, none⟩) (.inr hg) _).setCell (p := ⟨h + 1, 1, none⟩) (.inr hg) _).setCell (p := ⟨h + 1, 2, none⟩) (.inr hg) _, ?_⟩
    rw [hTx]
    exact (((hb2.only hw (by simp)).set 0 _).set 1 _).set 2 _
  have Hout := Lib.hid hout
  clear hT hh hW1 hn0 hn1 hb hb2 hR hws hms hout r0 r1 r2 r3 r4
  go_enter Tryd.func35, Tryd.ntmps35
  go_upto_block 0 with (fail)
  rw [← Hh.out, ← HW.out]
  by_cases h1 : 4096 < n1
  · have hT2 : T = (4, 5, 4096) := by rw [HT.out, ← N1.out, if_pos h1]
    obtain ⟨hOn, hbn⟩ := Hout.out W1 4 5 4096 (.refl _ _) hT2 (by omega)
    have HT2 := Lib.hid hT2
    have Hbn := Lib.hid hbn
    have h1' : (4096 : Int) < (n1 : Int) := by omega
    clear hT2 hbn h1
    go_wp2_with (fail)
    (try simp only [Exit.inBlock, Exit.then])
    refine bodyPost_ret (v := .tuple #[.pointer none, .agg #[.int .i64 (T.1 : Int), .int .i64 (T.2.1 : Int), .int .i64 (T.2.2 : Int)]]) ?_ rfl ⟨.pointer none, rfl, hOn, .inr ⟨by rw [HT2.out]; decide, rfl⟩⟩
    rw [results_tmp_cell rfl]
    exact loadF Hbn.out
  · have h1' : ¬ (4096 : Int) < (n1 : Int) := by omega
    by_cases h2 : n0 = n1
    · have h2' : ((n0 : Int) != (n1 : Int)) = false := by simp; omega
      have hT1 : T = if (checkW a b d).1 ≠ 0 then checkW a b d else if (wordsAt [] 0 ws).2 ≠ 0 then ((wordsAt [] 0 ws).2, 4, (wordsAt [] 0 ws).1) else if (pairsAt ws [] 0 ms).2 ≠ 0 then ((pairsAt ws [] 0 ms).2, 5, (pairsAt ws [] 0 ms).1) else (0, 0, 0) := by
        rw [HT.out, ← N1.out, ← N0.out, if_neg h1, if_neg (by omega)]
      have HT1 := Lib.hid hT1
      have hsm : ws.length ≤ 4096 ∧ ms.length ≤ 4096 := by have := N0.out; have := N1.out; omega
      have Hsm := Lib.hid hsm
      have h12 := Lib.hid h2
      clear hT1 hsm h2 h1
      go_wp2_with (fail)
      refine (new_any W1 A2 A3 A4 a.length b.length d.length c2 c3 c4 a b d rfl rfl rfl s2 s3 s4 _ R2.out R3.out R4.out).mono ?_
      rintro e W2 ⟨v, rfl, hO2, hcase⟩
      obtain ⟨X, hX⟩ : ∃ X, X = checkW a b d := ⟨_, rfl⟩
      rw [← hX] at hcase ⊢
      have HX := Lib.hid hX
      clear hX
      obtain ⟨x, y, z⟩ := X
      simp only at hcase ⊢
      have hb2w := Hb2.out.only hO2 (by simp)
      have e0 : W2.cell? ⟨h, 0, none⟩ = some (.slice A0 n0 c0) := hO2.cellv e0 (by simp)
      have e1 : W2.cell? ⟨h, 1, none⟩ = some (.slice A1 n1 c1) := hO2.cellv e1 (by simp)
      have e2 := hO2.cellv e2 (by simp)
      have e3 := hO2.cellv e3 (by simp)
      have e4 := hO2.cellv e4 (by simp)
      have q0 : W2.cell? ⟨h + 1, 0, none⟩ = some (.int .i64 0) := hb2w.cell 0
      have q1 : W2.cell? ⟨h + 1, 1, none⟩ = some (.int .i64 0) := hb2w.cell 1
      have q2 : W2.cell? ⟨h + 1, 2, none⟩ = some (.int .i64 0) := hb2w.cell 2
      have z0 := hb2w.frozen 0
      have z1 := hb2w.frozen 1
      have z2 := hb2w.frozen 2
      have hz2 : h + 2 ≤ W2.heap.size := by have := hO2.size; omega
      rcases hcase with ⟨tb, rfl, hx0, hTab⟩ | ⟨rfl, hx0⟩
      · have hT3 : T = if (wordsAt [] 0 ws).2 ≠ 0 then ((wordsAt [] 0 ws).2, 4, (wordsAt [] 0 ws).1) else if (pairsAt ws [] 0 ms).2 ≠ 0 then ((pairsAt ws [] 0 ms).2, 5, (pairsAt ws [] 0 ms).1) else (0, 0, 0) := by
          rw [HT1.out, ← HX.out, if_neg (by simpa using hx0)]
        obtain ⟨hq, hhq⟩ : ∃ k, k = W2.heap.size := ⟨_, rfl⟩
        obtain ⟨W3, hW3⟩ : ∃ W3, W3 = W2.alloc (.cells #[.int .i64 (x : Int), .int .i64 (y : Int), .int .i64 (z : Int)] 119) := ⟨_, rfl⟩
        have hO3 : Only [] W1 W3 := by rw [hW3]; exact hO2.alloc _
        have hO23 : Only [] W2 W3 := by rw [hW3]; exact (Only.refl _ _).alloc _
        have b3 := Hb.out.only hO3 (by simp)
        have e0 : W3.cell? ⟨h, 0, none⟩ = some (.slice A0 ws.length c0) := b3.cell 0
        have e1 : W3.cell? ⟨h, 1, none⟩ = some (.slice A1 ms.length c1) := b3.cell 1
        have e2 : W3.cell? ⟨h, 2, none⟩ = some (.slice A2 a.length c2) := b3.cell 2
        have e3 : W3.cell? ⟨h, 3, none⟩ = some (.slice A3 b.length c3) := b3.cell 3
        have e4 : W3.cell? ⟨h, 4, none⟩ = some (.slice A4 d.length c4) := b3.cell 4
        have hcp := copied_any W3 _ _ _ _ _ ws ms a b d (R0.out.only (hO.trans hO3)) Hsm.out.1 Hsm.out.2 hTab.small.1 hTab.small.2.1 hTab.small.2.2
        have hz3 : W2.heap.size ≤ W3.heap.size := hO23.size
        have HT3 := Lib.hid hT3
        have Hcp := Lib.hid hcp
        have HTab := Lib.hid hTab
        have HW3 := Lib.hid hW3
        have Hhq := Lib.hid hhq
        have hmm := @run_makeMap Tryd.prog
        have hsm2 := hTab.small
        clear hx0 hT3 hcp hTab hW3 hhq b3 q0 q1 q2 z0 z1 z2 hb2w
        go_upto_region 8 with (fail)
        rw [← Hhq.out, ← HW3.out]
        go_wp2_with (fail)
        refine Hcp.out.mono ?_
        rintro e W4 ⟨u0, u1, u2, u3, u4, rfl, h5, hO4⟩
        obtain ⟨B0, y0, rfl, -⟩ := own_slice h5.o0
        obtain ⟨B1, y1, rfl, -⟩ := own_slice h5.o1
        obtain ⟨B2, y2, rfl, -⟩ := own_slice h5.o2
        obtain ⟨B3, y3, rfl, -⟩ := own_slice h5.o3
        obtain ⟨B4, y4, rfl, -⟩ := own_slice h5.o4
        obtain ⟨mq, hmq⟩ : ∃ mq, mq = W4.heap.size := ⟨_, rfl⟩
        obtain ⟨W5, hW5⟩ : ∃ W5, W5 = (W4.alloc (.map #[] 0)).alloc (.cells #[.slice B0 ws.length y0, .slice B1 ms.length y1, .slice B2 a.length y2, .slice B3 b.length y3, .slice B4 d.length y4, .pointer (some ⟨tb, 0, none⟩), .map (some mq), .int .i64 1] 111) := ⟨_, rfl⟩
        have hO5 : Only [] W4 W5 := by rw [hW5]; exact ((Only.refl _ _).alloc _).alloc _
        have hz4 := hO4.size
        have hMX : MdX W5 (h + 2) (mq + 1) (.slice B0 ws.length y0) (.slice B1 ms.length y1) (.slice B2 a.length y2) (.slice B3 b.length y3) (.slice B4 d.length y4) tb mq ws ms a b d 0 (fun _ => none) 1 := by
          refine ⟨?_, (h5.only0 hO5).down (by omega), ⟨W2, (by have := HTab.out; rw [hz] at this; exact this), by omega, by have := hO5.size; omega, fun k _ hk => (((hO23.trans hO4).trans hO5).block k hk (by simp))⟩, ?_, by omega, by omega, ⟨Hsm.out.1, Hsm.out.2, hsm2⟩⟩
          · rw [hW5]; exact Blk.new' _ _ _ (by simp; omega) rfl
          · rw [hW5]
            exact (MapIs.new pairTy W4 hmq.symm).only ((Only.refl [] _).alloc _) (by simp)
        have hO15 : Only [] W1 W5 := (hO3.trans hO4).trans hO5
        have HMX := Lib.hid hMX
        have Hmq := Lib.hid hmq
        have HW5 := Lib.hid hW5
        have hmqh : h + 2 ≤ mq := by omega
        clear hMX hmq hW5 h5 e0 e1 e2 e3 e4 Hcp
        go_upto_region 9 with (fail)
        rw [← Hmq.out, ← HW5.out]
        go_wp2_with (fail)
        refine (words_any W5 (h + 2) (mq + 1) ws ms a b d 0 (fun _ => none) _ _ _ _ _ tb mq HMX.out Hws.out).mono ?_
        rintro e W6 ⟨rfl, hO6, hM6⟩
        have hsml := words_small ws [] 0
        obtain ⟨wr, hwr⟩ : ∃ x, x = wordsAt [] 0 ws := ⟨_, rfl⟩
        have hT4 := HT3.out
        rw [← hwr] at hM6 hT4 hsml ⊢
        obtain ⟨wrow, wwhy⟩ := wr
        simp only at hM6 hT4 hsml ⊢
        have hO16 : Only [] W1 W6 := hO15.trans' hO6 (by simp; omega)
        have HT4 := Lib.hid hT4
        clear hwr hT4 HT3
        by_cases hw0 : wwhy = 0
        · subst hw0
          have hM6 := hM6 rfl
          have hs2 := hsml rfl
          have hT5 := HT4.out
          rw [if_neg (by simp)] at hT5
          have HT5 := Lib.hid hT5
          have HM6 := Lib.hid hM6
          have Hs2 := Lib.hid hs2
          have hln : ws.length = ms.length := by have := N0.out; have := N1.out; have := h12.out; omega
          have Hln := Lib.hid hln
          clear hM6 hs2 hsml hT5 HT4 hln
          go_wp2_with (fail)
          refine (pairs_any W6 (h + 2) (mq + 1) ws ms a b d (lgF ws) _ _ _ _ _ tb mq HM6.out (fun s hs => (Hs2.out s hs).2) Hms.out Hln.out).mono ?_
          rintro e W7 ⟨rfl, hO7, hM7⟩
          obtain ⟨pr, hpr⟩ : ∃ x, x = pairsAt ws [] 0 ms := ⟨_, rfl⟩
          have hT6 := HT5.out
          rw [← hpr] at hM7 hT6 ⊢
          obtain ⟨prow, pwhy⟩ := pr
          simp only at hM7 hT6 ⊢
          have hO17 : Only [] W1 W7 := hO16.trans' hO7 (by simp; omega)
          have hb2w := Hb2.out.only hO17 (by simp)
          have q0 : W7.cell? ⟨h + 1, 0, none⟩ = some (.int .i64 0) := hb2w.cell 0
          have q1 : W7.cell? ⟨h + 1, 1, none⟩ = some (.int .i64 0) := hb2w.cell 1
          have q2 : W7.cell? ⟨h + 1, 2, none⟩ = some (.int .i64 0) := hb2w.cell 2
          have z0 := hb2w.frozen 0
          have z1 := hb2w.frozen 1
          have z2 := hb2w.frozen 2
          have HT6 := Lib.hid hT6
          have HM7 := Lib.hid hM7
          have Hbw := Lib.hid hb2w
          clear hpr hT6 hM7 HT5 hb2w
          by_cases hp0 : pwhy = 0
          · subst hp0
            have hT7 : T = (0, 0, 0) := by rw [HT6.out, if_neg (by simp)]
            have HT7 := Lib.hid hT7
            clear hT7
            go_wp2_with (fail)
            (try simp only [Exit.inBlock, Exit.then])
            have hg : w.heap.size ≤ h + 1 := by omega
            have hOs : Only [h + 1] W7 (((W7.setCell ⟨h + 1, 0, none⟩ (.int .i64 0)).setCell ⟨h + 1, 1, none⟩ (.int .i64 0)).setCell ⟨h + 1, 2, none⟩ (.int .i64 0)) := (((Only.refl [h + 1] _).setCell (.inl (by simp)) _).setCell (.inl (by simp)) _).setCell (.inl (by simp)) _
            have hM8 := (HM7.out (by simp)).only hOs (fun x hx => .inl (by simp at hx; omega))
            have hbn : Blk (((W7.setCell ⟨h + 1, 0, none⟩ (.int .i64 0)).setCell ⟨h + 1, 1, none⟩ (.int .i64 0)).setCell ⟨h + 1, 2, none⟩ (.int .i64 0)) (h + 1) 66 [.int .i64 (T.1 : Int), .int .i64 (T.2.1 : Int), .int .i64 (T.2.2 : Int)] := by
              rw [HT7.out]; exact ((Hbw.out.set 0 _).set 1 _).set 2 _
            refine bodyPost_ret (v := .tuple #[.pointer (some ⟨mq + 1, 0, none⟩), .agg #[.int .i64 (T.1 : Int), .int .i64 (T.2.1 : Int), .int .i64 (T.2.2 : Int)]]) ?_ rfl ⟨_, rfl, (hO.trans hO17).trans' hOs (by simp; omega), .inl ⟨by rw [HT7.out], mq + 1, h + 2, by omega, rfl, hM8.at_⟩⟩
            rw [results_tmp_cell rfl]
            exact loadF hbn
          · have hT7 : T = (pwhy, 5, prow) := by rw [HT6.out, if_pos hp0]
            obtain ⟨hOn, hbn⟩ := Hout.out W7 pwhy 5 prow hO17 hT7 hp0
            have HT7 := Lib.hid hT7
            have Hbn := Lib.hid hbn
            have hp1 : ((pwhy : Int) != 0) = true := by simp; omega
            clear hT7 hbn
            go_wp2_with (fail)
            (try simp only [Exit.inBlock, Exit.then])
            refine bodyPost_ret (v := .tuple #[.pointer none, .agg #[.int .i64 (T.1 : Int), .int .i64 (T.2.1 : Int), .int .i64 (T.2.2 : Int)]]) ?_ rfl ⟨.pointer none, rfl, hOn, .inr ⟨by rw [HT7.out]; exact hp0, rfl⟩⟩
            rw [results_tmp_cell rfl]
            exact loadF Hbn.out
        · have hT7 : T = (wwhy, 4, wrow) := by rw [HT4.out, if_pos hw0]
          obtain ⟨hOn, hbn⟩ := Hout.out W6 wwhy 4 wrow hO16 hT7 hw0
          have hb2w := Hb2.out.only hO16 (by simp)
          have q0 : W6.cell? ⟨h + 1, 0, none⟩ = some (.int .i64 0) := hb2w.cell 0
          have q1 : W6.cell? ⟨h + 1, 1, none⟩ = some (.int .i64 0) := hb2w.cell 1
          have q2 : W6.cell? ⟨h + 1, 2, none⟩ = some (.int .i64 0) := hb2w.cell 2
          have z0 := hb2w.frozen 0
          have z1 := hb2w.frozen 1
          have z2 := hb2w.frozen 2
          have HT7 := Lib.hid hT7
          have Hbn := Lib.hid hbn
          have hp1 : ((wwhy : Int) != 0) = true := by simp; omega
          clear hT7 hbn hM6 hsml HT4 hb2w
          go_wp2_with (fail)
          (try simp only [Exit.inBlock, Exit.then])
          refine bodyPost_ret (v := .tuple #[.pointer none, .agg #[.int .i64 (T.1 : Int), .int .i64 (T.2.1 : Int), .int .i64 (T.2.2 : Int)]]) ?_ rfl ⟨.pointer none, rfl, hOn, .inr ⟨by rw [HT7.out]; exact hw0, rfl⟩⟩
          rw [results_tmp_cell rfl]
          exact loadF Hbn.out
      · have hT2 : T = (x, y, z) := by rw [HT1.out, ← HX.out, if_pos hx0]
        obtain ⟨hq, hhq⟩ : ∃ k, k = W2.heap.size := ⟨_, rfl⟩
        obtain ⟨W3, hW3⟩ : ∃ W3, W3 = W2.alloc (.cells #[.int .i64 (x : Int), .int .i64 (y : Int), .int .i64 (z : Int)] 119) := ⟨_, rfl⟩
        have hb3 : Blk W3 hq 119 [.int .i64 (x : Int), .int .i64 (y : Int), .int .i64 (z : Int)] := by rw [hW3]; exact Blk.new' _ _ _ hhq.symm rfl
        have hO3 : Only [] W1 W3 := by rw [hW3]; exact hO2.alloc _
        obtain ⟨hOn, hbn⟩ := Hout.out W3.drew x y z hO3.drew hT2 hx0
        have HT2 := Lib.hid hT2
        have Hbn := Lib.hid hbn
        have HW3 := Lib.hid hW3
        have Hhq := Lib.hid hhq
        have hqh : h + 2 ≤ hq := by omega
        have hb2w := Hb2.out.only hO3 (by simp)
        have q0 : W3.cell? ⟨h + 1, 0, none⟩ = some (.int .i64 0) := hb2w.cell 0
        have q1 : W3.cell? ⟨h + 1, 1, none⟩ = some (.int .i64 0) := hb2w.cell 1
        have q2 : W3.cell? ⟨h + 1, 2, none⟩ = some (.int .i64 0) := hb2w.cell 2
        have z0 := hb2w.frozen 0
        have z1 := hb2w.frozen 1
        have z2 := hb2w.frozen 2
        have kS : ∀ w', Only [h + 1] W3 w' → (w'.cell? ⟨hq, 0, none⟩ = some (.int .i64 (x : Int)) ∧ w'.cell? ⟨hq, 1, none⟩ = some (.int .i64 (y : Int)) ∧ w'.cell? ⟨hq, 2, none⟩ = some (.int .i64 (z : Int))) := fun w' hw => by
          have k := hb3.only hw (by simp; omega)
          exact ⟨k.cell 0, k.cell 1, k.cell 2⟩
        have KS := Lib.hid kS
        have Hx0 := Lib.hid hx0
        clear hT2 hbn hx0 kS hb3 hW3 hhq
        go_upto_region 7 with (fail)
        rw [← Hhq.out, ← HW3.out]
        go_region_held3 (fun w' => w'.cell? ⟨hq, 0, none⟩ = some (.int .i64 (x : Int)) ∧ w'.cell? ⟨hq, 1, none⟩ = some (.int .i64 (y : Int)) ∧ w'.cell? ⟨hq, 2, none⟩ = some (.int .i64 (z : Int)))
          (first | exact KS.out _ ((Only.refl _ _).drew) | exact KS.out _ (((((Only.refl [h + 1] W3).drew).setCell (.inl (by simp)) _).setCell (.inl (by simp)) _).setCell (.inl (by simp)) _))
          (fail)
        all_goals
          go_wp2_with (fail)
          (try simp only [Exit.inBlock, Exit.then])
          refine bodyPost_ret (v := .tuple #[.pointer none, .agg #[.int .i64 (T.1 : Int), .int .i64 (T.2.1 : Int), .int .i64 (T.2.2 : Int)]]) ?_ rfl ⟨.pointer none, rfl, hOn, .inr ⟨by rw [HT2.out]; exact Hx0.out, rfl⟩⟩
          rw [results_tmp_cell rfl]
          exact loadF Hbn.out
    · have h2' : ((n0 : Int) != (n1 : Int)) = true := by simp; omega
      have hmin := fun W => run_min_nat (P := Tryd.prog) #[3, 3] 3 n0 n1 (min n0 n1) rfl W
      have hT2 : T = (4, 4, min n0 n1) := by rw [HT.out, ← N1.out, ← N0.out, if_neg h1, if_pos h2]
      obtain ⟨hOn, hbn⟩ := Hout.out W1.drew 4 4 (min n0 n1) ((Only.refl _ _).drew) hT2 (by omega)
      obtain ⟨mn, hmn⟩ : ∃ mn, mn = min n0 n1 := ⟨_, rfl⟩
      rw [← hmn] at hmin hbn hT2 hOn
      have HT2 := Lib.hid hT2
      have Hbn := Lib.hid hbn
      have kS : ∀ w', Only [h + 1] W1 w' → (w'.cell? ⟨h, 0, none⟩ = some (.slice A0 n0 c0) ∧ w'.cell? ⟨h, 1, none⟩ = some (.slice A1 n1 c1)) := fun w' hw => by
        have k := Hb.out.only hw (by simp)
        rw [← N0.out, ← N1.out] at k
        exact ⟨k.cell 0, k.cell 1⟩
      have KS := Lib.hid kS
      clear hT2 hbn h1 h2 hmn kS
      go_wp2_with (fail)
      go_region_held3 (fun w' => w'.cell? ⟨h, 0, none⟩ = some (.slice A0 n0 c0) ∧ w'.cell? ⟨h, 1, none⟩ = some (.slice A1 n1 c1))
        (first | exact KS.out _ ((Only.refl _ _).drew) | exact KS.out _ (((((Only.refl [h + 1] W1).drew).setCell (.inl (by simp)) _).setCell (.inl (by simp)) _).setCell (.inl (by simp)) _))
        (fail)
      all_goals
        go_wp2_with (fail)
        (try simp only [Exit.inBlock, Exit.then])
        refine bodyPost_ret (v := .tuple #[.pointer none, .agg #[.int .i64 (T.1 : Int), .int .i64 (T.2.1 : Int), .int .i64 (T.2.2 : Int)]]) ?_ rfl ⟨.pointer none, rfl, hOn, .inr ⟨by rw [HT2.out]; simp, rfl⟩⟩
        rw [results_tmp_cell rfl]
        exact loadF Hbn.out
end Go.Proofs.YtgohinklnglgeaaDoor

set_option linter.unusedVariables false
set_option linter.unusedSimpArgs false
namespace Go.Proofs.YtgohinklnglgeaaDoor

/-- rounds of a reader's step: what was read, each with its place -/
def manyS {α : Type} (g : RS → α × RS) (s : RS) : Nat → List (Nat × α) × RS
  | 0 => ([], s)
  | k + 1 => ((manyS g s k).1 ++ [((manyS g s k).2.at_, (g (manyS g s k).2).1)], (g (manyS g s k).2).2)
theorem manyS_length {α : Type} (g : RS → α × RS) (s : RS) (k : Nat) : (manyS g s k).1.length = k := by
  induction k with
  | zero => rfl
  | succ k ih => simp [manyS, ih]
theorem manyS_stick {α : Type} (g : RS → α × RS) (hg : ∀ s : RS, s.bad.isSome = true → (g s).2 = s) (s : RS) (k j : Nat) (h : (manyS g s k).2.bad.isSome = true) : (manyS g s (k + j)).2 = (manyS g s k).2 := by
  induction j with
  | zero => rfl
  | succ j ih => rw [show k + (j + 1) = (k + j) + 1 by omega]; show (g (manyS g s (k + j)).2).2 = _; rw [ih, hg _ h]
theorem manyS_at {α : Type} (g : RS → α × RS) (n : Nat) (hg : ∀ s : RS, s.at_ ≤ n → (g s).2.at_ ≤ n) (s : RS) (hs : s.at_ ≤ n) (k : Nat) : (manyS g s k).2.at_ ≤ n ∧ ∀ x ∈ (manyS g s k).1, x.1 ≤ n := by
  induction k with
  | zero => exact ⟨hs, by simp [manyS]⟩
  | succ k ih =>
    refine ⟨hg _ ih.1, ?_⟩
    intro x hx
    simp only [manyS, List.mem_append, List.mem_singleton] at hx
    rcases hx with hx | rfl
    · exact ih.2 x hx
    · exact ih.1
def mergeS (f : List UInt8) (s : RS) : Mg × RS :=
  (⟨((numS f 2147483647 24 s).1 : Int), ((numS f 2147483647 24 (numS f 2147483647 24 s).2).1 : Int), ((numS f 2147483647 24 (numS f 2147483647 24 (numS f 2147483647 24 s).2).2).1 : Int)⟩, (numS f 2147483647 24 (numS f 2147483647 24 (numS f 2147483647 24 s).2).2).2)
def spanS (f : List UInt8) (s : RS) : Sp × RS :=
  ((((numS f 1114111 14 s).1 : Int), ((numS f 1114111 14 (numS f 1114111 14 s).2).1 : Int)), (numS f 1114111 14 (numS f 1114111 14 s).2).2)
theorem numS_stick (f : List UInt8) (m y : Nat) (s : RS) (h : s.bad.isSome = true) : numS f m y s = (0, s) := by unfold numS; rw [if_pos h]
theorem wordS_stick (f : List UInt8) (s : RS) (h : s.bad.isSome = true) : wordS f s = (ByteArray.empty, s) := by
  unfold wordS; rw [numS_stick f 256 21 s h, if_pos h]
theorem mergeS_stick (f : List UInt8) (s : RS) (h : s.bad.isSome = true) : mergeS f s = (⟨0, 0, 0⟩, s) := by
  unfold mergeS; rw [numS_stick f _ _ s h, numS_stick f _ _ s h, numS_stick f _ _ s h]; rfl
theorem spanS_stick (f : List UInt8) (s : RS) (h : s.bad.isSome = true) : spanS f s = ((0, 0), s) := by
  unfold spanS; rw [numS_stick f _ _ s h, numS_stick f _ _ s h]; rfl
theorem wordS_at (f : List UInt8) (s : RS) (h : s.at_ ≤ f.length) : (wordS f s).2.at_ ≤ f.length := by
  have h1 := (numS_at f 256 21 s h).1
  unfold wordS
  split
  · exact h1
  · split
    · unfold RS.refuse; split <;> exact h1
    · split
      · unfold RS.refuse; split <;> exact h1
      · show _ + _ ≤ _; omega
theorem mergeS_at (f : List UInt8) (s : RS) (h : s.at_ ≤ f.length) : (mergeS f s).2.at_ ≤ f.length :=
  (numS_at f _ _ _ (numS_at f _ _ _ (numS_at f _ _ _ h).1).1).1
theorem spanS_at (f : List UInt8) (s : RS) (h : s.at_ ≤ f.length) : (spanS f s).2.at_ ≤ f.length :=
  (numS_at f _ _ _ (numS_at f _ _ _ h).1).1
/-- the parse behind the magic -/
def pN (f : List UInt8) : Nat × RS := numS f 4096 4 ⟨4, none⟩
def pW (f : List UInt8) : List (Nat × ByteArray) × RS := manyS (wordS f) (pN f).2 (pN f).1
def pM (f : List UInt8) : List (Nat × Mg) × RS := manyS (mergeS f) (pW f).2 (pN f).1
def pKa (f : List UInt8) : Nat × RS := numS f 512 4 (pM f).2
def pA (f : List UInt8) : List (Nat × Sp) × RS := manyS (spanS f) (pKa f).2 (pKa f).1
def pKb (f : List UInt8) : Nat × RS := numS f 512 4 (pA f).2
def pB (f : List UInt8) : List (Nat × Sp) × RS := manyS (spanS f) (pKb f).2 (pKb f).1
def pKd (f : List UInt8) : Nat × RS := numS f 512 4 (pB f).2
def pD (f : List UInt8) : List (Nat × Sp) × RS := manyS (spanS f) (pKd f).2 (pKd f).1
def pWs (f : List UInt8) : List ByteArray := (pW f).1.map Prod.snd
def pMs (f : List UInt8) : List Mg := (pM f).1.map Prod.snd
def pAs (f : List UInt8) : List Sp := (pA f).1.map Prod.snd
def pBs (f : List UInt8) : List Sp := (pB f).1.map Prod.snd
def pDs (f : List UInt8) : List Sp := (pD f).1.map Prod.snd
def magicBad (f : List UInt8) : Option Nat :=
  if f[0]? ≠ some 66 then some 0 else if f[1]? ≠ some 80 then some 1 else if f[2]? ≠ some 69 then some 2 else if f[3]? ≠ some 49 then some 3 else none
/-- behind the data: the sum, the end -/
def sumS (f : List UInt8) : Nat × RS := numS f 4294967295 12 (pD f).2
def tailS (f : List UInt8) : RS := if (sumS f).2.bad = none ∧ (sumS f).2.at_ < f.length then (sumS f).2.refuse (sumS f).2.at_ 13 else (sumS f).2
def endS (f : List UInt8) : RS := if (tailS f).bad = none ∧ (sumS f).1 ≠ (~~~(sumOf (f.take (pD f).2.at_))).toNat then (tailS f).refuse (pD f).2.at_ 12 else tailS f
def placeS (f : List UInt8) (list row : Nat) : Nat :=
  if list = 4 then ((pW f).1.map Prod.fst).getD row 0 else if list = 5 then ((pM f).1.map Prod.fst).getD row 0
  else if list = 1 then ((pA f).1.map Prod.fst).getD row (pM f).2.at_ else if list = 2 then ((pB f).1.map Prod.fst).getD row (pA f).2.at_ else ((pD f).1.map Prod.fst).getD row (pB f).2.at_
def faultF (f : List UInt8) : Wr := faultW (pWs f) (pMs f) (pAs f) (pBs f) (pDs f)
/-- what a file is refused for -/
def loadE (f : List UInt8) : Option (Nat × Nat) :=
  if 4194304 < f.length then some (0, 3)
  else match magicBad f with
    | some i => some (i, 11)
    | none => match (endS f).bad with
      | some x => some x
      | none => if (faultF f).1 ≠ 0 then some (placeS f (faultF f).2.1 (faultF f).2.2, (faultF f).1) else none
theorem pN_at (f : List UInt8) (h : 4 ≤ f.length) : (pN f).2.at_ ≤ f.length ∧ (pN f).1 ≤ 4096 := numS_at f _ _ _ h
theorem pW_at (f : List UInt8) (h : 4 ≤ f.length) : (pW f).2.at_ ≤ f.length ∧ ∀ x ∈ (pW f).1, x.1 ≤ f.length := manyS_at _ _ (fun s => wordS_at f s) _ (pN_at f h).1 _
theorem pM_at (f : List UInt8) (h : 4 ≤ f.length) : (pM f).2.at_ ≤ f.length ∧ ∀ x ∈ (pM f).1, x.1 ≤ f.length := manyS_at _ _ (fun s => mergeS_at f s) _ (pW_at f h).1 _
theorem pKa_at (f : List UInt8) (h : 4 ≤ f.length) : (pKa f).2.at_ ≤ f.length ∧ (pKa f).1 ≤ 512 := numS_at f _ _ _ (pM_at f h).1
theorem pA_at (f : List UInt8) (h : 4 ≤ f.length) : (pA f).2.at_ ≤ f.length ∧ ∀ x ∈ (pA f).1, x.1 ≤ f.length := manyS_at _ _ (fun s => spanS_at f s) _ (pKa_at f h).1 _
theorem pKb_at (f : List UInt8) (h : 4 ≤ f.length) : (pKb f).2.at_ ≤ f.length ∧ (pKb f).1 ≤ 512 := numS_at f _ _ _ (pA_at f h).1
theorem pB_at (f : List UInt8) (h : 4 ≤ f.length) : (pB f).2.at_ ≤ f.length ∧ ∀ x ∈ (pB f).1, x.1 ≤ f.length := manyS_at _ _ (fun s => spanS_at f s) _ (pKb_at f h).1 _
theorem pKd_at (f : List UInt8) (h : 4 ≤ f.length) : (pKd f).2.at_ ≤ f.length ∧ (pKd f).1 ≤ 512 := numS_at f _ _ _ (pB_at f h).1
theorem pD_at (f : List UInt8) (h : 4 ≤ f.length) : (pD f).2.at_ ≤ f.length ∧ ∀ x ∈ (pD f).1, x.1 ≤ f.length := manyS_at _ _ (fun s => spanS_at f s) _ (pKd_at f h).1 _
theorem magicBad_len (f : List UInt8) (h : magicBad f = none) : 4 ≤ f.length := by
  unfold magicBad at h
  split at h; · cases h
  split at h; · cases h
  split at h; · cases h
  split at h; · cases h
  rename_i h3
  have := List.getElem?_eq_some_iff.1 (Decidable.not_not.1 h3)
  obtain ⟨h4, -⟩ := this; omega
end Go.Proofs.YtgohinklnglgeaaDoor

set_option linter.unusedVariables false
set_option linter.unusedSimpArgs false
namespace Go.Proofs.YtgohinklnglgeaaDoor
open Go.RowKit
attribute [local go_sem] Oper.semAt_some

def nats (l : List Nat) : List Value := l.map fun n : Nat => .int .i64 (n : Int)
theorem nats_length (l : List Nat) : (nats l).length = l.length := by simp [nats]
theorem nats_one (l : List Nat) : ∀ u ∈ nats l, u.oneCell' = true := by
  intro u hu; simp only [nats, List.mem_map] at hu; obtain ⟨n, -, rfl⟩ := hu; rfl
theorem nats_snoc (l : List Nat) (n : Nat) : nats (l ++ [n]) = nats l ++ [.int .i64 (n : Int)] := by simp [nats]
theorem wds_snoc (l : List ByteArray) (s : ByteArray) : wds (l ++ [s]) = wds l ++ [.string s] := by simp [wds]
theorem intInfo6 : (Tryd.prog.info? 3).map (fun i => (i.zero, i.size, i.bytes)) = some (some (.int .i64 0), 1, 8) := by kernel_rfl
theorem strInfo6 : (Tryd.prog.info? 9).map (fun i => (i.zero, i.size, i.bytes)) = some (some (.string ByteArray.empty), 1, 16) := by kernel_rfl
theorem own_apart {w : World} {b1 b2 : Nat} {e1 e2 : TypeId} {z1 z2 : Nat} {v1 v2 : Value} {n1 n2 : Nat} {x1 x2 : List Value} (h1 : w.ownsRow b1 e1 z1 v1 n1 x1) (h2 : w.ownsRow b2 e2 z2 v2 n2 x2) (hne : e1 ≠ e2) {k : Nat} (hk : v1.ownBlock = some k) : v2.ownBlock ≠ some k := by
  intro hk2
  rcases h1.2 with ⟨rfl, h0⟩ | ⟨g, cap, cur, rfl, hb, hgg, rest⟩
  · simp [Value.ownBlock] at hk
  · rcases h2.2 with ⟨rfl, h0⟩ | ⟨g', cap', cur', rfl, hb', hgg', rest'⟩
    · simp [Value.ownBlock] at hk2
    · simp [Value.ownBlock] at hk hk2
      subst hk hk2
      rw [hgg] at hgg'
      simp at hgg'
      exact hne hgg'.2
theorem Rdr.only {w w' : World} {p : Nat} {F : Value} {s : RS} {rest : List Value} (h : Rdr w p F s rest) {l : List Nat} (hO : Only l w w') (hp : p ∉ l) (hl : ∀ x ∈ l, ∀ cs, ¬ Blk w x 80 cs) : Rdr w' p F s rest := by
  obtain ⟨v, hb, hv⟩ := h
  refine ⟨v, hb.only hO hp, ?_⟩
  unfold noV at hv ⊢
  cases hs : s.bad with
  | none => rw [hs] at hv; exact hv
  | some x => rw [hs] at hv; obtain ⟨b, hpb, e, hbb⟩ := hv; exact ⟨b, hpb, e, hbb.only hO (fun hx => hl b hx _ hbb)⟩

theorem Rdr.put {w : World} {p : Nat} {F : Value} {s : RS} {rest : List Value} (h : Rdr w p F s rest) (j : Nat) (u : Value) : Rdr (w.setCell ⟨p, 3 + j, none⟩ u) p F s (rest.set j u) := by
  obtain ⟨v, hb, hv⟩ := h
  refine ⟨v, ?_, ?_⟩
  · have := hb.set (3 + j) u
    rw [List.set_append_right _ _ (by simp)] at this
    simpa using this
  · unfold noV at hv ⊢
    cases hs : s.bad with
    | none => rw [hs] at hv; exact hv
    | some z => rw [hs] at hv; obtain ⟨b, hpb, e, hbb⟩ := hv; exact ⟨b, hpb, e, hbb.far (fun e2 => hbb.ne hb (by decide) e2) _⟩
theorem Rdr.row {w w1 : World} {p : Nat} {F : Value} {s : RS} {rest : List Value} (h : Rdr w p F s rest) {base e size n : Nat} {pv : Value} {xs : List Value} (hown : w.ownsRow base e size pv n xs) (he : e ≠ 85 ∧ e ≠ 80) (hO : Only pv.ownBlock.toList w w1) : Rdr w1 p F s rest := by
  have hb := h
  obtain ⟨v, hb, -⟩ := hb
  refine h.only hO (fun hx => own_type hown (by simpa using hx) hb (Ne.symm he.1) rfl) (fun x hx cs hbx => own_type hown (by simpa using hx) hbx (Ne.symm he.2) rfl)
theorem Rdr.far {w : World} {p : Nat} {F : Value} {s : RS} {rest : List Value} (h : Rdr w p F s rest) {q : Addr} {t : TypeId} {cs : List Value} (hq : Blk w q.block t cs) (ht : t ≠ 85 ∧ t ≠ 80) (u : Value) : Rdr (w.setCell q u) p F s rest := by
  have hb := h
  obtain ⟨v, hb, -⟩ := hb
  exact h.only ((Only.refl [q.block] w).setCell (.inl (by simp)) u) (fun hx => by simp at hx; subst hx; exact hq.ne hb ht.1 rfl) (fun x hx cs hbx => by simp at hx; subst hx; exact hq.ne hbx ht.2 rfl)
theorem Rdr.lt {w : World} {p : Nat} {F : Value} {s : RS} {rest : List Value} (h : Rdr w p F s rest) : p < w.heap.size := by obtain ⟨v, hb, -⟩ := h; exact hb.lt
theorem Rdr.drewN {w : World} {p : Nat} {F : Value} {s : RS} {rest : List Value} (h : Rdr w p F s rest) (k : Nat) : Rdr (w.drewN k) p F s rest := h.only ((Only.refl [] w).drewN k) (by simp) (by simp)
theorem Rdr.drew {w : World} {p : Nat} {F : Value} {s : RS} {rest : List Value} (h : Rdr w p F s rest) : Rdr w.drew p F s rest := h.only ((Only.refl [] w).drew) (by simp) (by simp)
/-- a loop of the reader -/
def RLoop (te : TypeId) (sz : Nat) (W0 wr : World) (p D : Nat) (F : Value) (s : RS) (n : Nat) (pl : List Nat) (cs : List Value) (rest ds : Value → List Value) : Prop :=
  ∃ pv dv, Rdr wr p F s (rest pv) ∧ Blk wr D 38 (ds dv) ∧ wr.ownsRow W0.heap.size 3 1 pv n (nats pl) ∧ wr.ownsRow W0.heap.size te sz dv n cs ∧ Only [p, D] W0 wr
theorem mgInfo6 : (Tryd.prog.info? 75).map (fun i => (i.zero, i.size, i.bytes)) = some (some (.agg #[.int .i64 0, .int .i64 0, .int .i64 0]), 3, 24) := by kernel_rfl
theorem spInfo6 : (Tryd.prog.info? 70).map (fun i => (i.zero, i.size, i.bytes)) = some (some (.agg #[.int .i32 0, .int .i32 0]), 2, 8) := by kernel_rfl
def RowN (w : World) (v : Value) (l : List Nat) : Prop := ∃ base, w.ownsRow base 3 1 v l.length (nats l)
theorem RowN.of_own {w : World} {base n : Nat} {v : Value} {l : List Nat} (h : w.ownsRow base 3 1 v n (nats l)) : RowN w v l := by
  have hn : n = l.length := by have := h.1; rw [nats_length] at this; omega
  subst hn
  exact ⟨base, h⟩
theorem RowN.rd {w : World} {v : Value} {l : List Nat} (h : RowN w v l) : ∃ A c, v = .slice A l.length c ∧ l.length ≤ c ∧ Rd w w.heap.size 1 A l.length (nats l) := by
  obtain ⟨base, h⟩ := h
  exact own_rd h
theorem RowN.only {w w' : World} {v : Value} {l : List Nat} (h : RowN w v l) {L : List Nat} (hO : Only L w w') (hL : ∀ x ∈ L, ∃ t cs, Blk w x t cs ∧ t ≠ 3) : RowN w' v l := by
  obtain ⟨base, h⟩ := h
  exact ⟨base, own_only h hO fun k hk hkL => by
    obtain ⟨t, cs, hb, ht⟩ := hL k hkL
    exact own_type h hk hb ht rfl⟩
/-- the lists that data answers -/
structure OwnD (w : World) (base : Nat) (v0 v1 v2 v3 v4 : Value) (ws : List ByteArray) (ms : List Mg) (a b d : List Sp) : Prop where
  o0 : w.ownsRow base 9 1 v0 ws.length (wds ws)
  o1 : w.ownsRow base 75 3 v1 ms.length (mgs ms)
  o2 : w.ownsRow base 70 2 v2 a.length (ses a)
  o3 : w.ownsRow base 70 2 v3 b.length (ses b)
  o4 : w.ownsRow base 70 2 v4 d.length (ses d)
theorem OwnD.only {w w' : World} {base : Nat} {v0 v1 v2 v3 v4 : Value} {ws : List ByteArray} {ms : List Mg} {a b d : List Sp} (h : OwnD w base v0 v1 v2 v3 v4 ws ms a b d) {L : List Nat} (hO : Only L w w') (hL : ∀ x ∈ L, ∃ t cs, Blk w x t cs ∧ t ≠ 9 ∧ t ≠ 75 ∧ t ≠ 70) : OwnD w' base v0 v1 v2 v3 v4 ws ms a b d := by
  have key : ∀ {e : TypeId} {size : Nat} {v : Value} {n : Nat} {xs : List Value}, (e = 9 ∨ e = 75 ∨ e = 70) → w.ownsRow base e size v n xs → ∀ k, v.ownBlock = some k → k ∉ L := by
    intro e size v n xs he ho k hk hm
    obtain ⟨t, cs, hb, h1, h2, h3⟩ := hL k hm
    exact own_type ho hk hb (by rcases he with rfl | rfl | rfl <;> assumption) rfl
  exact ⟨own_only h.o0 hO (key (.inl rfl) h.o0), own_only h.o1 hO (key (.inr (.inl rfl)) h.o1), own_only h.o2 hO (key (.inr (.inr rfl)) h.o2), own_only h.o3 hO (key (.inr (.inr rfl)) h.o3), own_only h.o4 hO (key (.inr (.inr rfl)) h.o4)⟩
theorem OwnD.rd {w : World} {base : Nat} {v0 v1 v2 v3 v4 : Value} {ws : List ByteArray} {ms : List Mg} {a b d : List Sp} (h : OwnD w base v0 v1 v2 v3 v4 ws ms a b d) : Rd5 w v0 v1 v2 v3 v4 ws ms a b d := ⟨own_rd h.o0, own_rd h.o1, own_rd h.o2, own_rd h.o3, own_rd h.o4⟩

theorem magicIdx (i : Nat) (hi : i < 4) : ∃ x : UInt8, ([66, 80, 69, 49] : List UInt8)[i]? = some x ∧ ∀ W, (Instr.index 9 (.string ⟨#[66, 80, 69, 49]⟩) (.int .i64 (i : Int))).run Tryd.prog W = .ok (.int .u8 (x.toNat : Int)) W := by
  match i, hi with
  | 0, _ => exact ⟨66, rfl, fun _ => by kernel_rfl⟩
  | 1, _ => exact ⟨80, rfl, fun _ => by kernel_rfl⟩
  | 2, _ => exact ⟨69, rfl, fun _ => by kernel_rfl⟩
  | 3, _ => exact ⟨49, rfl, fun _ => by kernel_rfl⟩
theorem magicBad_at (f : List UInt8) (i : Nat) (hi : i < 4) (h : ∀ j, j < i → f[j]? = ([66, 80, 69, 49] : List UInt8)[j]?) (hx : f[i]? ≠ ([66, 80, 69, 49] : List UInt8)[i]?) : magicBad f = some i := by
  unfold magicBad
  match i, hi with
  | 0, _ => rw [if_pos (show f[0]? ≠ some 66 from hx)]
  | 1, _ => rw [if_neg (by simpa using h 0 (by omega)), if_pos (show f[1]? ≠ some 80 from hx)]
  | 2, _ => rw [if_neg (by simpa using h 0 (by omega)), if_neg (by simpa using h 1 (by omega)), if_pos (show f[2]? ≠ some 69 from hx)]
  | 3, _ => rw [if_neg (by simpa using h 0 (by omega)), if_neg (by simpa using h 1 (by omega)), if_neg (by simpa using h 2 (by omega)), if_pos (show f[3]? ≠ some 49 from hx)]
theorem magicBad_all (f : List UInt8) (h : ∀ j, j < 4 → f[j]? = ([66, 80, 69, 49] : List UInt8)[j]?) : magicBad f = none := by
  unfold magicBad
  rw [if_neg (by simpa using h 0 (by omega)), if_neg (by simpa using h 1 (by omega)), if_neg (by simpa using h 2 (by omega)), if_neg (by simpa using h 3 (by omega))]

/-- what data leaves -/
def DataPost (w : World) (p : Nat) (F : Value) (f : List UInt8) (e : Ending) (w' : World) : Prop :=
  Only [p] w w' ∧
  ((∃ i, magicBad f = some i ∧ e = .returned (.agg #[.slice none 0 0, .slice none 0 0, .slice none 0 0, .slice none 0 0, .slice none 0 0]) ∧ Rdr w' p F ⟨0, some (i, 11)⟩ [.slice none 0 0, .slice none 0 0, .slice none 0 0, .slice none 0 0, .slice none 0 0, .int .i64 0, .int .i64 0, .int .i64 0]) ∨
   (magicBad f = none ∧ ∃ v0 v1 v2 v3 v4 q0 q1 q2 q3 q4 : Value, e = .returned (.agg #[v0, v1, v2, v3, v4]) ∧ Rdr w' p F (pD f).2 [q0, q1, q2, q3, q4, .int .i64 ((pM f).2.at_ : Int), .int .i64 ((pA f).2.at_ : Int), .int .i64 ((pB f).2.at_ : Int)] ∧
     OwnD w' w.heap.size v0 v1 v2 v3 v4 (pWs f) (pMs f) (pAs f) (pBs f) (pDs f) ∧ RowN w' q0 ((pW f).1.map Prod.fst) ∧ RowN w' q1 ((pM f).1.map Prod.fst) ∧ RowN w' q2 ((pA f).1.map Prod.fst) ∧ RowN w' q3 ((pB f).1.map Prod.fst) ∧ RowN w' q4 ((pD f).1.map Prod.fst)))
end Go.Proofs.YtgohinklnglgeaaDoor

set_option linter.unusedVariables false
set_option linter.unusedSimpArgs false
namespace Go.Proofs.YtgohinklnglgeaaDoor
open Go.RowKit
attribute [local go_sem] Oper.semAt_some

def placeV (l0 l1 l2 l3 l4 : List Nat) (c0 c1 c2 list row : Nat) : Nat :=
  if list = 4 then l0.getD row 0 else if list = 5 then l1.getD row 0 else if list = 1 then l2.getD row c0 else if list = 2 then l3.getD row c1 else l4.getD row c2
theorem RowN.at {w : World} {v : Value} {l : List Nat} (h : RowN w v l) {i : Nat} (hi : i < l.length) (d : Nat) : ∃ g o c, v = .slice (some ⟨g, o, none⟩) l.length c ∧ w.cell? ⟨g, o + i, none⟩ = some (.int .i64 ((l.getD i d : Nat) : Int)) := by
  obtain ⟨A, c, rfl, hc, hR⟩ := h.rd
  obtain ⟨g, o, u, rfl, -, hu, hcell⟩ := hR.at1 (k := i) hi
  refine ⟨g, o, c, rfl, ?_⟩
  rw [hcell, ← hu]
  simp [nats, hi]
set_option maxRecDepth 100000 in
set_option maxHeartbeats 4000000 in
theorem place_any (w : World) (p : Nat) (F : Value) (s : RS) (q0 q1 q2 q3 q4 : Value) (l0 l1 l2 l3 l4 : List Nat) (c0 c1 c2 list row : Nat)
    (h : Rdr w p F s [q0, q1, q2, q3, q4, .int .i64 (c0 : Int), .int .i64 (c1 : Int), .int .i64 (c2 : Int)]) (h0 : RowN w q0 l0) (h1 : RowN w q1 l1) (h2 : RowN w q2 l2) (h3 : RowN w q3 l3) (h4 : RowN w q4 l4)
    (hl : list = 1 ∨ list = 2 ∨ list = 3 ∨ (list = 4 ∧ row < l0.length) ∨ (list = 5 ∧ row < l1.length)) (m0 : l0.length ≤ 4096) (m1 : l1.length ≤ 4096) (m2 : l2.length ≤ 4096) (m3 : l3.length ≤ 4096) (m4 : l4.length ≤ 4096) :
    Calls Tryd.prog 36 #[.pointer (some ⟨p, 0, none⟩), .int .i64 (list : Int), .int .i64 (row : Int)] w fun e w' => e = .returned (.int .i64 ((placeV l0 l1 l2 l3 l4 c0 c1 c2 list row : Nat) : Int)) ∧ w = w' := by
  obtain ⟨v, hb, -⟩ := h
  rcases hl with rfl | rfl | rfl | ⟨rfl, hr⟩ | ⟨rfl, hr⟩
  · have e : placeV l0 l1 l2 l3 l4 c0 c1 c2 1 row = l2.getD row c0 := rfl
    have k1 : w.cell? ⟨p, 8, none⟩ = some (.int .i64 (c0 : Int)) := hb.cell 8
    rw [e]
    by_cases hr : row < l2.length
    · obtain ⟨g, o, c, rfl, hcell⟩ := h2.at hr c0
      obtain ⟨X, hX⟩ : ∃ z, z = l2.getD row c0 := ⟨_, rfl⟩
      rw [← hX] at hcell ⊢
      clear hX e
      have k0 : w.cell? ⟨p, 5, none⟩ = some (.slice (some ⟨g, o, none⟩) l2.length c) := hb.cell 5
      have hri : (row : Int) < (l2.length : Int) := by omega
      have hge : decide (l2.length ≤ row) = false := decide_eq_false (by omega)
      clear hb h0 h1 h2 h3 h4
      go_enter Tryd.func36, Tryd.ntmps36
      go_wp2
      go_ret
      exact ⟨rfl, rfl⟩
    · obtain ⟨A, c, rfl, hc, hR⟩ := h2.rd
      have k0 : w.cell? ⟨p, 5, none⟩ = some (.slice A l2.length c) := hb.cell 5
      have hge : decide (l2.length ≤ row) = true := decide_eq_true (by omega)
      rw [show l2.getD row c0 = c0 by simp [List.getD, List.getElem?_eq_none (show l2.length ≤ row by omega)]]
      clear hb h0 h1 h2 h3 h4 hR
      go_enter Tryd.func36, Tryd.ntmps36
      go_wp2
      go_ret
      exact ⟨rfl, rfl⟩
  · have e : placeV l0 l1 l2 l3 l4 c0 c1 c2 2 row = l3.getD row c1 := rfl
    have k1 : w.cell? ⟨p, 9, none⟩ = some (.int .i64 (c1 : Int)) := hb.cell 9
    rw [e]
    by_cases hr : row < l3.length
    · obtain ⟨g, o, c, rfl, hcell⟩ := h3.at hr c1
      obtain ⟨X, hX⟩ : ∃ z, z = l3.getD row c1 := ⟨_, rfl⟩
      rw [← hX] at hcell ⊢
      clear hX e
      have k0 : w.cell? ⟨p, 6, none⟩ = some (.slice (some ⟨g, o, none⟩) l3.length c) := hb.cell 6
      have hri : (row : Int) < (l3.length : Int) := by omega
      have hge : decide (l3.length ≤ row) = false := decide_eq_false (by omega)
      clear hb h0 h1 h2 h3 h4
      go_enter Tryd.func36, Tryd.ntmps36
      go_wp2
      go_ret
      exact ⟨rfl, rfl⟩
    · obtain ⟨A, c, rfl, hc, hR⟩ := h3.rd
      have k0 : w.cell? ⟨p, 6, none⟩ = some (.slice A l3.length c) := hb.cell 6
      have hge : decide (l3.length ≤ row) = true := decide_eq_true (by omega)
      rw [show l3.getD row c1 = c1 by simp [List.getD, List.getElem?_eq_none (show l3.length ≤ row by omega)]]
      clear hb h0 h1 h2 h3 h4 hR
      go_enter Tryd.func36, Tryd.ntmps36
      go_wp2
      go_ret
      exact ⟨rfl, rfl⟩
  · have e : placeV l0 l1 l2 l3 l4 c0 c1 c2 3 row = l4.getD row c2 := rfl
    have k1 : w.cell? ⟨p, 10, none⟩ = some (.int .i64 (c2 : Int)) := hb.cell 10
    rw [e]
    by_cases hr : row < l4.length
    · obtain ⟨g, o, c, rfl, hcell⟩ := h4.at hr c2
      obtain ⟨X, hX⟩ : ∃ z, z = l4.getD row c2 := ⟨_, rfl⟩
      rw [← hX] at hcell ⊢
      clear hX e
      have k0 : w.cell? ⟨p, 7, none⟩ = some (.slice (some ⟨g, o, none⟩) l4.length c) := hb.cell 7
      have hri : (row : Int) < (l4.length : Int) := by omega
      have hge : decide (l4.length ≤ row) = false := decide_eq_false (by omega)
      clear hb h0 h1 h2 h3 h4
      go_enter Tryd.func36, Tryd.ntmps36
      go_wp2
      go_ret
      exact ⟨rfl, rfl⟩
    · obtain ⟨A, c, rfl, hc, hR⟩ := h4.rd
      have k0 : w.cell? ⟨p, 7, none⟩ = some (.slice A l4.length c) := hb.cell 7
      have hge : decide (l4.length ≤ row) = true := decide_eq_true (by omega)
      rw [show l4.getD row c2 = c2 by simp [List.getD, List.getElem?_eq_none (show l4.length ≤ row by omega)]]
      clear hb h0 h1 h2 h3 h4 hR
      go_enter Tryd.func36, Tryd.ntmps36
      go_wp2
      go_ret
      exact ⟨rfl, rfl⟩
  · obtain ⟨g, o, c, rfl, hcell⟩ := h0.at hr 0
    obtain ⟨X, hX⟩ : ∃ z, z = l0.getD row 0 := ⟨_, rfl⟩
    rw [← hX] at hcell
    have k0 : w.cell? ⟨p, 3, none⟩ = some (.slice (some ⟨g, o, none⟩) l0.length c) := hb.cell 3
    have e : placeV l0 l1 l2 l3 l4 c0 c1 c2 4 row = X := hX.symm
    have hri : (row : Int) < (l0.length : Int) := by omega
    rw [e]
    clear hb h0 h1 h2 h3 h4 e hX
    go_enter Tryd.func36, Tryd.ntmps36
    go_wp2
    go_ret
    exact ⟨rfl, rfl⟩
  · obtain ⟨g, o, c, rfl, hcell⟩ := h1.at hr 0
    obtain ⟨X, hX⟩ : ∃ z, z = l1.getD row 0 := ⟨_, rfl⟩
    rw [← hX] at hcell
    have k0 : w.cell? ⟨p, 4, none⟩ = some (.slice (some ⟨g, o, none⟩) l1.length c) := hb.cell 4
    have e : placeV l0 l1 l2 l3 l4 c0 c1 c2 5 row = X := hX.symm
    have hri : (row : Int) < (l1.length : Int) := by omega
    rw [e]
    clear hb h0 h1 h2 h3 h4 e hX
    go_enter Tryd.func36, Tryd.ntmps36
    go_wp2
    go_ret
    exact ⟨rfl, rfl⟩
end Go.Proofs.YtgohinklnglgeaaDoor

set_option linter.unusedVariables false
set_option linter.unusedSimpArgs false
namespace Go.Proofs.YtgohinklnglgeaaDoor
open Go.RowKit

section
variable (w : World) (v0 v1 v2 v3 v4 : Value) (ws : List ByteArray) (ms : List Mg) (a b d : List Sp) (hR : Rd5 w v0 v1 v2 v3 v4 ws ms a b d)
include hR
set_option maxRecDepth 100000 in
set_option maxHeartbeats 4000000 in
theorem word5_any (s0 : ws.length ≤ 17592186043904) (id : Int) (hid : i64ok id) :
    Calls Tryd.prog 83 #[.agg #[v0, v1, v2, v3, v4], .int .i64 id] w fun e w' => e = .returned (.tuple #[.string (wordB ws id), .bool (isWord ws id)]) ∧ Only [] w w' := by
  obtain ⟨h, hh⟩ : ∃ h, h = w.heap.size := ⟨_, rfl⟩
  obtain ⟨W1, hW1⟩ : ∃ W1, W1 = w.alloc (.cells #[v0, v1, v2, v3, v4] 38) := ⟨_, rfl⟩
  have hb : Blk W1 h 38 [v0, v1, v2, v3, v4] := by rw [hW1]; exact Blk.new' _ _ _ hh.symm rfl
  have hO : Only [] w W1 := by rw [hW1]; exact (Only.refl _ _).alloc _
  have hR1 := hR.only hO
  obtain ⟨⟨A, c, rfl, -, r0⟩, -⟩ := hR1
  obtain ⟨n, hn⟩ : ∃ n, n = ws.length := ⟨_, rfl⟩
  have c0 : W1.cell? ⟨h, 0, none⟩ = some (.slice A n c) := by rw [hn]; exact hb.cell 0
  rw [← hn] at r0
  have hwb : wordB ws id = if 0 ≤ id ∧ id < 256 then str [UInt8.ofNat id.toNat] else if 256 ≤ id ∧ id < 256 + n then ws.getD (id - 256).toNat ⟨#[]⟩ else ⟨#[]⟩ := by rw [hn]; rfl
  have hiw : isWord ws id = decide (0 ≤ id ∧ id < 256 + (n : Int)) := by rw [hn]; rfl
  obtain ⟨V, hV⟩ : ∃ V, V = wordB ws id := ⟨_, rfl⟩
  obtain ⟨I, hI⟩ : ∃ I, I = isWord ws id := ⟨_, rfl⟩
  rw [← hV, ← hI]
  rw [hwb] at hV
  rw [hiw] at hI
  rw [← hn] at s0
  unfold i64ok at hid
  have HV := Lib.hid hV
  have HI := Lib.hid hI
  have Hn := Lib.hid hn
  have HR := Lib.hid r0
  have Hh := Lib.hid hh
  have HW := Lib.hid hW1
  clear hb hR hwb hiw hn r0 hV hI hh hW1
  go_enter Tryd.func83, Tryd.ntmps83
  go_upto_region 1 with (fail)
  rw [← Hh.out, ← HW.out]
  by_cases h0 : id < 0
  · have h1 : ¬ 0 ≤ id := by omega
    have h2 : ¬ 256 ≤ id := by omega
    go_wp2_with (fail)
    go_ret2
    exact ⟨by rw [HV.out, HI.out, if_neg (by omega), if_neg (by omega), decide_eq_false (by omega)]; rfl, hO⟩
  · have h1 : 0 ≤ id := by omega
    clear h0
    by_cases h2 : id < 256
    · obtain ⟨k, hk⟩ : ∃ k : Nat, id = (k : Int) := ⟨id.toNat, by omega⟩
      subst hk
      have hbl : Blk (W1.alloc (.cells #[.int .u8 (k : Int)] 5)) W1.heap.size 5 (bvs [UInt8.ofNat k]) := Blk.new' _ _ _ rfl (by simp [bvs, bv]; omega)
      have hcv := run_string_rd (P := Tryd.prog) 22 9 5 (by kernel_rfl) (by kernel_rfl) (by kernel_rfl) 1 (Rd.whole (t := 5) (n := 1) (size := 1) hbl rfl)
      have hmod : (k : Int) % 256 = (k : Int) := by omega
      clear hbl
      go_wp2_with (fail)
      go_ret2
      have e1 : V = str [UInt8.ofNat k] := by rw [HV.out, if_pos ⟨by omega, by omega⟩]; rfl
      have e2 : I = true := by rw [HI.out]; exact decide_eq_true ⟨by omega, by omega⟩
      exact ⟨by rw [e1, e2]; rfl, hO.alloc _⟩
    · obtain ⟨k, hk⟩ : ∃ k : Nat, id - 256 = (k : Int) := ⟨(id - 256).toNat, by omega⟩
      have h3 : 256 ≤ id := by omega
      by_cases hkn : k < n
      · obtain ⟨s, hs'⟩ : ∃ s, ws[k]? = some s := ⟨_, List.getElem?_eq_getElem (by rw [← Hn.out]; omega)⟩
        obtain ⟨g', o', rfl, _, q⟩ := HR.out.wd hs'
        have hgd : ws.getD k ⟨#[]⟩ = s := by rw [List.getD_eq_getElem?_getD, hs']; rfl
        have Hgd := Lib.hid hgd
        have Hk := Lib.hid hk
        clear hs' hgd
        go_wp2_with (fail)
        go_ret2
        have e1 : V = s := by rw [HV.out, if_neg (by omega), if_pos ⟨by omega, by omega⟩, Hk.out, Int.toNat_natCast, Hgd.out]
        have e2 : I = true := by rw [HI.out]; exact decide_eq_true ⟨by omega, by omega⟩
        exact ⟨by rw [e1, e2]; rfl, hO⟩
      · go_wp2_with (fail)
        go_ret2
        exact ⟨by rw [HV.out, HI.out, if_neg (by omega), if_neg (by omega), decide_eq_false (by omega)]; rfl, hO⟩

set_option maxRecDepth 100000 in
set_option maxHeartbeats 4000000 in
theorem made5_any (s1 : ms.length ≤ 17592186043904) (k : Nat) (hk : k ≤ ms.length) (id : Int) (hid : i64ok id) :
    Calls Tryd.prog 82 #[.agg #[v0, v1, v2, v3, v4], .int .i64 (k : Int), .int .i64 id] w fun e w' => e = .returned (.bool (partB (idsOf (ms.take k)) id)) ∧ Only [] w w' := by
  obtain ⟨h, hh⟩ : ∃ h, h = w.heap.size := ⟨_, rfl⟩
  obtain ⟨W1, hW1⟩ : ∃ W1, W1 = w.alloc (.cells #[v0, v1, v2, v3, v4] 38) := ⟨_, rfl⟩
  have hb : Blk W1 h 38 [v0, v1, v2, v3, v4] := by rw [hW1]; exact Blk.new' _ _ _ hh.symm rfl
  have hO : Only [] w W1 := by rw [hW1]; exact (Only.refl _ _).alloc _
  have hR1 := hR.only hO
  obtain ⟨-, ⟨A, c, rfl, -, r1⟩, -⟩ := hR1
  obtain ⟨n, hn⟩ : ∃ n, n = ms.length := ⟨_, rfl⟩
  have c1 : W1.cell? ⟨h, 1, none⟩ = some (.slice A n c) := by rw [hn]; exact hb.cell 1
  rw [← hn] at r1 hk s1
  obtain ⟨T, hT⟩ : ∃ T, T = partB (idsOf (ms.take k)) id := ⟨_, rfl⟩
  rw [← hT]
  unfold partB at hT
  unfold i64ok at hid
  have HT := Lib.hid hT
  have Hn := Lib.hid hn
  have HR := Lib.hid r1
  have Hh := Lib.hid hh
  have HW := Lib.hid hW1
  clear hb hR hn r1 hT hh hW1
  go_enter Tryd.func82, Tryd.ntmps82
  go_upto_region 1 with (fail)
  rw [← Hh.out, ← HW.out]
  by_cases h1 : 0 ≤ id ∧ id < 256
  · obtain ⟨h2, h3⟩ := h1
    go_wp2_with (fail)
    go_ret
    exact ⟨ret_bool (by rw [HT.out, decide_eq_true ⟨h2, h3⟩]; rfl), hO⟩
  · have e1 : T = (decide (256 ≤ id) && (idsOf (ms.take k)).contains id) := by rw [HT.out, decide_eq_false h1, Bool.false_or]
    have E1 := Lib.hid e1
    have hc0 : (idsOf (ms.take 0)).contains id = false := by simp [idsOf]
    have HC0 := Lib.hid hc0
    clear e1 HT hc0
    have hg : (¬ 0 ≤ id) ∨ (0 ≤ id ∧ ¬ id < 256) := by omega
    rcases hg with h2 | ⟨h2, h3⟩
    all_goals
      go_wp2_with (fail)
      go_loop [7] (fun vi => ∃ i : Nat, vi = .int .i64 (i : Int) ∧ i ≤ k ∧ Hid ((idsOf (ms.take i)).contains id = false)) (fun vi => k - (intOf vi).toNat)
      case atStart => exact ⟨0, rfl, by omega, HC0⟩
      case round =>
        obtain ⟨i, rfl, hi, hno⟩ := hrel
        by_cases hlt : i < k
        · obtain ⟨m, hm⟩ : ∃ m, ms[i]? = some m := ⟨_, List.getElem?_eq_getElem (by rw [← Hn.out]; omega)⟩
          obtain ⟨g, o, rfl, hin, q0, q1, q2⟩ := HR.out.mg hm
          have hsn : idsOf (ms.take (i + 1)) = idsOf (ms.take i) ++ [m.id] := by rw [take_snoc' hm, idsOf_snoc]
          have Hsn := Lib.hid hsn
          have Hm := Lib.hid hm
          clear hsn hm
          by_cases he : m.id = id
          · have hin' : (idsOf (ms.take k)).contains id = true := by
              rw [List.contains_iff_mem, ← he]
              exact List.mem_map.2 ⟨m, List.mem_of_getElem? (i := i) (by rw [List.getElem?_take, if_pos hlt]; exact Hm.out), rfl⟩
            have e2 : T = decide (256 ≤ id) := by rw [E1.out, hin', Bool.and_true]
            have E2 := Lib.hid e2
            clear hin' e2
            go_wp2_with (fail)
            go_ret
            exact ⟨ret_bool (by rw [E2.out] <;> exact (decide_eq_true (by omega)).symm), hO⟩
          · have hno2 : (idsOf (ms.take (i + 1))).contains id = false := by
              rw [Hsn.out, Bool.eq_false_iff]
              intro hc
              rw [List.contains_iff_mem, List.mem_append] at hc
              rcases hc with hc | hc
              · rw [← List.contains_iff_mem, hno.out] at hc; cases hc
              · exact he (by simpa using hc : id = m.id).symm
            have Hno2 := Lib.hid hno2
            clear hno2
            go_wp2_with (fail)
            refine ⟨⟨i + 1, by go_num, by omega, Hno2⟩, by simp [intOf]; omega⟩
        · obtain rfl : i = k := by omega
          have e2 : T = false := by rw [E1.out, hno.out, Bool.and_false]
          have E2 := Lib.hid e2
          clear e2
          go_wp2_with (fail)
          go_ret
          exact ⟨ret_bool (by rw [E2.out] <;> exact (decide_eq_true (by omega)).symm), hO⟩

end
end Go.Proofs.YtgohinklnglgeaaDoor

set_option linter.unusedVariables false
set_option linter.unusedSimpArgs false
namespace Go.Proofs.YtgohinklnglgeaaDoor
open Go.RowKit

theorem loadF5 {w : World} {h0 : Nat} {v0 v1 v2 : Value} (hb : Blk w h0 94 [v0, v1, v2]) :
    (((asAddr (.pointer (some ⟨h0, 0, none⟩))).run Tryd.prog w).andThen fun a w₁ => (loadVar 94 a).run Tryd.prog w₁) = Result.ok (Value.agg #[v0, v1, v2]) w := by
  have c0 : w.cell? ⟨h0, 0, none⟩ = some v0 := hb.cell 0
  have c1 : w.cell? ⟨h0, 1, none⟩ = some v1 := hb.cell 1
  have c2 : w.cell? ⟨h0, 2, none⟩ = some v2 := hb.cell 2
  go_simp
/-- what is wrong with the words, as a fault -/
def wordsF (ws : List ByteArray) : Wr := if (wordsAt [] 0 ws).2 ≠ 0 then ((wordsAt [] 0 ws).2, 4, (wordsAt [] 0 ws).1) else (0, 0, 0)
def faultV (t : Wr) : Value := .agg #[.int .i64 (t.1 : Int), .int .i64 (t.2.1 : Int), .int .i64 (t.2.2 : Int)]

set_option maxRecDepth 100000 in
set_option maxHeartbeats 8000000 in
theorem words5_any (w : World) (v0 v1 v2 v3 v4 : Value) (ws : List ByteArray) (ms : List Mg) (a b d : List Sp) (hR : Rd5 w v0 v1 v2 v3 v4 ws ms a b d) (s0 : ws.length ≤ 17592186043904) (hws : ∀ s ∈ ws, s.size ≤ maxLen) :
    Calls Tryd.prog 67 #[.agg #[v0, v1, v2, v3, v4]] w fun e w' => e = .returned (faultV (wordsF ws)) ∧ Only [] w w' := by
  obtain ⟨T, hT⟩ : ∃ T, T = wordsF ws := ⟨_, rfl⟩
  rw [← hT]
  obtain ⟨P, hP⟩ : ∃ P, P = wordsAt [] 0 ws := ⟨_, rfl⟩
  unfold wordsF at hT
  rw [← hP] at hT
  have hP0 : wordsAt (ws.take 0) 0 (ws.drop 0) = P := by rw [hP]; rfl
  obtain ⟨h, hh⟩ : ∃ h, h = w.heap.size := ⟨_, rfl⟩
  obtain ⟨W1, hW1⟩ : ∃ W1, W1 = (w.alloc (.cells #[v0, v1, v2, v3, v4] 38)).alloc (.cells #[.int .i64 0, .int .i64 0, .int .i64 0] 94) := ⟨_, rfl⟩
  have hb : Blk W1 h 38 [v0, v1, v2, v3, v4] := by rw [hW1]; exact (Blk.new' _ _ _ hh.symm rfl).alloc _
  have hb2 : Blk W1 (h + 1) 94 [.int .i64 0, .int .i64 0, .int .i64 0] := by rw [hW1]; exact Blk.new' _ _ _ (by simp; omega) rfl
  have hO : Only [] w W1 := by rw [hW1]; exact ((Only.refl _ _).alloc _).alloc _
  have hwh : w.heap.size ≤ h := by omega
  have hR1 := hR.only hO
  obtain ⟨⟨A, c, rfl, -, r0⟩, -⟩ := hR1
  obtain ⟨n, hn⟩ : ∃ n, n = ws.length := ⟨_, rfl⟩
  have c0 : W1.cell? ⟨h, 0, none⟩ = some (.slice A n c) := by rw [hn]; exact hb.cell 0
  rw [← hn] at r0 s0
  have HT := Lib.hid hT
  have HP0 := Lib.hid hP0
  have Hn := Lib.hid hn
  have HR := Lib.hid r0
  have Hh := Lib.hid hh
  have HW := Lib.hid hW1
  have Hb := Lib.hid hb
  have Hb2 := Lib.hid hb2
  have Hws := Lib.hid hws
  /- how it is left -/
  have hout : ∀ (W : World) (x y z : Nat), Only [] W1 W → T = (x, y, z) → Only [] w (((W.setCell ⟨h + 1, 0, none⟩ (.int .i64 (x : Int))).setCell ⟨h + 1, 1, none⟩ (.int .i64 (y : Int))).setCell ⟨h + 1, 2, none⟩ (.int .i64 (z : Int))) ∧
      Blk (((W.setCell ⟨h + 1, 0, none⟩ (.int .i64 (x : Int))).setCell ⟨h + 1, 1, none⟩ (.int .i64 (y : Int))).setCell ⟨h + 1, 2, none⟩ (.int .i64 (z : Int))) (h + 1) 94 [.int .i64 (T.1 : Int), .int .i64 (T.2.1 : Int), .int .i64 (T.2.2 : Int)] := by
    intro W x y z hw hTx
    have hg : w.heap.size ≤ h + 1 := by omega
    refine ⟨(((hO.trans hw).setCell (p := ⟨h + 1, 0, none⟩) (.inr hg) _).setCell (p := ⟨h + 1, 1, none⟩) (.inr hg) _).setCell (p := ⟨h + 1, 2, none⟩) (.inr hg) _, ?_⟩
    rw [hTx]
    exact (((hb2.only hw (by simp)).set 0 _).set 1 _).set 2 _
  have Hout := Lib.hid hout
  clear hT hh hW1 hn hb hb2 hR hws hout r0 hP0 hP
  go_enter Tryd.func67, Tryd.ntmps67
  go_upto_region 1 with (fail)
  rw [← Hh.out, ← HW.out]
  go_wp2_with (fail)
  go_loopw [3] (fun vi wr => ∃ i : Nat, vi = .int .i64 (i : Int) ∧ i ≤ n ∧ Only [] W1 wr ∧ Hid (wordsAt (ws.take i) i (ws.drop i) = P)) (fun vi _ => n - (intOf vi).toNat)
  case atStart => exact ⟨0, rfl, by omega, .refl _ _, HP0⟩
  case round =>
    obtain ⟨i, rfl, hi, hOw, hPi⟩ := hrel
    have c0 : wr.cell? ⟨h, 0, none⟩ = some (.slice A n c) := hOw.cellv c0 (by simp)
    by_cases hlt : i < n
    · obtain ⟨s, hsi⟩ : ∃ s, ws[i]? = some s := ⟨_, List.getElem?_eq_getElem (by rw [← Hn.out]; exact hlt)⟩
      obtain ⟨gw, ow, rfl, _, q⟩ := (HR.out.only hOw (by simp)).wd hsi
      have hsz := Hws.out s (List.mem_of_getElem? hsi)
      have hdr := drop_cons' hsi
      have htk := take_snoc' hsi
      have hw := hPi.out
      rw [hdr, wordsAt] at hw
      unfold maxLen at hsz
      have Hw := Lib.hid hw
      have Hsi := Lib.hid hsi
      have Htk := Lib.hid htk
      have q0 : wr.cell? ⟨h + 1, 0, none⟩ = some (.int .i64 0) := (Hb2.out.only hOw (by simp)).cell 0
      have q1 : wr.cell? ⟨h + 1, 1, none⟩ = some (.int .i64 0) := (Hb2.out.only hOw (by simp)).cell 1
      have q2 : wr.cell? ⟨h + 1, 2, none⟩ = some (.int .i64 0) := (Hb2.out.only hOw (by simp)).cell 2
      have z0 := (Hb2.out.only hOw (by simp)).frozen 0
      have z1 := (Hb2.out.only hOw (by simp)).frozen 1
      have z2 := (Hb2.out.only hOw (by simp)).frozen 2
      clear hw hsi hdr htk hPi
      by_cases h2 : s.size < 2 ∨ 256 < s.size
      · have hT2 : T = (21, 4, i) := by rw [HT.out, ← Hw.out, if_pos h2, if_pos (by simp)]
        obtain ⟨hOn, hbn⟩ := Hout.out wr 21 4 i hOw hT2
        have HT2 := Lib.hid hT2
        have Hbn := Lib.hid hbn
        clear hT2 hbn
        rcases h2 with h2 | h2
        · have h2' : decide (s.size < 2) = true := decide_eq_true h2
          go_wp2_with (fail)
          (try simp only [Exit.inBlock, Exit.then])
          refine bodyPost_ret (v := faultV T) ?_ rfl ⟨rfl, hOn⟩
          rw [results_cellD rfl]
          exact loadF5 Hbn.out
        · have h2' : decide (s.size < 2) = false := decide_eq_false (by omega)
          have h3' : decide (256 < s.size) = true := decide_eq_true h2
          go_wp2_with (fail)
          (try simp only [Exit.inBlock, Exit.then])
          refine bodyPost_ret (v := faultV T) ?_ rfl ⟨rfl, hOn⟩
          rw [results_cellD rfl]
          exact loadF5 Hbn.out
      · have h2' : decide (s.size < 2) = false := decide_eq_false (by omega)
        have h3' : decide (256 < s.size) = false := decide_eq_false (by omega)
        have hw2 : (if inB s (ws.take i) = true then (i, 22) else wordsAt (ws.take i ++ [s]) (i + 1) (ws.drop (i + 1))) = P := by rw [← Hw.out, if_neg h2]
        have Hw2 := Lib.hid hw2
        have hi0 : inB s (ws.take 0) = false := by rfl
        have Hi0 := Lib.hid hi0
        clear hw2 Hw hi0
        go_wp2_with (fail)
        go_loopw [4] (fun vj wx => ∃ j : Nat, vj = .int .i64 (j : Int) ∧ j ≤ i ∧ Only [] W1 wx ∧ Hid (inB s (ws.take j) = false)) (fun vj _ => i - (intOf vj).toNat)
        case atStart => exact ⟨0, rfl, by omega, hOw, Hi0⟩
        case round =>
          obtain ⟨j, rfl, hj, hOx, hno⟩ := hrel
          have cx : wr.cell? ⟨h, 0, none⟩ = some (.slice (some ⟨gw, ow, none⟩) n c) := by rw [Hn.out]; exact (Hb.out.only hOx (by simp)).cell 0
          have q0 : wr.cell? ⟨h + 1, 0, none⟩ = some (.int .i64 0) := (Hb2.out.only hOx (by simp)).cell 0
          have q1 : wr.cell? ⟨h + 1, 1, none⟩ = some (.int .i64 0) := (Hb2.out.only hOx (by simp)).cell 1
          have q2 : wr.cell? ⟨h + 1, 2, none⟩ = some (.int .i64 0) := (Hb2.out.only hOx (by simp)).cell 2
          have z0 := (Hb2.out.only hOx (by simp)).frozen 0
          have z1 := (Hb2.out.only hOx (by simp)).frozen 1
          have z2 := (Hb2.out.only hOx (by simp)).frozen 2
          by_cases hjl : j < i
          · obtain ⟨t, htj⟩ : ∃ t, ws[j]? = some t := ⟨_, List.getElem?_eq_getElem (by rw [← Hn.out]; omega)⟩
            obtain ⟨_, _, he, _, qt⟩ := (HR.out.only hOx (by simp)).wd htj
            obtain ⟨_, _, he2, _, qs⟩ := (HR.out.only hOx (by simp)).wd Hsi.out
            cases he
            cases he2
            have htk2 := take_snoc' htj
            have hin : inB s (ws.take (j + 1)) = (decide (s.data.toList = t.data.toList)) := by rw [htk2, inB_snoc, hno.out, Bool.false_or]
            have hjn : j < n := by omega
            by_cases hts : t = s
            · have hii : inB s (ws.take i) = true := by
                rw [inB_iff, ← hts]
                exact List.mem_of_getElem? (i := j) (by rw [List.getElem?_take, if_pos hjl]; exact htj)
              have hT2 : T = (22, 4, i) := by rw [HT.out, ← Hw2.out, if_pos hii, if_pos (by simp)]
              have hbn := fun k => Hout.out (wr.drewN k) 22 4 i (hOx.drewN k) hT2
              subst hts
              have hse : (t.toList == t.toList) = true := beq_self_eq_true _
              have HT2 := Lib.hid hT2
              have Hbn := Lib.hid hbn
              clear hT2 hbn hin htk2 htj hii
              go_wp2_with (fail)
              go_quiet (fail)
              go_wp2_with (fail)
              (try simp only [Exit.inBlock, Exit.then])
              refine bodyPost_ret (v := faultV T) ?_ rfl ⟨rfl, (Hbn.out _).1⟩
              rw [results_cellD rfl]
              exact loadF5 (Hbn.out _).2
            · have hse : (t.toList == s.toList) = false := by
                rw [Lib.toList_data, Lib.toList_data, beq_eq_false_iff_ne]
                intro h; exact hts (by apply ByteArray.ext; exact Array.toList_inj.1 h)
              have hno2 : inB s (ws.take (j + 1)) = false := by
                rw [hin, decide_eq_false_iff_not]
                intro h; exact hts (by apply ByteArray.ext; exact (Array.toList_inj.1 h).symm)
              have Hno2 := Lib.hid hno2
              clear hno2 hin htk2 htj
              go_wp2_with (fail)
              go_quiet (fail)
              go_wp2_with (fail)
              refine ⟨⟨j + 1, by go_num, by omega, hOx.drewN _, Hno2⟩, by simp [intOf]; omega⟩
          · obtain rfl : j = i := by omega
            have hw3 := Hw2.out
            rw [if_neg (by rw [hno.out]; simp), ← Htk.out] at hw3
            have Hw3 := Lib.hid hw3
            clear hw3
            go_wp2_with (fail)
            refine ⟨⟨j + 1, by go_num, by omega, hOx, Hw3⟩, by simp [intOf]; omega⟩
    · obtain rfl : i = n := by omega
      have hdr : ws.drop i = [] := List.drop_of_length_le (by rw [← Hn.out]; exact Nat.le_refl _)
      have hw := hPi.out
      rw [hdr, wordsAt] at hw
      have hT2 : T = (0, 0, 0) := by rw [HT.out, ← hw]; rfl
      obtain ⟨hOn, hbn⟩ := Hout.out wr 0 0 0 hOw hT2
      have q0 : wr.cell? ⟨h + 1, 0, none⟩ = some (.int .i64 0) := (Hb2.out.only hOw (by simp)).cell 0
      have q1 : wr.cell? ⟨h + 1, 1, none⟩ = some (.int .i64 0) := (Hb2.out.only hOw (by simp)).cell 1
      have q2 : wr.cell? ⟨h + 1, 2, none⟩ = some (.int .i64 0) := (Hb2.out.only hOw (by simp)).cell 2
      have z0 := (Hb2.out.only hOw (by simp)).frozen 0
      have z1 := (Hb2.out.only hOw (by simp)).frozen 1
      have z2 := (Hb2.out.only hOw (by simp)).frozen 2
      have HT2 := Lib.hid hT2
      have Hbn := Lib.hid hbn
      clear hT2 hw hdr hbn
      go_wp2_with (fail)
      (try simp only [Exit.inBlock, Exit.then])
      refine bodyPost_ret (v := faultV T) ?_ rfl ⟨rfl, hOn⟩
      rw [results_cellD rfl]
      exact loadF5 Hbn.out
end Go.Proofs.YtgohinklnglgeaaDoor

set_option linter.unusedVariables false
set_option linter.unusedSimpArgs false
namespace Go.Proofs.YtgohinklnglgeaaDoor
open Go.RowKit

theorem lookM_mem {m : Mg} {p : Int × Int} (h : (m.l, m.r) = p) : ∀ (l : List Mg) (i : Nat), m ∈ l → (lookM i l p).isSome = true
  | [], _, hm => by cases hm
  | x :: l, i, hm => by
    rw [lookM]
    by_cases hx : (x.l, x.r) = p
    · rw [if_pos hx]; rfl
    · rw [if_neg hx]
      rcases List.mem_cons.1 hm with rfl | hm
      · exact absurd h hx
      · exact lookM_mem h l (i + 1) hm
/-- what is wrong with the merges, as a fault -/
def mergesF (ws : List ByteArray) (ms : List Mg) : Wr := if (pairsAt ws [] 0 ms).2 ≠ 0 then ((pairsAt ws [] 0 ms).2, 5, (pairsAt ws [] 0 ms).1) else (0, 0, 0)

set_option maxRecDepth 100000 in
set_option maxHeartbeats 8000000 in
theorem merges5_any (w : World) (v0 v1 v2 v3 v4 : Value) (ws : List ByteArray) (ms : List Mg) (a b d : List Sp) (hR : Rd5 w v0 v1 v2 v3 v4 ws ms a b d) (s0 : ws.length ≤ 17592186043904) (s1 : ms.length ≤ 17592186043904) (hws : ∀ s ∈ ws, s.size ≤ 256) (hms : ∀ m ∈ ms, m.ok) :
    Calls Tryd.prog 68 #[.agg #[v0, v1, v2, v3, v4]] w fun e w' => e = .returned (faultV (mergesF ws ms)) ∧ Only [] w w' := by
  obtain ⟨T, hT⟩ : ∃ T, T = mergesF ws ms := ⟨_, rfl⟩
  rw [← hT]
  obtain ⟨P, hP⟩ : ∃ P, P = pairsAt ws [] 0 ms := ⟨_, rfl⟩
  unfold mergesF at hT
  rw [← hP] at hT
  have hP0 : pairsAt ws (ms.take 0) 0 (ms.drop 0) = P := by rw [hP]; rfl
  obtain ⟨h, hh⟩ : ∃ h, h = w.heap.size := ⟨_, rfl⟩
  obtain ⟨W1, hW1⟩ : ∃ W1, W1 = (w.alloc (.cells #[v0, v1, v2, v3, v4] 38)).alloc (.cells #[.int .i64 0, .int .i64 0, .int .i64 0] 94) := ⟨_, rfl⟩
  have hb : Blk W1 h 38 [v0, v1, v2, v3, v4] := by rw [hW1]; exact (Blk.new' _ _ _ hh.symm rfl).alloc _
  have hb2 : Blk W1 (h + 1) 94 [.int .i64 0, .int .i64 0, .int .i64 0] := by rw [hW1]; exact Blk.new' _ _ _ (by simp; omega) rfl
  have hO : Only [] w W1 := by rw [hW1]; exact ((Only.refl _ _).alloc _).alloc _
  have hwh : w.heap.size ≤ h := by omega
  have hz1 : W1.heap.size = h + 2 := by rw [hW1]; simp; omega
  have hR1 := hR.only hO
  have HR5 := Lib.hid hR1
  obtain ⟨⟨A, c, rfl, -, r0⟩, ⟨A1, c1, rfl, -, r1⟩, ⟨A2, c2, rfl, -, -⟩, ⟨A3, c3, rfl, -, -⟩, ⟨A4, c4, rfl, -, -⟩⟩ := hR1
  obtain ⟨n, hn⟩ : ∃ n, n = ws.length := ⟨_, rfl⟩
  obtain ⟨nm, hnm⟩ : ∃ n, n = ms.length := ⟨_, rfl⟩
  rw [← hn] at r0 s0
  rw [← hnm] at r1 s1
  have HT := Lib.hid hT
  have HP0 := Lib.hid hP0
  have Hn := Lib.hid hn
  have Hnm := Lib.hid hnm
  have R0 := Lib.hid r0
  have R1 := Lib.hid r1
  have Hh := Lib.hid hh
  have HW := Lib.hid hW1
  have Hb2 := Lib.hid hb2
  have Hws := Lib.hid hws
  have Hms := Lib.hid hms
  have kS : ∀ W, Only [] W1 W → (W.cell? ⟨h, 0, none⟩ = some (.slice A n c) ∧ W.cell? ⟨h, 1, none⟩ = some (.slice A1 nm c1) ∧ W.cell? ⟨h, 2, none⟩ = some (.slice A2 a.length c2) ∧ W.cell? ⟨h, 3, none⟩ = some (.slice A3 b.length c3) ∧ W.cell? ⟨h, 4, none⟩ = some (.slice A4 d.length c4)) := by
    intro W hw
    rw [hn, hnm]
    have k := hb.only hw (by simp)
    exact ⟨k.cell 0, k.cell 1, k.cell 2, k.cell 3, k.cell 4⟩
  have KS := Lib.hid kS
  have kQ : ∀ W, Only [] W1 W → (W.cell? ⟨h + 1, 0, none⟩ = some (.int .i64 0) ∧ W.cell? ⟨h + 1, 1, none⟩ = some (.int .i64 0) ∧ W.cell? ⟨h + 1, 2, none⟩ = some (.int .i64 0) ∧ W.frozen? ⟨h + 1, 0, none⟩ = false ∧ W.frozen? ⟨h + 1, 1, none⟩ = false ∧ W.frozen? ⟨h + 1, 2, none⟩ = false) := by
    intro W hw
    have k := hb2.only hw (by simp)
    exact ⟨k.cell 0, k.cell 1, k.cell 2, k.frozen 0, k.frozen 1, k.frozen 2⟩
  have KQ := Lib.hid kQ
  /- how it is left -/
  have hout : ∀ (W : World) (x y z : Nat), Only [] W1 W → T = (x, y, z) → Only [] w (((W.setCell ⟨h + 1, 0, none⟩ (.int .i64 (x : Int))).setCell ⟨h + 1, 1, none⟩ (.int .i64 (y : Int))).setCell ⟨h + 1, 2, none⟩ (.int .i64 (z : Int))) ∧
      Blk (((W.setCell ⟨h + 1, 0, none⟩ (.int .i64 (x : Int))).setCell ⟨h + 1, 1, none⟩ (.int .i64 (y : Int))).setCell ⟨h + 1, 2, none⟩ (.int .i64 (z : Int))) (h + 1) 94 [.int .i64 (T.1 : Int), .int .i64 (T.2.1 : Int), .int .i64 (T.2.2 : Int)] := by
    intro W x y z hw hTx
    have hg : w.heap.size ≤ h + 1 := by omega
    refine ⟨(((hO.trans hw).setCell (p := ⟨h + 1, 0, none⟩) (.inr hg) _).setCell (p := ⟨h + 1, 1, none⟩) (.inr hg) _).setCell (p := ⟨h + 1, 2, none⟩) (.inr hg) _, ?_⟩
    rw [hTx]
    exact (((hb2.only hw (by simp)).set 0 _).set 1 _).set 2 _
  have Hout := Lib.hid hout
  clear hT hh hW1 hn hnm hb hb2 hR hws hms hout r0 r1 hP0 hP kS kQ
  go_enter Tryd.func68, Tryd.ntmps68
  go_upto_region 1 with (fail)
  rw [← Hh.out, ← HW.out]
  go_wp2_with (fail)
  go_loopw [3] (fun vi wr => ∃ i : Nat, vi = .int .i64 (i : Int) ∧ i ≤ nm ∧ Only [] W1 wr ∧ Hid (pairsAt ws (ms.take i) i (ms.drop i) = P)) (fun vi _ => nm - (intOf vi).toNat)
  case atStart => exact ⟨0, rfl, by omega, .refl _ _, HP0⟩
  case round =>
    obtain ⟨i, rfl, hi, hOw, hPi⟩ := hrel
    obtain ⟨k0, k1, k2, k3, k4⟩ := KS.out wr hOw
    by_cases hlt : i < nm
    · obtain ⟨m, hmi⟩ : ∃ m, ms[i]? = some m := ⟨_, List.getElem?_eq_getElem (by rw [← Hnm.out]; exact hlt)⟩
      obtain ⟨g1, o1, he1, _, q0, q1, q2⟩ := (R1.out.only hOw (by simp)).mg hmi
      subst he1
      obtain ⟨hok1, hok2, hok3⟩ := Hms.out m (List.mem_of_getElem? hmi)
      have hdr := drop_cons' hmi
      have htk := take_snoc' hmi
      have hw := hPi.out
      rw [hdr, pairsAt] at hw
      obtain ⟨done, hdone⟩ : ∃ done, done = ms.take i := ⟨_, rfl⟩
      rw [← hdone] at hw htk
      obtain ⟨ml, mr, mid⟩ := m
      simp only at q0 q1 q2 hok1 hok2 hok3 hw
      obtain ⟨hx, hhx⟩ : ∃ hx, hx = wr.heap.size := ⟨_, rfl⟩
      obtain ⟨W2, hW2⟩ : ∃ W2, W2 = wr.alloc (.cells #[.int .i64 ml, .int .i64 mr, .int .i64 mid] 75) := ⟨_, rfl⟩
      have bx : Blk W2 hx 75 [.int .i64 ml, .int .i64 mr, .int .i64 mid] := by rw [hW2]; exact Blk.new' _ _ _ hhx.symm rfl
      have hO2 : Only [] W1 W2 := by rw [hW2]; exact hOw.alloc _
      have Hw := Lib.hid hw
      have Hmi := Lib.hid hmi
      have Htk := Lib.hid htk
      have Hdone := Lib.hid hdone
      have HW2 := Lib.hid hW2
      have Hhx := Lib.hid hhx
      have kX : ∀ W, Only [] W2 W → (W.cell? ⟨hx, 0, none⟩ = some (.int .i64 ml) ∧ W.cell? ⟨hx, 1, none⟩ = some (.int .i64 mr) ∧ W.cell? ⟨hx, 2, none⟩ = some (.int .i64 mid)) := fun W hw => by
        have k := bx.only hw (by simp)
        exact ⟨k.cell 0, k.cell 1, k.cell 2⟩
      have KX := Lib.hid kX
      clear hw hmi htk hdone hdr hPi hW2 hhx kX
      go_upto_region 5 with (fail)
      rw [← Hhx.out, ← HW2.out]
      clear k0 k1 k2 k3 k4 q0 q1 q2 bx
      obtain ⟨k0, k1, k2, k3, k4⟩ := KS.out W2 hO2
      obtain ⟨x0, x1, x2⟩ := KX.out W2 (.refl _ _)
      obtain ⟨q0, q1, q2, z0, z1, z2⟩ := KQ.out W2 hO2
      unfold i64ok at hok1 hok2 hok3
      by_cases h1 : mid < 256
      · have hb : badId ws done mid = true := by unfold badId; rw [decide_eq_true (.inl h1)]; rfl
        have hT2 : T = (24, 5, i) := by rw [HT.out, ← Hw.out, if_pos hb, if_pos (by simp)]
        obtain ⟨hOn, hbn⟩ := Hout.out W2 24 5 i hO2 hT2
        have Hbn := Lib.hid hbn
        clear hb hT2 hbn
        go_wp2_with (fail)
        (try simp only [Exit.inBlock, Exit.then])
        refine bodyPost_ret (v := faultV T) ?_ rfl ⟨rfl, hOn⟩
        rw [results_cellD rfl]
        exact loadF5 Hbn.out
      · obtain ⟨j, hj⟩ : ∃ j : Nat, mid - 256 = (j : Int) := ⟨(mid - 256).toNat, by omega⟩
        have Hj := Lib.hid hj
        by_cases hjn : ¬ j < n
        · have hjn' : n ≤ j := by omega
          have hb : badId ws done mid = true := by unfold badId; rw [decide_eq_true (.inr (by rw [← Hn.out]; omega))]; rfl
          have hT2 : T = (24, 5, i) := by rw [HT.out, ← Hw.out, if_pos hb, if_pos (by simp)]
          obtain ⟨hOn, hbn⟩ := Hout.out W2 24 5 i hO2 hT2
          have Hbn := Lib.hid hbn
          clear hb hT2 hbn
          go_wp2_with (fail)
          (try simp only [Exit.inBlock, Exit.then])
          refine bodyPost_ret (v := faultV T) ?_ rfl ⟨rfl, hOn⟩
          rw [results_cellD rfl]
          exact loadF5 Hbn.out
        · have hjn' : ¬ n ≤ j := by omega
          have hjl : j < n := by omega
          have hbI : badId ws done mid = (idsOf done).contains mid := by unfold badId; rw [decide_eq_false (by rw [← Hn.out]; omega), Bool.false_or]
          have hpI : partB (idsOf done) mid = (idsOf done).contains mid := by unfold partB; rw [decide_eq_false (by omega), decide_eq_true (by omega), Bool.false_or, Bool.true_and]
          have hmade : ∀ (W : World) (id : Int), Only [] W1 W → i64ok id → Calls Tryd.prog 82 #[.agg #[.slice A n c, .slice (some ⟨g1, o1, none⟩) nm c1, .slice A2 a.length c2, .slice A3 b.length c3, .slice A4 d.length c4], .int .i64 (i : Int), .int .i64 id] W fun e w' => e = .returned (.bool (partB (idsOf done) id)) ∧ Only [] W w' := by
            intro W id hw hid
            rw [Hn.out, Hnm.out, Hdone.out]
            exact made5_any W _ _ _ _ _ ws ms a b d (HR5.out.only hw) (by rw [← Hnm.out]; exact s1) i (by rw [← Hnm.out]; exact hi) id hid
          have hword : ∀ (W : World) (id : Int), Only [] W1 W → i64ok id → Calls Tryd.prog 83 #[.agg #[.slice A n c, .slice (some ⟨g1, o1, none⟩) nm c1, .slice A2 a.length c2, .slice A3 b.length c3, .slice A4 d.length c4], .int .i64 id] W fun e w' => e = .returned (.tuple #[.string (wordB ws id), .bool (isWord ws id)]) ∧ Only [] W w' := by
            intro W id hw hid
            rw [Hn.out, Hnm.out]
            exact word5_any W _ _ _ _ _ ws ms a b d (HR5.out.only hw) (by rw [← Hn.out]; exact s0) id hid
          have Hmade := Lib.hid hmade
          have Hword := Lib.hid hword
          obtain ⟨C, hC⟩ : ∃ C, C = (idsOf done).contains mid := ⟨_, rfl⟩
          rw [← hC] at hbI hpI
          have HbI := Lib.hid hbI
          have HpI := Lib.hid hpI
          clear hbI hpI hC hmade hword
          go_wp2_with (fail)
          refine (Hmade.out W2 mid hO2 hok3).mono ?_
          rintro e W3 ⟨rfl, hO3⟩
          rw [HpI.out]
          clear k0 k1 k2 k3 k4 x0 x1 x2 q0 q1 q2 z0 z1 z2
          have hO13 := hO2.trans hO3
          obtain ⟨k0, k1, k2, k3, k4⟩ := KS.out W3 hO13
          obtain ⟨x0, x1, x2⟩ := KX.out W3 hO3
          obtain ⟨q0, q1, q2, z0, z1, z2⟩ := KQ.out W3 hO13
          cases C with
          | true =>
            have hT2 : T = (24, 5, i) := by rw [HT.out, ← Hw.out, if_pos HbI.out, if_pos (by simp)]
            obtain ⟨hOn, hbn⟩ := Hout.out W3 24 5 i hO13 hT2
            have Hbn := Lib.hid hbn
            clear hT2 hbn
            go_wp2_with (fail)
            (try simp only [Exit.inBlock, Exit.then])
            refine bodyPost_ret (v := faultV T) ?_ rfl ⟨rfl, hOn⟩
            rw [results_cellD rfl]
            exact loadF5 Hbn.out
          | false =>
            have hw1 := Hw.out
            rw [if_neg (by rw [HbI.out]; simp)] at hw1
            obtain ⟨pl, hpl⟩ : ∃ p, p = partB (idsOf done) ml := ⟨_, rfl⟩
            obtain ⟨pr, hpr⟩ : ∃ p, p = partB (idsOf done) mr := ⟨_, rfl⟩
            rw [← hpl, ← hpr] at hw1
            have Hw1 := Lib.hid hw1
            have Hpl := Lib.hid hpl
            have Hpr := Lib.hid hpr
            clear hw1 hpl hpr
            go_wp2_with (fail)
            refine (Hmade.out W3 ml hO13 hok1).mono ?_
            rintro e W4 ⟨rfl, hO4⟩
            rw [← Hpl.out]
            clear k0 k1 k2 k3 k4 x0 x1 x2 q0 q1 q2 z0 z1 z2
            have hO14 := hO13.trans hO4
            have hO24 := hO3.trans hO4
            obtain ⟨k0, k1, k2, k3, k4⟩ := KS.out W4 hO14
            obtain ⟨x0, x1, x2⟩ := KX.out W4 hO24
            obtain ⟨q0, q1, q2, z0, z1, z2⟩ := KQ.out W4 hO14
            cases pl with
            | false =>
              have hT2 : T = (23, 5, i) := by rw [HT.out, ← Hw1.out, if_pos (by simp), if_pos (by simp)]
              obtain ⟨hOn, hbn⟩ := Hout.out W4 23 5 i hO14 hT2
              have Hbn := Lib.hid hbn
              clear hT2 hbn
              go_wp2_with (fail)
              (try simp only [Exit.inBlock, Exit.then])
              refine bodyPost_ret (v := faultV T) ?_ rfl ⟨rfl, hOn⟩
              rw [results_cellD rfl]
              exact loadF5 Hbn.out
            | true =>
              go_wp2_with (fail)
              refine (Hmade.out W4 mr hO14 hok2).mono ?_
              rintro e W5 ⟨rfl, hO5⟩
              rw [← Hpr.out]
              clear k0 k1 k2 k3 k4 x0 x1 x2 q0 q1 q2 z0 z1 z2
              have hO15 := hO14.trans hO5
              have hO25 := hO24.trans hO5
              obtain ⟨k0, k1, k2, k3, k4⟩ := KS.out W5 hO15
              obtain ⟨x0, x1, x2⟩ := KX.out W5 hO25
              obtain ⟨q0, q1, q2, z0, z1, z2⟩ := KQ.out W5 hO15
              cases pr with
              | false =>
                have hT2 : T = (23, 5, i) := by rw [HT.out, ← Hw1.out, if_pos (by simp), if_pos (by simp)]
                obtain ⟨hOn, hbn⟩ := Hout.out W5 23 5 i hO15 hT2
                have Hbn := Lib.hid hbn
                clear hT2 hbn
                go_wp2_with (fail)
                (try simp only [Exit.inBlock, Exit.then])
                refine bodyPost_ret (v := faultV T) ?_ rfl ⟨rfl, hOn⟩
                rw [results_cellD rfl]
                exact loadF5 Hbn.out
              | true =>
                have hw1 := Hw1.out
                rw [if_neg (by simp)] at hw1
                have Hw3 := Lib.hid hw1
                clear hw1 q0 q1 q2 z0 z1 z2
                go_wp2_with (fail)
                refine (Hword.out W5 ml hO15 hok1).mono ?_
                rintro e W6 ⟨rfl, hO6⟩
                obtain ⟨sl, hsl⟩ : ∃ s, s = wordB ws ml := ⟨_, rfl⟩
                obtain ⟨sr, hsr⟩ : ∃ s, s = wordB ws mr := ⟨_, rfl⟩
                rw [← hsl]
                have Hsl := Lib.hid hsl
                have Hsr := Lib.hid hsr
                clear hsl hsr k0 k1 k2 k3 k4 x0 x1 x2
                have hO16 := hO15.trans hO6
                have hO26 := hO25.trans hO6
                obtain ⟨k0, k1, k2, k3, k4⟩ := KS.out W6 hO16
                obtain ⟨x0, x1, x2⟩ := KX.out W6 hO26
                go_wp2_with (fail)
                refine (Hword.out W6 mr hO16 hok2).mono ?_
                rintro e W7 ⟨rfl, hO7⟩
                rw [← Hsr.out]
                clear k0 k1 k2 k3 k4 x0 x1 x2
                have hO17 := hO16.trans hO7
                have hO27 := hO26.trans hO7
                obtain ⟨k0, k1, k2, k3, k4⟩ := KS.out W7 hO17
                obtain ⟨x0, x1, x2⟩ := KX.out W7 hO27
                obtain ⟨q0, q1, q2, z0, z1, z2⟩ := KQ.out W7 hO17
                obtain ⟨s, hsj⟩ : ∃ s, ws[j]? = some s := ⟨_, List.getElem?_eq_getElem (by rw [← Hn.out]; exact hjl)⟩
                obtain ⟨g0, o0, he0, _, q⟩ := (R0.out.only hO17 (by simp)).wd hsj
                subst he0
                have hwm : wordB ws mid = s := by
                  unfold wordB
                  rw [if_neg (by omega), if_pos ⟨by omega, by rw [← Hn.out]; omega⟩, hj, Int.toNat_natCast, List.getD_eq_getElem?_getD, hsj]; rfl
                have y1 : sl.size ≤ 256 := by rw [Hsl.out]; exact wordB_size Hws.out ml
                have y2 : sr.size ≤ 256 := by rw [Hsr.out]; exact wordB_size Hws.out mr
                have had : ¬ (9223372036854775807 < sl.size + sr.size) := by omega
                obtain ⟨su, hsu⟩ : ∃ su, su = sl ++ sr := ⟨_, rfl⟩
                have hap : sl ++ sr = su := hsu.symm
                have hw3 := Hw3.out
                rw [hwm, ← Hsl.out, ← Hsr.out, ← hsu] at hw3
                have Hw4 := Lib.hid hw3
                clear hw3 hsj hwm hsu Hw3
                by_cases hse : s.data.toList = su.data.toList
                · have hne : (s.toList == su.toList) = true := by rw [Lib.toList_data, Lib.toList_data, hse]; simp
                  have hw5 := Hw4.out
                  rw [if_neg (by simpa using hse)] at hw5
                  have Hw5 := Lib.hid hw5
                  have hno0 : lookM 0 (ms.take 0) (ml, mr) = none := rfl
                  have Hno0 := Lib.hid hno0
                  clear hse hw5 hno0
                  go_wp2_with (fail)
                  go_loopw [9] (fun vj wx => ∃ t : Nat, vj = .int .i64 (t : Int) ∧ t ≤ i ∧ Only [] W2 wx ∧ Hid (lookM 0 (ms.take t) (ml, mr) = none)) (fun vj _ => i - (intOf vj).toNat)
                  case atStart => exact ⟨0, rfl, by omega, hO27, Hno0⟩
                  case round =>
                    obtain ⟨t, rfl, ht, hO2x, hno⟩ := hrel
                    clear k0 k1 k2 k3 k4 x0 x1 x2 q0 q1 q2 z0 z1 z2 q
                    have hO1x := hO2.trans hO2x
                    obtain ⟨k0, k1, k2, k3, k4⟩ := KS.out wr hO1x
                    obtain ⟨x0, x1, x2⟩ := KX.out wr hO2x
                    obtain ⟨q0, q1, q2, z0, z1, z2⟩ := KQ.out wr hO1x
                    by_cases hti : t < i
                    · obtain ⟨p, hpt⟩ : ∃ p, ms[t]? = some p := ⟨_, List.getElem?_eq_getElem (by rw [← Hnm.out]; omega)⟩
                      obtain ⟨_, _, he, _, p0, p1, p2⟩ := (R1.out.only hO1x (by simp)).mg hpt
                      cases he
                      have htn : t < nm := by omega
                      have hsn : lookM 0 (ms.take (t + 1)) (ml, mr) = if (p.l, p.r) = (ml, mr) then some (0 + (ms.take t).length, p.id) else none := by rw [take_snoc' hpt, lookM_snoc, hno.out]
                      have hmem : (p.l, p.r) = (ml, mr) → (lookM 0 done (ml, mr)).isSome = true := fun h => lookM_mem h _ _ (by rw [Hdone.out]; exact List.mem_of_getElem? (i := t) (by rw [List.getElem?_take, if_pos hti]; exact hpt))
                      have Hsn := Lib.hid hsn
                      have Hmem := Lib.hid hmem
                      clear hsn hmem hpt
                      obtain ⟨pl, pr, pid⟩ := p
                      simp only at p0 p1 p2
                      by_cases e1 : pl = ml
                      · by_cases e2 : pr = mr
                        · have hT2 : T = (22, 5, i) := by rw [HT.out, ← Hw5.out, if_pos (Hmem.out (by simp [e1, e2])), if_pos (by simp)]
                          have hbn := fun k => Hout.out (wr.drewN k) 22 5 i (hO1x.drewN k) hT2
                          have Hbn := Lib.hid hbn
                          subst e1 e2
                          clear hT2 hbn
                          go_wp2_with (fail)
                          go_quiet (fail)
                          go_wp2_with (fail)
                          (try simp only [Exit.inBlock, Exit.then])
                          refine bodyPost_ret (v := faultV T) ?_ rfl ⟨rfl, (Hbn.out _).1⟩
                          rw [results_cellD rfl]
                          exact loadF5 (Hbn.out _).2
                        · have hno2 : lookM 0 (ms.take (t + 1)) (ml, mr) = none := by rw [Hsn.out, if_neg (by simp [e2])]
                          have Hno2 := Lib.hid hno2
                          have e1' : decide (pl = ml) = true := decide_eq_true e1
                          have e2' : decide (pr = mr) = false := decide_eq_false e2
                          clear hno2
                          go_wp2_with (fail)
                          go_quiet (fail)
                          go_wp2_with (fail)
                          refine ⟨⟨t + 1, by go_num, by omega, hO2x.drewN _, Hno2⟩, by simp [intOf]; omega⟩
                      · have hno2 : lookM 0 (ms.take (t + 1)) (ml, mr) = none := by rw [Hsn.out, if_neg (by simp [e1])]
                        have Hno2 := Lib.hid hno2
                        have e1' : decide (pl = ml) = false := decide_eq_false e1
                        clear hno2
                        go_wp2_with (fail)
                        go_quiet (fail)
                        go_wp2_with (fail)
                        refine ⟨⟨t + 1, by go_num, by omega, hO2x.drewN _, Hno2⟩, by simp [intOf]; omega⟩
                    · obtain rfl : t = i := by omega
                      have hw6 := Hw5.out
                      rw [← Hdone.out] at hno
                      rw [if_neg (by rw [hno.out]; simp), ← Htk.out] at hw6
                      have Hw6 := Lib.hid hw6
                      clear hw6
                      go_wp2_with (fail)
                      refine ⟨⟨t + 1, by go_num, by omega, hO1x, Hw6⟩, by simp [intOf]; omega⟩
                · have hne : (s.toList == su.toList) = false := by rw [Lib.toList_data, Lib.toList_data]; exact beq_eq_false_iff_ne.2 hse
                  have hw5 := Hw4.out
                  rw [if_pos hse] at hw5
                  have hT2 : T = (25, 5, i) := by rw [HT.out, ← hw5, if_pos (by simp)]
                  obtain ⟨hOn, hbn⟩ := Hout.out W7 25 5 i hO17 hT2
                  have Hbn := Lib.hid hbn
                  clear hT2 hbn hse hw5
                  go_wp2_with (fail)
                  (try simp only [Exit.inBlock, Exit.then])
                  refine bodyPost_ret (v := faultV T) ?_ rfl ⟨rfl, hOn⟩
                  rw [results_cellD rfl]
                  exact loadF5 Hbn.out
    · obtain rfl : i = nm := by omega
      obtain ⟨q0, q1, q2, z0, z1, z2⟩ := KQ.out wr hOw
      have hdr : ms.drop i = [] := List.drop_of_length_le (by rw [← Hnm.out]; exact Nat.le_refl _)
      have hw := hPi.out
      rw [hdr, pairsAt] at hw
      have hT2 : T = (0, 0, 0) := by rw [HT.out, ← hw]; rfl
      obtain ⟨hOn, hbn⟩ := Hout.out wr 0 0 0 hOw hT2
      have HT2 := Lib.hid hT2
      have Hbn := Lib.hid hbn
      clear hT2 hw hdr hbn
      go_wp2_with (fail)
      (try simp only [Exit.inBlock, Exit.then])
      refine bodyPost_ret (v := faultV T) ?_ rfl ⟨rfl, hOn⟩
      rw [results_cellD rfl]
      exact loadF5 Hbn.out
end Go.Proofs.YtgohinklnglgeaaDoor
