/- model.pairs. -/
import Derived.Test.YtfnhdkabfkjodaaMd5
import Derived.WalkHide
import Derived.Deep.RegionHeld3
set_option linter.unusedVariables false
set_option linter.unusedSimpArgs false
namespace Go.Proofs.Ytfnhdkabfkjodaa
open Go.RowKit

theorem own_rd' {w : World} {base : Nat} {e : TypeId} {size n c : Nat} {A : Option Addr} {xs : List Value} (h : w.ownsRow base e size (.slice A n c) n xs) : n ≤ c ∧ Rd w w.heap.size size A n xs := by
  obtain ⟨A', c', e, h1, h2, _⟩ := own_slice h
  injection e with e1 _ e2
  subst e1 e2
  exact ⟨h1, h2⟩
def PrRel (w : World) (base g : Nat) (v0 v1 v2 v3 v4 : Value) (tb mq : Nat) (ws : List ByteArray) (ms : List Mg) (a b d : List Sp) (lg bx b4 bm n i : Nat) (wr : World) : Prop :=
  MdX wr base g v0 v1 v2 v3 v4 tb mq ws ms a b d i (lookM 0 (ms.take i)) lg ∧ (∃ mk, MadeAt wr (bm + 1) (some ⟨bm, 0, none⟩) n (idsOf (ms.take i)) mk ∧ Blk wr bm 4 (mk.map Value.bool)) ∧
    Blk wr bx 30 [.pointer (some ⟨g, 0, none⟩)] ∧ Blk wr b4 127 [.slice (some ⟨bm, 0, none⟩) n n] ∧ Only [mq] w wr ∧ pairsAt ws (ms.take i) i (ms.drop i) = pairsAt ws [] 0 ms

theorem MapIs.there {P : Program} {α β : Type} {M : MapTy P α β} {w : World} {b N : Nat} {f : α → Option β} (h : MapIs M w b N f) : ∃ es cl, w.heap[b]? = some (.map es cl) := by
  obtain ⟨D, ⟨es, cl, h1, _⟩, _⟩ := h
  exact ⟨es, cl, h1⟩
/-- a merge more -/
theorem MdX.more {w w' : World} {base g : Nat} {v0 v1 v2 v3 v4 : Value} {tb mq : Nat} {ws : List ByteArray} {ms : List Mg} {a b d : List Sp} {N N' : Nat} {f f' : Int × Int → Option (Nat × Int)} {lg : Nat} (h : MdX w base g v0 v1 v2 v3 v4 tb mq ws ms a b d N f lg) (hO : Only [mq] w w') (hm : MapIs pairTy w' mq N' f') : MdX w' base g v0 v1 v2 v3 v4 tb mq ws ms a b d N' f' lg := by
  have hg := h.hg
  refine ⟨h.blk.only hO (by simp; omega), h.own.only hO (fun x hx => .inr ?_), h.tab.only hO (fun x hx => .inr (by simp at hx; omega)), hm, h.hb, h.hg, h.small⟩
  obtain rfl : x = mq := by simpa using hx
  exact ⟨0, [], .inr h.map.there⟩
theorem MadeAt.put {w w' : World} {bm n : Nat} {ids : List Int} {mk : List Bool} (h : MadeAt w (bm + 1) (some ⟨bm, 0, none⟩) n ids mk) {j : Nat} (hj : j < n) {mid : Int} (hm : (256 : Int) + (j : Int) = mid) (hb : Blk w' bm 4 ((mk.set j true).map Value.bool)) : MadeAt w' (bm + 1) (some ⟨bm, 0, none⟩) n (ids ++ [mid]) (mk.set j true) := by
  have hl := h.len
  refine ⟨Rd.whole (size := 1) (n := n) hb (by simp [hl]), by simp [hl], fun k hk => ?_, fun x hx => ?_⟩
  · by_cases e : j = k
    · subst e
      rw [List.getElem?_set_self (by omega), ← hm]
      simp
    · rw [List.getElem?_set_ne e, h.is_ k hk]
      have hne : ¬ (256 + (k : Int) = mid) := by omega
      simp [hne]
  · rcases List.mem_append.1 hx with hx | hx
    · exact h.rng x hx
    · have : x = mid := by simpa using hx
      omega
set_option maxRecDepth 100000 in
set_option maxHeartbeats 8000000 in
theorem pairs_any (w : World) (base g : Nat) (ws : List ByteArray) (ms : List Mg) (a b d : List Sp) (lg : Nat) (v0 v1 v2 v3 v4 : Value) (tb mq : Nat) (hM : MdX w base g v0 v1 v2 v3 v4 tb mq ws ms a b d 0 (fun _ => none) lg) (hws : ∀ s ∈ ws, s.size ≤ 256) (hms : ∀ m ∈ ms, m.ok) (hln : ws.length = ms.length) :
    Calls Try.prog 49 #[.pointer (some ⟨g, 0, none⟩)] w fun e w' => e = .returned (.tuple #[.int .i64 ((pairsAt ws [] 0 ms).1 : Int), .int .i64 ((pairsAt ws [] 0 ms).2 : Int)]) ∧ Only [mq] w w' ∧ ((pairsAt ws [] 0 ms).2 = 0 → MdX w' base g v0 v1 v2 v3 v4 tb mq ws ms a b d ms.length (lookM 0 ms) lg) := by
  obtain ⟨T, hT⟩ : ∃ T, T = pairsAt ws [] 0 ms := ⟨_, rfl⟩
  obtain ⟨A, c, rfl, -, -, hA⟩ := own_slice hM.own.o0
  obtain ⟨A1, c1, rfl, -, -, -⟩ := own_slice hM.own.o1
  obtain ⟨n, hn⟩ : ∃ n, n = ws.length := ⟨_, rfl⟩
  obtain ⟨nm, hnm⟩ : ∃ nm, nm = ms.length := ⟨_, rfl⟩
  have hn4 : n ≤ 4096 := by rw [hn]; exact hM.small.1
  have hnm4 : nm ≤ 4096 := by rw [hnm]; exact hM.small.2.1
  obtain ⟨bx, hbx⟩ : ∃ bx, bx = w.heap.size := ⟨_, rfl⟩
  have hgx : g < bx := by rw [hbx]; exact hM.blk.lt
  have hmk := fun W => run_make_rep1 (P := Try.prog) 127 4 (.bool false) 1 Try.underlying127 (by kernel_rfl) rfl .i64 .i64 n n (Nat.le_refl _) (by omega) (by omega) W
  have cw : (w.alloc (.cells #[.pointer (some ⟨g, 0, none⟩)] 30)).cell? ⟨g, 0, none⟩ = some (.slice A n c) := by rw [hn]; exact (hM.blk.alloc _).cell 0
  obtain ⟨w2, hw2⟩ : ∃ w2, w2 = ((w.alloc (.cells #[.pointer (some ⟨g, 0, none⟩)] 30)).alloc (.cells (Array.replicate n (Value.bool false)) 4)).alloc (.cells #[.slice (some ⟨bx + 1, 0, none⟩) n n] 127) := ⟨_, rfl⟩
  have hb1 : Blk w2 bx 30 [.pointer (some ⟨g, 0, none⟩)] := by rw [hw2]; exact ((Blk.new' _ _ _ hbx.symm rfl).alloc _).alloc _
  have hb2 : Blk w2 (bx + 1) 4 ((List.replicate n false).map Value.bool) := by rw [hw2]; exact (Blk.new' _ _ _ (by simp; omega) (by simp)).alloc _
  have hb3 : Blk w2 (bx + 1 + 1) 127 [.slice (some ⟨bx + 1, 0, none⟩) n n] := by rw [hw2]; exact Blk.new' _ _ _ (by simp; omega) rfl
  have hO2 : Only [] w w2 := by rw [hw2]; exact (((Only.refl _ _).alloc _).alloc _).alloc _
  have H0 : PrRel w base g (.slice A ws.length c) (.slice A1 ms.length c1) v2 v3 v4 tb mq ws ms a b d lg bx (bx + 1 + 1) (bx + 1) n 0 w2 := by
    refine ⟨hM.only0 hO2, ⟨List.replicate n false, ⟨?_, by simp, fun j hj => by simp [hj, idsOf], by simp [idsOf]⟩, hb2⟩, hb1, hb3, hO2.mono (by simp), rfl⟩
    exact (Rd.whole (size := 1) (n := n) hb2 (by simp)).more (Nat.le_refl _)
  have cm : w2.cell? ⟨g, 1, none⟩ = some (.slice A1 nm c1) := by rw [hnm]; exact (hM.only0 hO2).blk.cell 1
  have cx : w2.cell? ⟨bx, 0, none⟩ = some (.pointer (some ⟨g, 0, none⟩)) := hb1.cell 0
  rw [← hT]
  have HT := Lib.hid hT
  have Hn := Lib.hid hn
  have Hnm := Lib.hid hnm
  have Hbx := Lib.hid hbx
  have Hw2 := Lib.hid hw2
  have HH0 := Lib.hid H0
  have hwx : w.heap.size ≤ bx := by omega
  have Hws := Lib.hid hws
  have Hms := Lib.hid hms
  have Hln := Lib.hid hln
  have hmqw : mq < g := hM.hg
  clear hT hn hnm hbx hw2 hb1 hb2 hb3 hO2 H0 hM hA hws hms hln
  go_enter Try.func49, Try.ntmps49
  go_upto_region 2 with (fail)
  rw [← Hbx.out, ← Hw2.out]
  go_wp2_with (fail)
  go_loopw [6, 7, 8, 9, 10, 11, 12, 13, 14, 29] (fun _ _ _ _ _ _ _ _ _ v29 wr => ∃ i : Nat, v29 = .int .i64 (i : Int) ∧ i ≤ nm ∧ PrRel w base g (.slice A ws.length c) (.slice A1 ms.length c1) v2 v3 v4 tb mq ws ms a b d lg bx (bx + 1 + 1) (bx + 1) n i wr) (fun _ _ _ _ _ _ _ _ _ v29 _ => nm - (intOf v29).toNat)
  case atStart => exact ⟨0, rfl, by omega, HH0.out⟩
  case round =>
    obtain ⟨i, rfl, hi, hrel⟩ := hrel
    by_cases hlt : i < nm
    · obtain ⟨hX, ⟨mk, hmk, hbm⟩, hbx, hb4, hO, hw⟩ := hrel
      obtain ⟨m, hmi⟩ : ∃ m, ms[i]? = some m := ⟨_, List.getElem?_eq_getElem (by rw [← Hnm.out]; exact hlt)⟩
      obtain ⟨hok1, hok2, hok3⟩ := Hms.out m (List.mem_of_getElem? hmi)
      have hdr := drop_cons' hmi
      have htk := take_snoc' hmi
      rw [hdr, pairsAt] at hw
      obtain ⟨g1, o1, rfl, _, q0, q1, q2⟩ := (own_rd' hX.own.o1).2.mg hmi
      obtain ⟨done, hdone⟩ : ∃ done, done = ms.take i := ⟨_, rfl⟩
      rw [← hdone] at hX hmk hw htk
      have hdl : done.length = i := by rw [hdone, List.length_take]; have := Hnm.out; omega
      obtain ⟨ml, mr, mid⟩ := m
      simp only at q0 q1 q2 hok1 hok2 hok3 hw
      have hsz := hX.blk.lt
      have hbxl := hbx.lt
      have hb4l := hb4.lt
      obtain ⟨W, hW⟩ : ∃ W, W = (wr.alloc (.cells #[.int .i64 ml, .int .i64 mr, .int .i64 mid] 38)).alloc (.cells #[.int .i64 ml, .int .i64 mr] 106) := ⟨_, rfl⟩
      obtain ⟨hx, hhx⟩ : ∃ hx, hx = wr.heap.size := ⟨_, rfl⟩
      have bx1 : Blk W hx 38 [.int .i64 ml, .int .i64 mr, .int .i64 mid] := by rw [hW]; exact (Blk.new' _ _ _ hhx.symm rfl).alloc _
      have bx2 : Blk W (hx + 1) 106 [.int .i64 ml, .int .i64 mr] := by rw [hW]; exact Blk.new' _ _ _ (by simp; omega) rfl
      have hOW : Only [] wr W := by rw [hW]; exact ((Only.refl _ _).alloc _).alloc _
      have Hw := Lib.hid hw
      have Hmi := Lib.hid hmi
      have Htk := Lib.hid htk
      have Hdone := Lib.hid hdone
      have Hdl := Lib.hid hdl
      have HW := Lib.hid hW
      have Hhx := Lib.hid hhx
      have HX := Lib.hid (hX.only0 hOW)
      have Hmk := Lib.hid (hmk.only hOW (by simp))
      have Hbm := Lib.hid (hbm.only hOW (by simp))
      have Hbx := Lib.hid (hbx.only hOW (by simp))
      have Hb4 := Lib.hid (hb4.only hOW (by simp))
      have HO := Lib.hid (hO.trans0 hOW)
      have hwxr : w.heap.size ≤ hx := by rw [hhx]; exact hO.size
      have hbxh : bx + 1 + 1 < hx := by omega
      clear hw hmi htk hdone hdl hdr hX hmk hbm hbx hb4 hO hW hhx
      go_upto_region 7 with (fail)
      rw [← Hhx.out, ← HW.out]
      have e0 : W.cell? ⟨hx, 0, none⟩ = some (.int .i64 ml) := bx1.cell 0
      have e1 : W.cell? ⟨hx, 1, none⟩ = some (.int .i64 mr) := bx1.cell 1
      have e2 : W.cell? ⟨hx, 2, none⟩ = some (.int .i64 mid) := bx1.cell 2
      have e3 : W.cell? ⟨hx + 1, 0, none⟩ = some (.int .i64 ml) := bx2.cell 0
      have e4 : W.cell? ⟨hx + 1, 1, none⟩ = some (.int .i64 mr) := bx2.cell 1
      have e5 : W.cell? ⟨bx, 0, none⟩ = some (.pointer (some ⟨g, 0, none⟩)) := Hbx.out.cell 0
      have e6 : W.cell? ⟨bx + 1 + 1, 0, none⟩ = some (.slice (some ⟨bx + 1, 0, none⟩) n n) := Hb4.out.cell 0
      have Bx1 := Lib.hid bx1
      have Bx2 := Lib.hid bx2
      have hszc := fun W' (h : Only [] W W') => size_any W' base g ws ms a b d i (lookM 0 done) lg (HX.out.only0 h).at_
      obtain ⟨sz, hsz2⟩ : ∃ sz, sz = 256 + ws.length := ⟨_, rfl⟩
      rw [← hsz2] at hszc
      have Hs2 := Lib.hid hsz2
      have Hszc := Lib.hid hszc
      have hszn : sz = 256 + n := by rw [hsz2, Hn.out]
      unfold i64ok at hok1 hok2 hok3
      have Hret : ∀ (k : Nat) (W' : World), Only [] W W' → T = (i, k) → k ≠ 0 → Only [mq] w W' ∧ (T.2 = 0 → MdX W' base g (.slice A ws.length c) (.slice (some ⟨g1, o1, none⟩) ms.length c1) v2 v3 v4 tb mq ws ms a b d ms.length (lookM 0 ms) lg) := fun k W' h e hk => ⟨HO.out.trans0 h, fun h0 => by rw [e] at h0; exact absurd h0 hk⟩
      have HRet := Lib.hid Hret
      clear bx1 bx2 hszc hsz2 Hret
      by_cases h1 : mid < 256
      · have hb : badId ws done mid = true := by unfold badId; rw [decide_eq_true (.inl h1)]; rfl
        have hT2 : T = (i, 24) := by rw [HT.out, ← Hw.out, if_pos hb]
        have HT2 := Lib.hid hT2
        have h1' : decide (mid < 256) = true := decide_eq_true h1
        clear hb hT2
        go_quiet (fail)
        go_wp2_with (fail)
        go_ret2
        exact ⟨by rw [HT2.out]; rfl, HRet.out 24 _ ((Only.refl _ _).drewN _) HT2.out (by omega)⟩
      · have h1' : decide (mid < 256) = false := decide_eq_false h1
        by_cases h2 : (sz : Int) ≤ mid
        · have h2' : decide ((sz : Int) ≤ mid) = true := decide_eq_true h2
          have hb : badId ws done mid = true := by unfold badId; rw [decide_eq_true (.inr (by have := Hs2.out; omega))]; rfl
          have hT2 : T = (i, 24) := by rw [HT.out, ← Hw.out, if_pos hb]
          have HT2 := Lib.hid hT2
          clear hb hT2 hszn
          go_quiet ((go_at_call 18; exact Calls.quiet_of_same ((Hszc.out _ (by first | exact Only.refl _ _ | exact (Only.refl _ _).drewN _ | exact Only.drew (Only.refl _ _))).mono fun e w' h => ⟨h.1, h.2.symm⟩)))
          go_wp2_with (fail)
          go_ret2
          exact ⟨by rw [HT2.out]; rfl, HRet.out 24 _ ((Only.refl _ _).drewN _) HT2.out (by omega)⟩
        · have h2' : decide ((sz : Int) ≤ mid) = false := decide_eq_false h2
          obtain ⟨j, hj⟩ : ∃ j : Nat, mid - 256 = (j : Int) := ⟨(mid - 256).toNat, by omega⟩
          have hjn : j < n := by omega
          obtain ⟨gm, om, hgm, q⟩ := Hmk.out.cell hjn
          injection hgm with hgm
          injection hgm with hgm1 hgm2
          subst hgm1 hgm2
          have hje : (256 : Int) + (j : Int) = mid := by omega
          rw [hje, Nat.zero_add] at q
          have hbI : badId ws done mid = (idsOf done).contains mid := by unfold badId; rw [decide_eq_false (by have := Hs2.out; omega), Bool.false_or]
          obtain ⟨C, hC⟩ : ∃ C, C = (idsOf done).contains mid := ⟨_, rfl⟩
          rw [← hC] at q hbI
          have HbI := Lib.hid hbI
          have HC := Lib.hid hC
          have hwr : IntKind.i64.wrap (mid - 256) = (j : Int) := by rw [hj]; exact IntWalk.i64_in _ (by omega)
          have hj0 : (0 : Int) ≤ (j : Int) := by omega
          have hjn' : (j : Int) < (n : Int) := by omega
          clear hbI hC hje hszn
          cases C with
          | true =>
            have hT2 : T = (i, 24) := by rw [HT.out, ← Hw.out, if_pos HbI.out]
            have HT2 := Lib.hid hT2
            clear hT2
            go_quiet ((go_at_call 18; exact Calls.quiet_of_same ((Hszc.out _ (by first | exact Only.refl _ _ | exact (Only.refl _ _).drewN _ | exact Only.drew (Only.refl _ _))).mono fun e w' h => ⟨h.1, h.2.symm⟩)))
            go_wp2_with (fail)
            go_ret2
            exact ⟨by rw [HT2.out]; rfl, HRet.out 24 _ ((Only.refl _ _).drewN _) HT2.out (by omega)⟩
          | false =>
            go_quiet ((go_at_call 18; exact Calls.quiet_of_same ((Hszc.out _ (by first | exact Only.refl _ _ | exact (Only.refl _ _).drewN _ | exact Only.drew (Only.refl _ _))).mono fun e w' h => ⟨h.1, h.2.symm⟩)))
            go_wp2_with (fail)
            refine name_it (p := fun y => Calls _ _ _ y _) ?_
            intro W1 H1
            have hO1 : Only [] W W1 := by rw [H1.out]; exact (Only.refl _ _).drewN _
            have hbad : badId ws done mid = false := HbI.out
            have hw1 := Hw.out
            rw [if_neg (by rw [hbad]; simp)] at hw1
            have Hw1 := Lib.hid hw1
            clear hw1 hbad h1' h2' hwr H1 q e0 e1 e2 e3 e4 e5 e6
            have X1 := HX.out.only0 hO1
            have K1 := Hmk.out.only hO1 (by simp)
            have bb1 := Hbx.out.only hO1 (by simp)
            have b41 := Hb4.out.only hO1 (by simp)
            have bx1 := Bx1.out.only hO1 (by simp)
            have bx2 := Bx2.out.only hO1 (by simp)
            have hpt := part_any W1 base g ws ms a b d i (lookM 0 done) lg X1.at_ bx (bx + 1 + 1) (some ⟨bx + 1, 0, none⟩) n (bx + 1 + 1) n (idsOf done) mk Hn.out (bb1.cell 0) (b41.cell 0) K1
            have Hpt := Lib.hid hpt
            have e0 : W1.cell? ⟨hx, 0, none⟩ = some (.int .i64 ml) := bx1.cell 0
            have e1 : W1.cell? ⟨hx, 1, none⟩ = some (.int .i64 mr) := bx1.cell 1
            have e2 : W1.cell? ⟨hx, 2, none⟩ = some (.int .i64 mid) := bx1.cell 2
            have e5 : W1.cell? ⟨bx, 0, none⟩ = some (.pointer (some ⟨g, 0, none⟩)) := bb1.cell 0
            have X1 := Lib.hid X1
            have K1 := Lib.hid K1
            clear hpt bb1 b41 bx1 bx2
            refine (Hpt.out ml hok1).mono ?_
            rintro e w5 ⟨rfl, rfl⟩
            obtain ⟨pl, hpl⟩ : ∃ p, p = partB (idsOf done) ml := ⟨_, rfl⟩
            obtain ⟨pr, hpr⟩ : ∃ p, p = partB (idsOf done) mr := ⟨_, rfl⟩
            rw [← hpl]
            have hw1 := Hw1.out
            rw [← hpl, ← hpr] at hw1
            have Hw2 := Lib.hid hw1
            have Hpl := Lib.hid hpl
            have Hpr := Lib.hid hpr
            clear hpl hpr hw1
            cases pl with
            | false =>
              have hT2 : T = (i, 23) := by rw [HT.out, ← Hw2.out, if_pos (by simp)]
              have HT2 := Lib.hid hT2
              clear hT2
              go_wp2_with (fail)
              go_ret2
              exact ⟨by rw [HT2.out]; rfl, HRet.out 23 _ hO1 HT2.out (by omega)⟩
            | true =>
              go_wp2_with (fail)
              refine (Hpt.out mr hok2).mono ?_
              rintro e w5 ⟨rfl, rfl⟩
              rw [← Hpr.out]
              cases pr with
              | false =>
                have hT2 : T = (i, 23) := by rw [HT.out, ← Hw2.out, if_pos (by simp)]
                have HT2 := Lib.hid hT2
                clear hT2
                go_wp2_with (fail)
                go_ret2
                exact ⟨by rw [HT2.out]; rfl, HRet.out 23 _ hO1 HT2.out (by omega)⟩
              | true =>
                have hw1 := Hw2.out
                rw [if_neg (by simp)] at hw1
                have Hw3 := Lib.hid hw1
                clear hw1 Hpt
                go_wp2_with (fail)
                refine (word_any W1 base g ws ms a b d i (lookM 0 done) lg X1.out.at_ ml hok1).mono ?_
                rintro e W2 ⟨rfl, hO2⟩
                have hO2 := hO1.trans hO2
                obtain ⟨sl, hsl⟩ : ∃ s, s = wordB ws ml := ⟨_, rfl⟩
                obtain ⟨sr, hsr⟩ : ∃ s, s = wordB ws mr := ⟨_, rfl⟩
                rw [← hsl]
                have Hsl := Lib.hid hsl
                have Hsr := Lib.hid hsr
                clear hsl hsr e0 e1 e2 e5 X1 K1
                have X2 := HX.out.only0 hO2
                have bx1 := Bx1.out.only hO2 (by simp)
                have e1 : W2.cell? ⟨hx, 1, none⟩ = some (.int .i64 mr) := bx1.cell 1
                have e5 : W2.cell? ⟨bx, 0, none⟩ = some (.pointer (some ⟨g, 0, none⟩)) := (Hbx.out.only hO2 (by simp)).cell 0
                have X2 := Lib.hid X2
                clear bx1
                go_wp2_with (fail)
                refine (word_any W2 base g ws ms a b d i (lookM 0 done) lg X2.out.at_ mr hok2).mono ?_
                rintro e W3 ⟨rfl, hO3⟩
                have hO3 := hO2.trans hO3
                rw [← Hsr.out]
                clear e1 e5 X2
                have X3 := HX.out.only0 hO3
                have bx1 := Bx1.out.only hO3 (by simp)
                have e2 : W3.cell? ⟨hx, 2, none⟩ = some (.int .i64 mid) := bx1.cell 2
                have e5 : W3.cell? ⟨bx, 0, none⟩ = some (.pointer (some ⟨g, 0, none⟩)) := (Hbx.out.only hO3 (by simp)).cell 0
                have e6 : W3.cell? ⟨g, 0, none⟩ = some (.slice A n c) := by have h := X3.blk.cell 0; rw [← Hn.out] at h; exact h
                obtain ⟨s, hsj⟩ : ∃ s, ws[j]? = some s := ⟨_, List.getElem?_eq_getElem (by rw [← Hn.out]; exact hjn)⟩
                obtain ⟨g0, o0, rfl, _, q⟩ := (own_rd' X3.own.o0).2.wd hsj
                have hwm : wordB ws mid = s := by
                  unfold wordB
                  rw [if_neg (by omega), if_pos ⟨by omega, by have := Hs2.out; omega⟩, hj, Int.toNat_natCast, List.getD_eq_getElem?_getD, hsj]; rfl
                have hwr : IntKind.i64.wrap (mid - 256) = (j : Int) := by rw [hj]; exact IntWalk.i64_in _ (by omega)
                have z1 : sl.size ≤ 256 := by rw [Hsl.out]; exact wordB_size Hws.out ml
                have z2 : sr.size ≤ 256 := by rw [Hsr.out]; exact wordB_size Hws.out mr
                have had : ¬ (9223372036854775807 < sl.size + sr.size) := by omega
                obtain ⟨su, hsu⟩ : ∃ su, su = sl ++ sr := ⟨_, rfl⟩
                have hap : sl ++ sr = su := hsu.symm
                have X3 := Lib.hid X3
                have hw3 := Hw3.out
                rw [hwm, ← Hsl.out, ← Hsr.out, ← hsu] at hw3
                have Hw4 := Lib.hid hw3
                clear hw3 hsj hwm hsu bx1 Hw3
                by_cases hse : s.data.toList = su.data.toList
                · have hne : (s.toList == su.toList) = true := by rw [Lib.toList_data, Lib.toList_data, hse]; simp
                  have hw5 := Hw4.out
                  rw [if_neg (by simpa using hse)] at hw5
                  have Hw5 := Lib.hid hw5
                  clear hse hw5
                  go_wp2_with (fail)
                  go_quiet (fail)
                  go_wp2_with (fail)
                  refine name_it (p := fun y => Code.wp _ _ _ _ y) ?_
                  intro W4 H4
                  have hO4 : Only [] W W4 := by rw [H4.out]; exact hO3.drewN _
                  have X4 := HX.out.only0 hO4
                  have hlk : ∀ W', Only [] W4 W' → (Instr.lookup 98 (.map (some mq)) (.agg #[.int .i64 ml, .int .i64 mr]) true).run Try.prog W' = .ok (.tuple #[.agg #[.int .i64 (((lookM 0 done (ml, mr)).getD (0, 0)).1 : Int), .int .i64 ((lookM 0 done (ml, mr)).getD (0, 0)).2], .bool (lookM 0 done (ml, mr)).isSome]) W' := fun W' h => (X4.only0 h).map.look (a := (ml, mr)) ⟨hok1, hok2⟩
                  obtain ⟨x, hx'⟩ : ∃ x, x = (lookM 0 done (ml, mr)).getD (0, 0) := ⟨_, rfl⟩
                  obtain ⟨y, hy⟩ : ∃ y, y = (lookM 0 done (ml, mr)).isSome := ⟨_, rfl⟩
                  rw [← hx', ← hy] at hlk
                  obtain ⟨x1, x2⟩ := x
                  simp only at hlk
                  have hk1 := hlk W4.drew ((Only.refl _ _).drew)
                  have hk2 := hlk (W4.alloc (.cells #[.int .i64 0, .int .i64 0] 104)).drew (((Only.refl _ _).alloc _).drew)
                  have kS : ∀ w', Only [] W4 w' → (w'.cell? ⟨bx, 0, none⟩ = some (.pointer (some ⟨g, 0, none⟩)) ∧ w'.cell? ⟨g, 6, none⟩ = some (.map (some mq)) ∧ w'.cell? ⟨hx + 1, 0, none⟩ = some (.int .i64 ml) ∧ w'.cell? ⟨hx + 1, 1, none⟩ = some (.int .i64 mr)) := fun w' h => by
                    have k1 := Hbx.out.only (hO4.trans h) (by simp)
                    have k2 := (X4.only0 h).blk
                    have k3 := Bx2.out.only (hO4.trans h) (by simp)
                    exact ⟨k1.cell 0, k2.cell 6, k3.cell 0, k3.cell 1⟩
                  have KS := Lib.hid kS
                  have X4 := Lib.hid X4
                  have Hx := Lib.hid hx'
                  have Hy := Lib.hid hy
                  clear hlk kS hx' hy H4 q e2 e5 e6 hap had hne
                  go_region_held3 (fun w' => w'.cell? ⟨bx, 0, none⟩ = some (.pointer (some ⟨g, 0, none⟩)) ∧ w'.cell? ⟨g, 6, none⟩ = some (.map (some mq)) ∧ w'.cell? ⟨hx + 1, 0, none⟩ = some (.int .i64 ml) ∧ w'.cell? ⟨hx + 1, 1, none⟩ = some (.int .i64 mr))
                    (first | exact KS.out _ ((Only.refl _ _).drew) | exact KS.out _ (((Only.refl _ _).alloc _).drew) | exact KS.out _ (by assumption))
                    (fail)
                  all_goals
                    refine name_it (p := fun y => Exit.then _ _ _ _ y) ?_
                    intro W5 H5
                    have hO5 : Only [] W W5 := by rw [H5.out]; exact hO4.trans (((Only.refl _ _).alloc _).drew)
                    clear H5 hk1 hk2 KS
                    cases y with
                    | true =>
                      have hw5 := Hw5.out
                      rw [← Hy.out, if_pos rfl] at hw5
                      have hT2 : T = (i, 22) := by rw [HT.out, ← hw5]
                      have HT2 := Lib.hid hT2
                      clear hT2 hw5
                      go_wp2_with (fail)
                      go_ret2
                      exact ⟨by rw [HT2.out]; rfl, HRet.out 22 _ hO5 HT2.out (by omega)⟩
                    | false =>
                      have hw5 := Hw5.out
                      rw [← Hy.out, if_neg (by simp)] at hw5
                      have Hw6 := Lib.hid hw5
                      have X5 := HX.out.only0 (hO5.trans (Only.refl [] W5).drew)
                      have hnone : lookM 0 done (ml, mr) = none := by
                        have := Hy.out
                        cases h : lookM 0 done (ml, mr) with
                        | none => rfl
                        | some v => rw [h] at this; cases this
                      obtain ⟨W6, hrun, hO6, hst⟩ := X5.map.store (a := (ml, mr)) ⟨hok1, hok2⟩ (i, mid) (by unfold maxLen; omega)
                      have hrun : (Instr.mapUpdate 98 (.map (some mq)) (.agg #[.int .i64 ml, .int .i64 mr]) (.agg #[.int .i64 (i : Int), .int .i64 mid])).run Try.prog W5.drew = .ok () W6 := hrun
                      have c1 : W5.drew.cell? ⟨bx, 0, none⟩ = some (.pointer (some ⟨g, 0, none⟩)) := (Hbx.out.only hO5 (by simp)).cell 0
                      have c2 : W5.drew.cell? ⟨g, 6, none⟩ = some (.map (some mq)) := X5.blk.cell 6
                      have c3 : W5.drew.cell? ⟨hx + 1, 0, none⟩ = some (.int .i64 ml) := (Bx2.out.only hO5 (by simp)).cell 0
                      have c4 : W5.drew.cell? ⟨hx + 1, 1, none⟩ = some (.int .i64 mr) := (Bx2.out.only hO5 (by simp)).cell 1
                      have c5 : W5.drew.cell? ⟨hx, 2, none⟩ = some (.int .i64 mid) := (Bx1.out.only hO5 (by simp)).cell 2
                      have hmw : mq < W.heap.size := HX.out.map.lt
                      have hO6' : Only [mq] W W6 := (hO5.mono (by simp)).trans (((Only.refl [mq] W5).drew).trans hO6)
                      have hgx' : g ≠ mq := by omega
                      have d5 : W6.cell? ⟨hx, 2, none⟩ = some (.int .i64 mid) := (Bx1.out.only hO6' (by simp; omega)).cell 2
                      have d6 : W6.cell? ⟨bx + 1 + 1, 0, none⟩ = some (.slice (some ⟨bx + 1, 0, none⟩) n n) := (Hb4.out.only hO6' (by simp; omega)).cell 0
                      have hbm6 := Hbm.out.only hO6' (by simp; omega)
                      have d7 : W6.cell? ⟨bx + 1, j, none⟩ = some (.bool false) := by
                        obtain ⟨gm, om, hgm, q⟩ := Hmk.out.cell hjn
                        injection hgm with hgm
                        injection hgm with hgm1 hgm2
                        subst hgm1 hgm2
                        have hje : (256 : Int) + (j : Int) = mid := by omega
                        rw [hje, ← HC.out, Nat.zero_add] at q
                        exact hO6'.cellv q (by simp; omega)
                      have d8 : W6.frozen? ⟨bx + 1, j, none⟩ = false := hbm6.frozen j
                      have X5' := Lib.hid X5
                      have Hst := Lib.hid hst
                      have Hbm6 := Lib.hid hbm6
                      have HO6 := Lib.hid hO6
                      have HO6' := Lib.hid hO6'
                      have Hnone := Lib.hid hnone
                      clear hw5 X5 hst hbm6 hO6 hO6' hnone
                      go_wp2_with (fail)
                      go_still_tail 9, (by kernel_rfl)
                      go_wp2_with (fail)
                      refine ⟨⟨i + 1, by go_num, by omega, ?_⟩, by simp [intOf]; omega⟩
                      have hX6 := X5'.out.more HO6.out (Hst.out (lookM 0 (done ++ [⟨ml, mr, mid⟩])) (by rw [lookM_snoc, Hnone.out]; simp; exact Hdl.out) (fun a' ha' => by
                        rw [lookM_snoc]
                        cases h : lookM 0 done a' with
                        | some v => rfl
                        | none => simp only; rw [if_neg (fun e => ha' e.symm)]))
                      have hbm6 := Hbm6.out
                      have hOs : Only [bx + 1] W6 (W6.setCell ⟨bx + 1, j, none⟩ (.bool true)) := (Only.refl [bx + 1] _).setCell (.inl (by simp)) _
                      have hX7 := hX6.only hOs (fun x hx => .inr (by
                        obtain rfl : x = bx + 1 := by simpa using hx
                        exact ⟨by omega, by omega, _, _, hbm6, by decide, by decide, by decide⟩))
                      have hb7 : Blk (W6.setCell ⟨bx + 1, j, none⟩ (.bool true)) (bx + 1) 4 ((mk.set j true).map Value.bool) := by
                        rw [List.map_set]; exact hbm6.set j (.bool true)
                      have hO7 := HO6'.out
                      refine ⟨?_, ⟨mk.set j true, ?_, hb7⟩, ?_, ?_, ?_, ?_⟩
                      · rw [Htk.out]; exact hX7
                      · rw [Htk.out, idsOf_snoc]; exact Hmk.out.put (mid := mid) hjn (by omega) hb7
                      · exact (Hbx.out.only hO7 (by simp; omega)).only hOs (by simp)
                      · exact (Hb4.out.only hO7 (by simp; omega)).only hOs (by simp)
                      · exact ((HO.out.trans hO7).setCell (p := ⟨bx + 1, j, none⟩) (.inr (by show w.heap.size ≤ bx + 1; omega)) _)
                      · rw [Htk.out]; exact Hw6.out
                · have hne : (s.toList == su.toList) = false := by rw [Lib.toList_data, Lib.toList_data]; simpa using hse
                  have hT2 : T = (i, 25) := by rw [HT.out, ← Hw4.out, if_pos hse]
                  have HT2 := Lib.hid hT2
                  clear hT2 hse
                  go_wp2_with (fail)
                  go_quiet (fail)
                  go_wp2_with (fail)
                  go_ret2
                  exact ⟨by rw [HT2.out]; rfl, HRet.out 25 _ (hO3.drewN _) HT2.out (by omega)⟩
    · obtain rfl : i = nm := by omega
      obtain ⟨hX, -, -, -, hO, hw⟩ := hrel
      have htk : ms.take i = ms := List.take_of_length_le (by rw [← Hnm.out]; exact Nat.le_refl _)
      have hdr : ms.drop i = [] := List.drop_of_length_le (by rw [← Hnm.out]; exact Nat.le_refl _)
      rw [hdr, pairsAt] at hw
      rw [htk] at hX
      have hT2 : T = (0, 0) := by rw [HT.out, ← hw]
      have HT2 := Lib.hid hT2
      have HX := Lib.hid hX
      clear hT2 hw htk hdr hX
      go_wp2_with (fail)
      go_ret2
      exact ⟨by rw [HT2.out]; rfl, hO, fun _ => by have h := HX.out; rw [Hnm.out] at h; exact h⟩
end Go.Proofs.Ytfnhdkabfkjodaa
