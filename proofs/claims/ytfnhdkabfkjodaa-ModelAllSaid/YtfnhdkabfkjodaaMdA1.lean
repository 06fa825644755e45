/- ModelAll, walked. -/
import Derived.Test.YtfnhdkabfkjodaaMdA
set_option linter.unusedVariables false
set_option linter.unusedSimpArgs false
namespace Go.Proofs.Ytfnhdkabfkjodaa
open Go.RowKit Go.Maps

set_option maxRecDepth 100000 in
set_option maxHeartbeats 8000000 in
theorem modelAll_walk (w : World) (v0 v1 v2 v3 v4 : Value) (ws : List ByteArray) (ms : List Mg) (a b d : List Sp) (hR : Rd5 w v0 v1 v2 v3 v4 ws ms a b d)
    (s0 : ws.length ≤ 8796093021952) (s1 : ms.length ≤ 5864062014634) (s2 : a.length ≤ 17592186043904) (s3 : b.length ≤ 17592186043904) (s4 : d.length ≤ 17592186043904) (hws : ∀ s ∈ ws, s.size ≤ maxLen) (hms : ∀ m ∈ ms, m.ok) :
    Calls Try.prog 5 #[.agg #[v0, v1, v2, v3, v4]] w fun e w' => e = .returned (.bool true) ∧ Only [] w w' := by
  obtain ⟨h, hh⟩ : ∃ h, h = w.heap.size := ⟨_, rfl⟩
  obtain ⟨W1, hW1⟩ : ∃ W1, W1 = w.alloc (.cells #[v0, v1, v2, v3, v4] 26) := ⟨_, rfl⟩
  have hb : Blk W1 h 26 [v0, v1, v2, v3, v4] := by rw [hW1]; exact Blk.new' _ _ _ hh.symm rfl
  have hO : Only [] w W1 := by rw [hW1]; exact (Only.refl _ _).alloc _
  have hR1 := hR.only hO
  have hof := ofM_any W1 _ _ _ _ _ ws ms a b d hR1 (by omega) (by omega) s2 s3 s4 hws hms
  obtain ⟨⟨A0, c0, e0, -⟩, ⟨A1, c1, e1, -⟩, ⟨A2, c2, e2, -⟩, ⟨A3, c3, e3, -⟩, ⟨A4, c4, e4, -⟩⟩ := hR1
  obtain ⟨n0, hn0⟩ : ∃ n, n = ws.length := ⟨_, rfl⟩
  obtain ⟨n1, hn1⟩ : ∃ n, n = ms.length := ⟨_, rfl⟩
  obtain ⟨n2, hn2⟩ : ∃ n, n = a.length := ⟨_, rfl⟩
  obtain ⟨n3, hn3⟩ : ∃ n, n = b.length := ⟨_, rfl⟩
  obtain ⟨n4, hn4⟩ : ∃ n, n = d.length := ⟨_, rfl⟩
  rw [← hn0] at e0
  rw [← hn1] at e1
  rw [← hn2] at e2
  rw [← hn3] at e3
  rw [← hn4] at e4
  subst e0 e1 e2 e3 e4
  have k0 : W1.cell? ⟨h, 0, none⟩ = some (.slice A0 n0 c0) := hb.cell 0
  have k1 : W1.cell? ⟨h, 1, none⟩ = some (.slice A1 n1 c1) := hb.cell 1
  have k2 : W1.cell? ⟨h, 2, none⟩ = some (.slice A2 n2 c2) := hb.cell 2
  have k3 : W1.cell? ⟨h, 3, none⟩ = some (.slice A3 n3 c3) := hb.cell 3
  have k4 : W1.cell? ⟨h, 4, none⟩ = some (.slice A4 n4 c4) := hb.cell 4
  have Hof := Lib.hid hof
  have N0 := Lib.hid hn0
  have N1 := Lib.hid hn1
  have Hms := Lib.hid hms
  have Hh := Lib.hid hh
  have HW := Lib.hid hW1
  have HO := Lib.hid hO
  clear hh hW1 hb hR hof hws hms hn0 hn1 hn2 hn3 hn4 s0 s1 s2 s3 s4 hO
  have hmm := @run_makeMap Try.prog
  go_enter Try.func5, Try.ntmps5
  go_upto_region 1 with (fail)
  rw [← Hh.out, ← HW.out]
  go_wp2_with (fail)
  refine Hof.out.mono ?_
  intro e W2 hpost
  rcases hpost.no with ⟨rfl, hO2⟩ | ⟨g, base, rfl, hO2, -, hF, hM, hm300⟩
  · clear hpost k0 k1 k2 k3 k4
    go_wp2_with (fail)
    refine (known5_any W2).mono ?_
    rintro e W3 ⟨rfl, hO3⟩
    go_wp2_with (fail)
    go_ret
    exact ⟨rfl, HO.out.trans (hO2.trans hO3)⟩
  · have HF := Lib.hid hF
    have HM := Lib.hid hM
    have hln := (fault_parts hF).1
    have Hln := Lib.hid hln
    have hn1b : n1 ≤ 300 := by rw [N1.out]; exact hm300
    have hn01 : n0 = n1 := by rw [N0.out, N1.out]; exact hln
    subst hn01
    have hwsz : ∀ s ∈ ws, s.size ≤ 256 := fun s hs => (words_small ws [] 0 (fault_parts hF).2.2.2.1 s hs).2
    have Hwsz := Lib.hid hwsz
    clear hpost k0 k1 k2 k3 k4 hM hF hln hm300 hwsz Hof
    obtain ⟨mr, hmr⟩ : ∃ m, m = W2.heap.size := ⟨_, rfl⟩
    obtain ⟨W3, hW3⟩ : ∃ W3, W3 = W2.alloc (.map #[] 0) := ⟨_, rfl⟩
    have hO23 : Only [] W2 W3 := by rw [hW3]; exact (Only.refl _ _).alloc _
    have hmp3 : MapN rankTy W3 mr 0 (fun _ => none) := by rw [hW3]; exact MapN.new rankTy W2 hmr.symm
    have hz3 : W3.heap.size = mr + 1 := by rw [hW3]; simp; omega
    have Hmp3 := Lib.hid hmp3
    have hdt := data_any W3 base g ws ms a b d _ _ _ (HM.out.only0 hO23)
    have Hdt := Lib.hid hdt
    have Hmr := Lib.hid hmr
    have HW3 := Lib.hid hW3
    clear hmp3 hdt hmr hW3
    go_upto_region 5 with (fail)
    rw [← Hmr.out, ← HW3.out]
    go_wp2_with (fail)
    refine Hdt.out.mono ?_
    rintro e W4 ⟨u0, u1, u2, u3, u4, rfl, h5, hO4⟩
    obtain ⟨B0, d0, e0, -⟩ := own_slice h5.o0
    obtain ⟨B1, d1, e1, -⟩ := own_slice h5.o1
    obtain ⟨B2, d2, e2, -⟩ := own_slice h5.o2
    obtain ⟨B3, d3, e3, -⟩ := own_slice h5.o3
    obtain ⟨B4, d4, e4, -⟩ := own_slice h5.o4
    rw [← N1.out] at e1
    subst e0 e1 e2 e3 e4
    have H5 := Lib.hid h5
    obtain ⟨q, hq⟩ : ∃ m, m = W4.heap.size := ⟨_, rfl⟩
    obtain ⟨W5, hW5⟩ : ∃ W5, W5 = W4.alloc (.cells #[.slice B0 ws.length d0, .slice B1 n0 d1, .slice B2 a.length d2, .slice B3 b.length d3, .slice B4 d.length d4] 26) := ⟨_, rfl⟩
    have hbq : Blk W5 q 26 [.slice B0 ws.length d0, .slice B1 n0 d1, .slice B2 a.length d2, .slice B3 b.length d3, .slice B4 d.length d4] := by rw [hW5]; exact Blk.new' _ _ _ hq.symm rfl
    have hO45 : Only [] W4 W5 := by rw [hW5]; exact (Only.refl _ _).alloc _
    have hz4 := hO4.size
    have hmq : mr < q := by omega
    have hO25 : Only [] W2 W5 := (hO23.trans hO4).trans hO45
    have hz2 : W2.heap.size ≤ mr := by rw [← Hmr.out]; exact Nat.le_refl _
    /- what stays, in the loop -/
    have kW : ∀ W, Only [mr] W5 W → Only [] W2 W := fun W hw => hO25.trans' hw (by simp; omega)
    have kB : ∀ W, Only [mr] W5 W → W.cell? ⟨q, 1, none⟩ = some (.slice B1 n0 d1) := fun W hw => (hbq.only hw (by simp; omega)).cell 1
    have kM : ∀ W, Only [mr] W5 W → Rd W W.heap.size 3 B1 n0 (mgs ms) := fun W hw => by
      have o1 := h5.only hO45 (l := []) (by simp)
      have o2 := o1.only hw (fun x hx => .inl (by simp at hx; omega))
      have o3 := o2.o1
      rw [← N1.out] at o3
      exact (own_rd' o3).2
    have KW := Lib.hid kW
    have KB := Lib.hid kB
    have KM := Lib.hid kM
    have hmp5 := Hmp3.out.only (hO4.trans hO45) (by simp)
    have HM5 := Lib.hid hmp5
    have HW5 := Lib.hid hW5
    have Hq := Lib.hid hq
    have HO2 := Lib.hid hO2
    have R0 : RankF ms 0 (fun _ => none) := ⟨fun id => by simp [idsOf], fun id v hv => by cases hv⟩
    have HR0 := Lib.hid R0
    clear h5 hbq kW kB kM hmp5 hW5 hq hO2 R0 Hdt
    go_upto_region 6 with (fail)
    rw [← Hq.out, ← HW5.out]
    go_wp2_with (fail)
    go_loopw [8] (fun vi wr => ∃ (i : Nat) (f : Int → Option Int), vi = .int .i64 (i : Int) ∧ i ≤ n0 ∧ Only [mr] W5 wr ∧ Hid (MapN rankTy wr mr i f) ∧ Hid (RankF ms i f)) (fun vi _ => n0 - (intOf vi).toNat)
    case atStart => exact ⟨0, _, rfl, by omega, .refl _ _, HM5, HR0⟩
    case round =>
      obtain ⟨i, f, rfl, hi, hOr, hMN, hRF⟩ := hrel
      have kq := KB.out wr hOr
      by_cases hlt : i < n0
      · obtain ⟨m, hmi⟩ : ∃ m, ms[i]? = some m := ⟨_, List.getElem?_eq_getElem (by rw [← N1.out]; exact hlt)⟩
        obtain ⟨g1, o1, hB1, _, q0, q1, q2⟩ := (KM.out wr hOr).mg hmi
        subst hB1
        obtain ⟨⟨i1, i2⟩, i3, i4, i5, i6, i7⟩ := right_at HF.out hmi
        obtain ⟨hok1, hok2, hok3⟩ := Hms.out m (List.mem_of_getElem? hmi)
        obtain ⟨w1, p1⟩ := part_at HF.out i4
        obtain ⟨w2, p2⟩ := part_at HF.out i5
        have w3 : isWord ws m.id = true := decide_eq_true (by omega)
        have hnx := hRF.out.next hmi
        have hno := hRF.out.no i3
        have hl1 := fun h => hRF.out.yes (p1 h)
        have hl2 := fun h => hRF.out.yes (p2 h)
        obtain ⟨ml, mr', mid⟩ := m
        simp only at q0 q1 q2 i1 i2 i4 i5 i6 i7 hok1 hok2 hok3 w1 w2 w3 hnx hno hl1 hl2
        have kS : ∀ W, Only [] wr W → W.cell? ⟨q, 1, none⟩ = some (.slice (some ⟨g1, o1, none⟩) n0 d1) ∧ W.cell? ⟨g1, o1 + i * 3, none⟩ = some (.int .i64 ml) ∧ W.cell? ⟨g1, o1 + i * 3 + 1, none⟩ = some (.int .i64 mr') ∧ W.cell? ⟨g1, o1 + i * 3 + 2, none⟩ = some (.int .i64 mid) := fun W hw =>
          ⟨hw.cellv kq (by simp), hw.cellv q0 (by simp), hw.cellv q1 (by simp), hw.cellv q2 (by simp)⟩
        have gM := fun W (hw : Only [] wr W) => merge_any W base g ws ms a b d _ _ _ (HM.out.only0 ((KW.out wr hOr).trans hw)) ml mr' hok1 hok2
        rw [i7] at gM
        simp only [Option.getD_some, Option.isSome_some] at gM
        have gW := fun W (hw : Only [] wr W) (id : Int) (hid : i64ok id) => word_any W base g ws ms a b d _ _ _ (HM.out.only0 ((KW.out wr hOr).trans hw)) id hid
        have KS := Lib.hid kS
        have GM := Lib.hid gM
        have GW := Lib.hid gW
        have Hnx := Lib.hid hnx
        have Hno := Lib.hid hno
        have Hl1 := Lib.hid hl1
        have Hl2 := Lib.hid hl2
        have I6 := Lib.hid i6
        have Ho1 := Lib.hid hok1
        have Ho2 := Lib.hid hok2
        have Ho3 := Lib.hid hok3
        have j1 := Lib.hid w1
        have j2 := Lib.hid w2
        have j3 := Lib.hid w3
        clear w1 w2 w3 hmi kS gM gW hnx hno hl1 hl2 i3 i4 i5 i6 i7 hok1 hok2 hok3 p1 p2 i2
        go_wp2_with (fail)
        go_region_held3 (fun W => (W.cell? ⟨q, 1, none⟩ = some (.slice (some ⟨g1, o1, none⟩) n0 d1) ∧ W.cell? ⟨g1, o1 + i * 3, none⟩ = some (.int .i64 ml) ∧ W.cell? ⟨g1, o1 + i * 3 + 1, none⟩ = some (.int .i64 mr') ∧ W.cell? ⟨g1, o1 + i * 3 + 2, none⟩ = some (.int .i64 mid)) ∧ Only [] wr W)
          (first | exact ⟨KS.out _ ((Only.refl _ _).drew), (Only.refl _ _).drew⟩ | exact ⟨KS.out _ (by assumption), (by assumption)⟩)
          (first
            | (go_at_call 15
               obtain ⟨-, hF⟩ := (by assumption : _ ∧ Only [] wr _)
               refine (GM.out _ hF).mono ?_
               rintro e w1 ⟨rfl, hF1⟩
               replace hF1 := hF.trans hF1
               clear hF))
        all_goals
          obtain ⟨a0, a1, a2, a3⟩ := KS.out w1 hF1
          clear kq q0 q1 q2
          go_wp2_with (fail)
          refine (GW.out w1 hF1 ml Ho1.out).mono ?_
          rintro e W6 ⟨rfl, hO6⟩
          obtain ⟨sl, hsl⟩ : ∃ s, s = wordB ws ml := ⟨_, rfl⟩
          obtain ⟨sr, hsr⟩ : ∃ s, s = wordB ws mr' := ⟨_, rfl⟩
          obtain ⟨sm, hsm⟩ : ∃ s, s = wordB ws mid := ⟨_, rfl⟩
          rw [j1.out, ← hsl]
          have Hsl := Lib.hid hsl
          have Hsr := Lib.hid hsr
          have Hsm := Lib.hid hsm
          have hF6 := hF1.trans hO6
          clear a0 a1 a2 a3 hsl hsr hsm
          obtain ⟨a0, a1, a2, a3⟩ := KS.out W6 hF6
          go_wp2_with (fail)
          refine (GW.out W6 hF6 mr' Ho2.out).mono ?_
          rintro e W7 ⟨rfl, hO7⟩
          rw [j2.out, ← Hsr.out]
          have hF7 := hF6.trans hO7
          clear a0 a1 a2 a3
          obtain ⟨a0, a1, a2, a3⟩ := KS.out W7 hF7
          go_wp2_with (fail)
          refine (GW.out W7 hF7 mid Ho3.out).mono ?_
          rintro e W8 ⟨rfl, hO8⟩
          rw [j3.out, ← Hsm.out]
          have hF8 := hF7.trans hO8
          clear a0 a1 a2 a3
          obtain ⟨a0, a1, a2, a3⟩ := KS.out W8 hF8
          have M8 := hMN.out.only hF8 (by simp)
          have lk0 : (Instr.lookup 47 (.map (some mr)) (.int .i64 mid) false).run Try.prog W8 = .ok (.int .i64 0) W8 := by
            have h := M8.look (a := mid) Ho3.out
            rw [Hno.out] at h; exact h
          obtain ⟨x1, hx1⟩ : ∃ x, x = (f ml).getD 0 := ⟨_, rfl⟩
          obtain ⟨x2, hx2⟩ : ∃ x, x = (f mr').getD 0 := ⟨_, rfl⟩
          have lk1 : (Instr.lookup 47 (.map (some mr)) (.int .i64 ml) false).run Try.prog W8 = .ok (.int .i64 x1) W8 := by
            rw [hx1]; exact M8.look (a := ml) Ho1.out
          have lk2 : (Instr.lookup 47 (.map (some mr)) (.int .i64 mr') false).run Try.prog W8 = .ok (.int .i64 x2) W8 := by
            rw [hx2]; exact M8.look (a := mr') Ho2.out
          have hz1 : 256 ≤ ml → x1 ≠ 0 := fun h => by rw [hx1]; exact Hl1.out h
          have hz2' : 256 ≤ mr' → x2 ≠ 0 := fun h => by rw [hx2]; exact Hl2.out h
          obtain ⟨W9, hrun, hO9, hst⟩ := M8.store (a := mid) Ho3.out Hno.out ((i : Int) + 1) (by unfold maxLen; omega)
          have hrun : (Instr.mapUpdate 47 (.map (some mr)) (.int .i64 mid) (.int .i64 ((i : Int) + 1))).run Try.prog W8 = .ok () W9 := hrun
          have hM9 := hst (fun id => if id = mid then some ((i : Int) + 1) else f id) (if_pos rfl) (fun a' h => if_neg h)
          have HM9 := Lib.hid hM9
          have y1 : sl.size ≤ 256 := by rw [Hsl.out]; exact wordB_size Hwsz.out ml
          have y2 : sr.size ≤ 256 := by rw [Hsr.out]; exact wordB_size Hwsz.out mr'
          have had : ¬ (9223372036854775807 < sl.size + sr.size) := by omega
          obtain ⟨su, hsu⟩ : ∃ su, su = sl ++ sr := ⟨_, rfl⟩
          have hap : sl ++ sr = su := hsu.symm
          have hne : (sm.toList == su.toList) = true := by
            have h := I6.out
            rw [← Hsl.out, ← Hsr.out, ← Hsm.out, ← hsu] at h
            rw [Lib.toList_data, Lib.toList_data, h]; simp
          have hlast : Only [mr] W5 W9 := (hOr.trans (hF8.mono (by simp))).trans hO9
          have hnl : ¬ mid < 256 := by omega
          have Hx1 := Lib.hid hx1
          have Hx2 := Lib.hid hx2
          have Hz1 := Lib.hid hz1
          have Hz2 := Lib.hid hz2'
          clear hx1 hx2 hz1 hz2' hst hM9 hsu M8 hO6 hO7 hO8 hF1 hF6 hF7
          by_cases h1 : 256 ≤ ml
          · have hq1 : (x1 == 0) = false := beq_eq_false_iff_ne.2 (Hz1.out h1)
            by_cases h2 : 256 ≤ mr'
            · have hq2 : (x2 == 0) = false := beq_eq_false_iff_ne.2 (Hz2.out h2)
              go_wp2_with (fail)
              refine ⟨⟨i + 1, _, by go_num, by omega, hlast, HM9, Hnx⟩, by simp [intOf]; omega⟩
            · go_wp2_with (fail)
              refine ⟨⟨i + 1, _, by go_num, by omega, hlast, HM9, Hnx⟩, by simp [intOf]; omega⟩
          · by_cases h2 : 256 ≤ mr'
            · have hq2 : (x2 == 0) = false := beq_eq_false_iff_ne.2 (Hz2.out h2)
              go_wp2_with (fail)
              refine ⟨⟨i + 1, _, by go_num, by omega, hlast, HM9, Hnx⟩, by simp [intOf]; omega⟩
            · go_wp2_with (fail)
              refine ⟨⟨i + 1, _, by go_num, by omega, hlast, HM9, Hnx⟩, by simp [intOf]; omega⟩
      · obtain rfl : i = n0 := by omega
        have hlen : (Builtin.len_ #[47] 3 #[.map (some mr)]).run Try.prog wr = .ok (.int .i64 (i : Int)) wr := hMN.out.len _
        have hsz := size_any wr base g ws ms a b d _ _ _ (HM.out.only0 (KW.out wr hOr))
        rw [show ((256 + ws.length : Nat) : Int) = 256 + (i : Int) by have := Hln.out; have := N1.out; omega] at hsz
        have Hsz := Lib.hid hsz
        have hwp : IntKind.i64.wrap (256 + (i : Int) - 256) = (i : Int) := by rw [show (256 : Int) + (i : Int) - 256 = (i : Int) by omega]; exact IntWalk.i64_in _ (by omega)
        clear hsz
        go_wp2_with (fail)
        refine Hsz.out.mono ?_
        rintro e w9 ⟨rfl, rfl⟩
        go_wp2_with (fail)
        refine (known5_any wr).mono ?_
        rintro e w9 ⟨rfl, hO9⟩
        go_wp2_with (fail)
        go_ret
        exact ⟨rfl, HO.out.trans (HO2.out.trans ((KW.out wr hOr).trans hO9))⟩
end Go.Proofs.Ytfnhdkabfkjodaa
