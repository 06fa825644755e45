/- utf.Scanner: take. -/
import Derived.Test.YteadcibbpbbehaaDoorSc2
import Derived.WalkHide
set_option linter.unusedVariables false
set_option linter.unusedSimpArgs false
namespace Go.Proofs.YteadcibbpbbehaaDoor
open Go.RowKit

set_option maxRecDepth 100000 in
set_option maxHeartbeats 4000000 in
theorem take_any (w : World) (b d : Nat) (all : Bool) (s : ByteArray) (p : Nat) (hp : p ≤ s.size) (hs : s.size ≤ 1048576) (hd : d ≤ 140737488355328) (hT : Tabs w) (h2 : 2 ≤ b) (hS : ScanAt w b (from_ s p) (d + s.size)) :
    Calls Tryd.prog 40 #[.pointer (some ⟨b, 0, none⟩), .bool all] w (TkPost w b d s (scanS all s p)) := by
  obtain ⟨N, hN⟩ : ∃ N, N = d + s.size := ⟨_, rfl⟩
  unfold TkPost
  rw [← hN] at hS ⊢
  change Calls _ _ _ _ (TkPostN w b d N s (scanS all s p))
  have HN := Lib.hid hN
  have hNb : N ≤ 140737489403904 := by omega
  clear hN
  obtain ⟨A, c, hb, hown⟩ := hS
  have hb0 := hb
  obtain ⟨A', c', hAc, hnc, hR, hA0⟩ := own_slice hown
  obtain ⟨rfl, rfl⟩ : A' = A ∧ c' = c := by injection hAc with h1 _ h3; exact ⟨h1.symm, h3.symm⟩
  clear hAc
  rw [from_len] at hb hR hnc
  have hA1 : ∀ ad, A' = some ad → ad.block ≠ b := fun ad e => by have := (hA0 ad e).2; omega
  obtain ⟨T, hTT⟩ : ∃ T, T = scanS all s p := ⟨_, rfl⟩
  have hst : p ≤ s.size ∧ ([] ++ movedL d (scanS all s p).1 = movedL d T.1 ∧ (scanS all s p).2 = T.2 ∧ ([] : List It).length + (s.size - p) ≤ s.size) := ⟨hp, by rw [hTT]; rfl, by rw [hTT], by simp⟩
  rw [← hTT]
  have HTT := Lib.hid hTT
  have HA := Lib.hid hA1
  have HR := Lib.hid hR
  have Hnc := Lib.hid hnc
  have Hst := Lib.hid hst
  clear hA0 hA1 hown hTT hR hnc hst
  go_enter Tryd.func40, Tryd.ntmps40
  go_wp2_with (fail)
  refine wp_scope_look 1 (TkJ w b w.heap.size d N all s T) rfl ?first ?pass0 ?pass
  case first =>
    go_wp2_with (fail)
    have hOa := (Only.refl [b] w).alloc (.cells #[.int .i64 0, .int .i64 0, .int .i32 0, .bool false] 33)
    refine ⟨_, .inl ⟨rfl, p, [], .slice none 0 0, A', c', ⟨_, _, _, _, _, _, _, _, _, _, _, _, _, _, _, _, _, _, _, _, _, _, _, _, _, _, _, _, _, _, _, _, _, _, _, _, _, _, _, _, _, _, _, _, _, _, _, _, _, _, _, _, _, _, _, _, _, rfl⟩, rfl, hp, Hst.out.2, ⟨rfl, .inl ⟨rfl, rfl⟩⟩, Hnc.out, hb.alloc _, ?_, HA.out, ⟨_, _, _, _, Blk.new' _ _ _ rfl rfl⟩, (fun k hk => by cases hk), hOa, fun _ => rfl⟩⟩
    exact HR.out.alloc _
  case pass0 =>
    rintro m a W (⟨-, p, l, v, A, c, ⟨u2, u3, u7, u8, u9, u10, u11, u12, u13, u14, u15, u16, u17, u18, u19, u20, u21, u22, u23, u24, u25, u26, u27, u28, u29, u30, u31, u32, u33, u34, u35, u36, u37, u38, u39, u40, u41, u42, u43, u44, u45, u46, u47, u48, u49, u50, u51, u52, u53, u54, u55, u56, u57, u58, u59, u60, u61, rfl⟩, h0, h1, h3, h4, h5, h6, h7, h8, h9, h10, h11, h12⟩ | ⟨h, _⟩)
    · go_hideQ
      have hb := h6
      obtain ⟨n, hn⟩ : ∃ n, n = s.size - p := ⟨_, rfl⟩
      have hfl := from_len s p
      have hstr := from_str s p
      rw [← hn] at h5 h6 h7 hfl
      obtain ⟨h31, h32, h33⟩ := h3
      rw [← hn] at h33
      obtain ⟨e0, e1, e2, e3, h9⟩ := h9
      have c0 : W.cell? ⟨b, 0, none⟩ = some (.slice A n c) := h6.cell 0
      have c1 : W.cell? ⟨b, 1, none⟩ = some (.int .i64 (N : Int)) := h6.cell 1
      have hbt : b < w.heap.size := hb0.lt
      have hwb : b ≠ w.heap.size := by omega
      have hT1 := hT.only h11 (by simp; omega) (by simp; omega)
      have Hn := Lib.hid hn
      have H0 := Lib.hid h0
      have H31 := Lib.hid h31
      have H32 := Lib.hid h32
      have H8 := Lib.hid h8
      have H10 := Lib.hid h10
      have H12 := Lib.hid h12
      have Hstr := Lib.hid hstr
      have Hfl := Lib.hid hfl
      clear hn h0 h31 h32 h8 h10 h12 hb hstr hfl
      by_cases hn0 : n = 0
      · subst hn0
        have hps : p = s.size := by have := Hn.out; omega
        have hsc : scanS all s p = ([], p) := by rw [hps]; exact scanS_end all s
        have h31 := H31.out
        have h32 := H32.out
        rw [hsc] at h31 h32
        have hl : l = movedL d T.1 := by rw [← h31]; simp [movedL]
        have h32 : p = T.2 := h32
        have Hl := Lib.hid hl
        have H32' := Lib.hid h32
        have Hps := Lib.hid hps
        clear hsc h31 h32 hl hps
        go_wp2_with (fail)
        go_step3
        go_step
        go_step
        show ∃ m', TkJ w b w.heap.size d N all s T 0 m' _ _ ∧ m' < m
        have hT2 : T.2 = p := H32'.out.symm
        have hT0 : s.size - T.2 = 0 := by rw [hT2, Hps.out]; omega
        refine ⟨0, .inr ⟨rfl, rfl, v, A, c, ⟨_, _, _, _, _, _, _, _, _, _, _, _, _, _, _, _, _, _, _, _, _, _, _, _, _, _, _, _, _, _, _, _, _, _, _, _, _, _, _, _, _, _, _, _, _, _, _, _, _, _, _, _, _, _, _, _, _, rfl⟩, by rw [hT2]; omega, by rw [← Hl.out]; exact h4, by omega, by rw [hT0]; exact h6, by rw [hT0, hT2]; exact h7, H8.out, h11⟩, by rw [H0.out]; omega⟩
      · have hcv := run_string_rd (P := Tryd.prog) 41 9 5 Tryd.underlying41 (by kernel_rfl) Tryd.underlying9 c h7
        rw [Hstr.out] at hcv
        have hpl : p < s.size := by have := Hn.out; omega
        have hnz : ((n : Int) == 0) = false := by simp; omega
        cases all with
        | false =>
          go_wp2_with (fail)
          refine (beginning_any _ _ hT1).mono ?_
          rintro e w2 ⟨rfl, hO2⟩
          obtain ⟨bg, hbg⟩ : ∃ x, x = beginsGo (s.extract p s.size) := ⟨_, rfl⟩
          rw [← hbg]
          have Hbg := Lib.hid hbg
          have h4 := own_only h4 hO2 (by simp)
          have h6 := h6.only hO2 (by simp)
          have h7 := h7.only hO2 (by simp)
          have h9 := h9.only hO2 (by simp)
          have h11 := h11.trans0 hO2
          have hT1 := hT1.only hO2 (by simp) (by simp)
          clear hbg hO2 c0 c1 hcv
          cases bg with
          | true =>
            have hsc : scanS false s p = ([], p) := scanS_held hpl Hbg.out.symm
            have h31 := H31.out
            have h32 := H32.out
            rw [hsc] at h31 h32
            have hl : l = movedL d T.1 := by rw [← h31]; simp [movedL]
            have h32 : p = T.2 := h32
            have Hl := Lib.hid hl
            have H32' := Lib.hid h32
            clear hsc h31 h32 hl
            go_wp2_with (fail)
            go_step3
            go_step
            go_step
            show ∃ m', TkJ w b w.heap.size d N false s T 0 m' _ _ ∧ m' < m
            have hT2 : T.2 = p := H32'.out.symm
            refine ⟨0, .inr ⟨rfl, rfl, v, A, c, ⟨_, _, _, _, _, _, _, _, _, _, _, _, _, _, _, _, _, _, _, _, _, _, _, _, _, _, _, _, _, _, _, _, _, _, _, _, _, _, _, _, _, _, _, _, _, _, _, _, _, _, _, _, _, _, _, _, _, rfl⟩, by rw [hT2]; omega, by rw [← Hl.out]; exact h4, by rw [hT2, ← Hn.out]; omega, by rw [hT2, ← Hn.out]; exact h6, by rw [hT2, ← Hn.out]; exact h7, H8.out, h11⟩, by rw [H0.out]; omega⟩
          | false =>
            have hsc := scanS_step (all := false) hpl (.inr Hbg.out.symm)
            have Hsc := Lib.hid hsc
            clear hsc Hbg
            go_wp2_with (fail)
            refine tk_r5 w2 b w.heap.size d N n p c A _ s v _ _ _ _ _ _ _ _ _ _ _ _ _ _ _ _ _ _ _ _ _ _ _ _ _ _ _ _ _ _ _ _ _ _ _ _ _ _ _ _ _ _ _ _ _ _ _ _ _ _ _ _ _ _ _ _ _ hT1 h2 (by omega) hpl Hn HN hNb h6 ⟨_, h7⟩ ⟨e0, e1, e2, e3, h9⟩ _ _ ?_
            intro s2 s3 s7 s8 s9 s10 s11 s12 s13 s14 s15 s16 s17 s18 s19 s20 s21 s22 s23 s24 s25 s26 s27 s28 s29 s30 s31 s32 s33 s34 s35 s36 s37 s38 s39 s40 s41 s42 s43 s44 s45 s46 s47 s48 s49 s50 s51 s52 s53 s54 s55 s56 s57 s58 s59 s60 s61 W5 hO5 hB5
            obtain ⟨y, hy⟩ : ∃ y, y = (itAt s p).by_ d := ⟨_, rfl⟩
            have hyn : y.n = (itAt s p).n := by rw [hy]; rfl
            have hyw : 1 ≤ y.n := by rw [hyn]; exact Lib.width_pos s p
            have hye : p + y.n ≤ s.size := by rw [hyn]; exact dec_le s p hpl
            rw [← hy] at hB5
            have hvb : w.heap.size ∉ v.ownBlock.toList := fun hm => H10.out _ (by simpa using hm) rfl
            have h4 := own_only h4 hO5 (fun k hk hm => H10.out k hk (by simpa using hm))
            have h6 := h6.only hO5 (by simp; omega)
            have h7 := h7.only hO5 (by simp)
            have h11 := h11.trans' hO5 (by simp)
            have hlb : l.length + 1 ≤ 5000000 := by omega
            have hw5 := h11.size
            clear hO5
            go_step
            go_step
            refine tk_r6 w W5 b w.heap.size l y _ v _ _ _ _ _ _ _ _ _ _ _ _ _ _ _ _ _ _ _ _ _ _ _ _ _ _ _ _ _ _ _ _ _ _ _ _ _ _ _ _ _ _ _ _ _ _ _ _ _ _ _ _ _ _ _ _ _ hB5 h4 hw5 hlb _ _ ?_
            intro v' t2 t3 t7 t8 t9 t10 t11 t12 t13 t14 t15 t16 t17 t18 t19 t20 t21 t22 t23 t24 t25 t26 t27 t28 t29 t30 t31 t32 t33 t34 t35 t36 t37 t38 t39 t40 t41 t42 t43 t44 t45 t46 t47 t48 t49 t50 t51 t52 t53 t54 t55 t56 t57 t58 t59 t60 t61 W6 hO6 hown6 hat
            have hvB : ∀ k, v.ownBlock = some k → w.heap.size ≤ k ∧ k < W5.heap.size := fun k hk => own_lt h4 hk
            have hB6 := hB5.only hO6 hvb
            have h6 := h6.only hO6 (fun hm => by have := (hvB b (by simpa using hm)).1; omega)
            have h7 := h7.only hO6 (fun x hx => (hvB x (by simpa using hx)).1)
            have h11 := h11.trans' hO6 (fun x hx => .inr (hvB x (by simpa using hx)).1)
            have h10 : ∀ k, v'.ownBlock = some k → k ≠ w.heap.size := by
              intro k hk
              rcases hat with e | ⟨k2, e, hk2⟩
              · rw [e] at hk; exact H10.out k hk
              · rw [hk] at e; injection e with e; have := hB5.lt; omega
            go_step
            go_step
            refine tk_r7 W6 b w.heap.size N n c A y (from_ s p) _ v' _ _ _ _ _ _ _ _ _ _ _ _ _ _ _ _ _ _ _ _ _ _ _ _ _ _ _ _ _ _ _ _ _ _ _ _ _ _ _ _ _ _ _ _ _ _ _ _ _ _ _ _ _ _ _ _ _ h6 hB6 (by have := Hn.out; omega) h5 ⟨_, h7⟩ _ _ ?_
            intro A2 r2 r3 r7 r8 r9 r10 r11 r12 r13 r14 r15 r16 r17 r18 r19 r20 r21 r22 r23 r24 r25 r26 r27 r28 r29 r30 r31 r32 r33 r34 r35 r36 r37 r38 r39 r40 r41 r42 r43 r44 r45 r46 r47 r48 r49 r50 r51 r52 r53 r54 r55 r56 r57 r58 r59 r60 r61 W7 hO7 hb7 hrr hA2
            have h7' := hrr _ h7
            rw [from_drop] at h7'
            have hA2b : ∀ ad, A2 = some ad → ad.block ≠ b := fun ad e => by
              obtain ⟨ad0, e0, e1⟩ := hA2 ad e
              rw [← e1]; exact H8.out ad0 e0
            have h7'' := h7'.only' hO7 (fun ad e _ hm => hA2b ad e (by simpa using hm))
            have hb9 := hB6.only hO7 (by simp; omega)
            have hown7 := own_only hown6 hO7 (fun k hk hm => by
              obtain rfl : k = b := by simpa using hm
              rcases hat with e | ⟨k2, e, hk2⟩
              · rw [e] at hk; have := hvB k hk; omega
              · rw [hk] at e; injection e with e; omega)
            have h11 := h11.trans' hO7 (by simp)
            go_step
            go_step
            go_step3
            go_step
            go_step
            have hnp : n - y.n = s.size - (p + y.n) := by have := Hn.out; omega
            obtain ⟨ya, yn, yr, yb⟩ := y
            simp only at hnp hb7 h7'' hyn hye hyw
            rw [hnp] at hb7 h7''
            show ∃ m', TkJ w b w.heap.size d N _ s T 1 m' _ _ ∧ m' < m
            refine ⟨s.size - (p + yn) + 1, .inl ⟨rfl, p + yn, l ++ [⟨ya, yn, yr, yb⟩], v', A2, c - yn, ⟨_, _, _, _, _, _, _, _, _, _, _, _, _, _, _, _, _, _, _, _, _, _, _, _, _, _, _, _, _, _, _, _, _, _, _, _, _, _, _, _, _, _, _, _, _, _, _, _, _, _, _, _, _, _, _, _, _, rfl⟩, rfl, hye, ⟨?_, ?_, by rw [List.length_append]; simp only [List.length_cons, List.length_nil]; omega⟩, hown7, by omega, hb7, h7'', hA2b, ⟨_, _, _, _, hb9⟩, h10, h11, fun e => by simp at e⟩, by rw [H0.out]; have := Hn.out; omega⟩
            · have e1 := H31.out
              rw [Hsc.out] at e1
              have e2 : p + (itAt s p).n = p + yn := by rw [show yn = (itAt s p).n from hyn]
              rw [e2] at e1
              rw [List.append_assoc, ← e1, hy]
              rfl
            · have e1 := H32.out
              rw [Hsc.out] at e1
              rw [show yn = (itAt s p).n from hyn]
              exact e1
        | true =>
          obtain ⟨w2, rfl⟩ : ∃ w2, w2 = W := ⟨_, rfl⟩
          have hsc := scanS_step (all := true) hpl (.inl rfl)
          have Hsc := Lib.hid hsc
          clear hsc hcv
          go_wp2_with (fail)
          refine tk_r5 w2 b w.heap.size d N n p c A _ s v _ _ _ _ _ _ _ _ _ _ _ _ _ _ _ _ _ _ _ _ _ _ _ _ _ _ _ _ _ _ _ _ _ _ _ _ _ _ _ _ _ _ _ _ _ _ _ _ _ _ _ _ _ _ _ _ _ hT1 h2 (by omega) hpl Hn HN hNb h6 ⟨_, h7⟩ ⟨e0, e1, e2, e3, h9⟩ _ _ ?_
          intro s2 s3 s7 s8 s9 s10 s11 s12 s13 s14 s15 s16 s17 s18 s19 s20 s21 s22 s23 s24 s25 s26 s27 s28 s29 s30 s31 s32 s33 s34 s35 s36 s37 s38 s39 s40 s41 s42 s43 s44 s45 s46 s47 s48 s49 s50 s51 s52 s53 s54 s55 s56 s57 s58 s59 s60 s61 W5 hO5 hB5
          obtain ⟨y, hy⟩ : ∃ y, y = (itAt s p).by_ d := ⟨_, rfl⟩
          have hyn : y.n = (itAt s p).n := by rw [hy]; rfl
          have hyw : 1 ≤ y.n := by rw [hyn]; exact Lib.width_pos s p
          have hye : p + y.n ≤ s.size := by rw [hyn]; exact dec_le s p hpl
          rw [← hy] at hB5
          have hvb : w.heap.size ∉ v.ownBlock.toList := fun hm => H10.out _ (by simpa using hm) rfl
          have h4 := own_only h4 hO5 (fun k hk hm => H10.out k hk (by simpa using hm))
          have h6 := h6.only hO5 (by simp; omega)
          have h7 := h7.only hO5 (by simp)
          have h11 := h11.trans' hO5 (by simp)
          have hlb : l.length + 1 ≤ 5000000 := by omega
          have hw5 := h11.size
          clear hO5
          go_step
          go_step
          refine tk_r6 w W5 b w.heap.size l y _ v _ _ _ _ _ _ _ _ _ _ _ _ _ _ _ _ _ _ _ _ _ _ _ _ _ _ _ _ _ _ _ _ _ _ _ _ _ _ _ _ _ _ _ _ _ _ _ _ _ _ _ _ _ _ _ _ _ hB5 h4 hw5 hlb _ _ ?_
          intro v' t2 t3 t7 t8 t9 t10 t11 t12 t13 t14 t15 t16 t17 t18 t19 t20 t21 t22 t23 t24 t25 t26 t27 t28 t29 t30 t31 t32 t33 t34 t35 t36 t37 t38 t39 t40 t41 t42 t43 t44 t45 t46 t47 t48 t49 t50 t51 t52 t53 t54 t55 t56 t57 t58 t59 t60 t61 W6 hO6 hown6 hat
          have hvB : ∀ k, v.ownBlock = some k → w.heap.size ≤ k ∧ k < W5.heap.size := fun k hk => own_lt h4 hk
          have hB6 := hB5.only hO6 hvb
          have h6 := h6.only hO6 (fun hm => by have := (hvB b (by simpa using hm)).1; omega)
          have h7 := h7.only hO6 (fun x hx => (hvB x (by simpa using hx)).1)
          have h11 := h11.trans' hO6 (fun x hx => .inr (hvB x (by simpa using hx)).1)
          have h10 : ∀ k, v'.ownBlock = some k → k ≠ w.heap.size := by
            intro k hk
            rcases hat with e | ⟨k2, e, hk2⟩
            · rw [e] at hk; exact H10.out k hk
            · rw [hk] at e; injection e with e; have := hB5.lt; omega
          go_step
          go_step
          refine tk_r7 W6 b w.heap.size N n c A y (from_ s p) _ v' _ _ _ _ _ _ _ _ _ _ _ _ _ _ _ _ _ _ _ _ _ _ _ _ _ _ _ _ _ _ _ _ _ _ _ _ _ _ _ _ _ _ _ _ _ _ _ _ _ _ _ _ _ _ _ _ _ h6 hB6 (by have := Hn.out; omega) h5 ⟨_, h7⟩ _ _ ?_
          intro A2 r2 r3 r7 r8 r9 r10 r11 r12 r13 r14 r15 r16 r17 r18 r19 r20 r21 r22 r23 r24 r25 r26 r27 r28 r29 r30 r31 r32 r33 r34 r35 r36 r37 r38 r39 r40 r41 r42 r43 r44 r45 r46 r47 r48 r49 r50 r51 r52 r53 r54 r55 r56 r57 r58 r59 r60 r61 W7 hO7 hb7 hrr hA2
          have h7' := hrr _ h7
          rw [from_drop] at h7'
          have hA2b : ∀ ad, A2 = some ad → ad.block ≠ b := fun ad e => by
            obtain ⟨ad0, e0, e1⟩ := hA2 ad e
            rw [← e1]; exact H8.out ad0 e0
          have h7'' := h7'.only' hO7 (fun ad e _ hm => hA2b ad e (by simpa using hm))
          have hb9 := hB6.only hO7 (by simp; omega)
          have hown7 := own_only hown6 hO7 (fun k hk hm => by
            obtain rfl : k = b := by simpa using hm
            rcases hat with e | ⟨k2, e, hk2⟩
            · rw [e] at hk; have := hvB k hk; omega
            · rw [hk] at e; injection e with e; omega)
          have h11 := h11.trans' hO7 (by simp)
          go_step
          go_step
          go_step3
          go_step
          go_step
          have hnp : n - y.n = s.size - (p + y.n) := by have := Hn.out; omega
          obtain ⟨ya, yn, yr, yb⟩ := y
          simp only at hnp hb7 h7'' hyn hye hyw
          rw [hnp] at hb7 h7''
          show ∃ m', TkJ w b w.heap.size d N _ s T 1 m' _ _ ∧ m' < m
          refine ⟨s.size - (p + yn) + 1, .inl ⟨rfl, p + yn, l ++ [⟨ya, yn, yr, yb⟩], v', A2, c - yn, ⟨_, _, _, _, _, _, _, _, _, _, _, _, _, _, _, _, _, _, _, _, _, _, _, _, _, _, _, _, _, _, _, _, _, _, _, _, _, _, _, _, _, _, _, _, _, _, _, _, _, _, _, _, _, _, _, _, _, rfl⟩, rfl, hye, ⟨?_, ?_, by rw [List.length_append]; simp only [List.length_cons, List.length_nil]; omega⟩, hown7, by omega, hb7, h7'', hA2b, ⟨_, _, _, _, hb9⟩, h10, h11, fun e => by simp at e⟩, by rw [H0.out]; have := Hn.out; omega⟩
          · have e1 := H31.out
            rw [Hsc.out] at e1
            have e2 : p + (itAt s p).n = p + yn := by rw [show yn = (itAt s p).n from hyn]
            rw [e2] at e1
            rw [List.append_assoc, ← e1, hy]
            rfl
          · have e1 := H32.out
            rw [Hsc.out] at e1
            rw [show yn = (itAt s p).n from hyn]
            exact e1
    · cases h
  case pass =>
    rintro l m a W (⟨rfl, h⟩ | ⟨rfl, rfl, v, A, c, ⟨u2, u3, u7, u8, u9, u10, u11, u12, u13, u14, u15, u16, u17, u18, u19, u20, u21, u22, u23, u24, u25, u26, u27, u28, u29, u30, u31, u32, u33, u34, u35, u36, u37, u38, u39, u40, u41, u42, u43, u44, u45, u46, u47, u48, u49, u50, u51, u52, u53, u54, u55, u56, u57, u58, u59, u60, u61, rfl⟩, h1, h3, h4, h5, h6, h7, h8⟩) hl
    · exact absurd rfl hl
    · refine ⟨_, rfl, ?_⟩
      go_hideQ
      obtain ⟨v', w', hrun, hown', hO', -, -⟩ := run_append_row (P := Tryd.prog) (w := W) (b + 1) 41 41 5 (.int .u8 0) 1 1 Tryd.underlying41 (by kernel_rfl) rfl (by omega) (v := .slice none 0 0) (n := 0) (xs := []) ⟨rfl, .inl ⟨rfl, rfl⟩⟩ c h6 (bvs_one _) (by simp only [maxLen]; omega) (by omega) (by have := h5.lt; omega)
      rw [Nat.zero_add, List.nil_append] at hown'
      have hO2 : Only [] W w' := hO'.mono (by simp [Value.ownBlock])
      have c0 : W.cell? ⟨b, 0, none⟩ = some (.slice A (s.size - T.2) c) := h5.cell 0
      have h3' := own_only h3 hO2 (by simp)
      have h5' := h5.only hO2 (by simp)
      have f0 : w'.frozen? ⟨b, 0, none⟩ = false := h5'.frozen 0
      have c1 : w'.cell? ⟨b, 0, none⟩ = some (.slice A (s.size - T.2) c) := h5'.cell 0
      have h8' := h8.trans0 hO2
      have Hrun := Lib.hid hrun
      have Hown := Lib.hid hown'
      obtain ⟨A2, c2, rfl, -⟩ := own_slice hown'
      have h6e := from_len s T.2
      have hbw : b < w.heap.size := hb0.lt
      have HH := Lib.hid h6e
      have H1 := Lib.hid h1
      clear hrun hown' h6e h1 hO' hO2
      go_wp2_with (at_builtin; refine wpList_append_run (o := ⟨some 58, _, _, _, _, _⟩) (by rfl) (.const (.slice none 0 0)) (.tmp 57) 41 41 (by rfl) (by rfl) (by rfl) Hrun.out ?_)
      show bodyPost Tryd.prog Tryd.f40 (TkPostN w b d N s T) .ret _ _
      refine bodyPost_ret (v := v) (by simp [results, Tryd.results40, go_sem]) rfl ?_
      refine ⟨v, rfl, own_only h3' ((Only.refl [b] _).setCell (.inl (by simp)) _) (fun k hk hm => ?_), ⟨A2, c2, ?_, ?_⟩, h8'.setCell (.inl (by simp)) _⟩
      · obtain rfl : k = b := by simpa using hm
        have := (own_lt h3 hk).1; omega
      · rw [HH.out]; exact h5'.set 0 _
      · rw [HH.out]
        exact own_only Hown.out ((Only.refl [b] _).setCell (.inl (by simp)) _) (fun k hk hm => by
          obtain rfl : k = b := by simpa using hm
          have := (own_lt Hown.out hk).1; omega)
end Go.Proofs.YteadcibbpbbehaaDoor
