/-
  The channels up to a cycle: the document's Run.
-/
import Derived.Test.YtccmpceifheejaaRn
namespace Go.Proofs.Ytccmpceifheejaa
open Go.Vc
set_option linter.unusedVariables false
set_option linter.unusedSimpArgs false
theorem tk_off {y m : Int} {c : Ch} (h : c.on = false) : (tickc y m c).wait = c.wait ∧ (tickc y m c).at' = c.at' := by unfold tickc; rw [if_neg (by rw [h]; decide)]; exact ⟨rfl, rfl⟩
theorem tk_one {y m : Int} {c : Ch} (h : c.on = true) (hw : c.wait = 1) : (tickc y m c).wait = y ∧ (tickc y m c).at' = (c.at' + 1) % m := by unfold tickc; rw [if_pos h, if_pos hw]; exact ⟨rfl, rfl⟩
theorem tk_dec {y m : Int} {c : Ch} (h : c.on = true) (hw : ¬ c.wait = 1) : (tickc y m c).wait = c.wait - 1 ∧ (tickc y m c).at' = c.at' := by unfold tickc; rw [if_pos h, if_neg hw]; exact ⟨rfl, rfl⟩
set_option maxHeartbeats 4000000 in
theorem rpRun_eq (U : US) {S : PS} (hS : U.ps = S) (h : GOk S) (h0 : 0 ≤ S.now) (h2 : S.now ≤ 2000000000) {q : Int} (hq : q ≤ 2000000000) : k_rpRun U q = some (r_rpRun { U with ps := runN (q - S.now).toNat S }) := by
  subst hS
  obtain ⟨u0, u1, u2, u3, u4, u5, u6, u7, u8, u9, u10, u11, u12, S⟩ := U
  have h : GOk S := h
  have h0 : 0 ≤ S.now := h0
  have h2 : S.now ≤ 2000000000 := h2
  show _ = some (r_rpRun ⟨u0, u1, u2, u3, u4, u5, u6, u7, u8, u9, u10, u11, u12, runN (q - S.now).toNat S⟩)
  unfold k_rpRun rA f_rpRun
  refine loopO_inv (fun m s => ∃ T : PS, s = r_rpRun ⟨u0, u1, u2, u3, u4, u5, u6, u7, u8, u9, u10, u11, u12, T⟩ ∧ konst T = konst S ∧ GOk T ∧ 0 ≤ T.now ∧ T.now ≤ 2000000000 ∧ (m : Int) = max 0 (q - T.now) ∧ runN (q - T.now).toNat T = runN (q - S.now).toNat S) ?_ (q - S.now).toNat _ ⟨S, rfl, rfl, h, h0, h2, by omega, rfl⟩
  rintro m s ⟨T, rfl, hk, hT, t0, t2, hm, hr⟩
  have hmix := mix_of hk
  show (∃ s' m', cond (decide (T.now < q)) _ _ = _ ∧ _) ∨ cond (decide (T.now < q)) _ _ = _
  by_cases hlt : T.now < q
  · left
    rw [← hr]
    have hGM : GOk (mix S T) := by rw [hmix]; exact hT
    have hN : (wv (mix S T) { tick (mix S T) with now := T.now + 1 }) = { tick (mix S T) with now := T.now + 1 } := wv_tick
    have hGN : GOk (wv (mix S T) { tick (mix S T) with now := T.now + 1 }) := by rw [hN]; exact now_gok (tick_gok hGM) _
    have e3 : (wv (mix S T) { tick (mix S T) with now := T.now + 1 }).c3.at' = T.c3.at' := by
      show (if T.c3.on = true then _ else _ : Ch).at' = _
      split <;> rfl
    have hone : one T = if (T.now + 1) % 32768 = 0 then beatA (wv (mix S T) { tick (mix S T) with now := T.now + 1 }) else (wv (mix S T) { tick (mix S T) with now := T.now + 1 }) := by
      rw [hN, hmix]; rfl
    have hKN : konst (one T) = konst S := konst_one.trans hk
    refine ⟨r_rpRun ⟨u0, u1, u2, u3, u4, u5, u6, u7, u8, u9, u10, u11, u12, one T⟩, (q - (T.now + 1)).toNat, ?_, by omega, one T, rfl, hKN, one_gok hT, (by rw [one_now]; omega), (by rw [one_now]; omega), (by rw [one_now]; omega), ?_⟩
    rotate_left
    · rw [one_now, show (q - T.now).toNat = (q - (T.now + 1)).toNat + 1 by omega, runN_add]; rfl
    rw [cpos hlt]
    have y0 : 0 < cyc0 (mix S T).c0 := by unfold cyc0; have := hGM.c0.f; omega
    refine loopO_for (fun i => match i with
      | 0 => Q_0.mk 0 T.c0.at' T.c0.wait T.c1.at' T.c1.wait T.c2.at' T.c2.wait T.c3.at' T.c3.wait T.lfsr
      | 1 => Q_0.mk 1 (wv (mix S T) { tick (mix S T) with now := T.now + 1 }).c0.at' (wv (mix S T) { tick (mix S T) with now := T.now + 1 }).c0.wait T.c1.at' T.c1.wait T.c2.at' T.c2.wait T.c3.at' T.c3.wait T.lfsr
      | 2 => Q_0.mk 2 (wv (mix S T) { tick (mix S T) with now := T.now + 1 }).c0.at' (wv (mix S T) { tick (mix S T) with now := T.now + 1 }).c0.wait (wv (mix S T) { tick (mix S T) with now := T.now + 1 }).c1.at' (wv (mix S T) { tick (mix S T) with now := T.now + 1 }).c1.wait T.c2.at' T.c2.wait T.c3.at' T.c3.wait T.lfsr
      | 3 => Q_0.mk 3 (wv (mix S T) { tick (mix S T) with now := T.now + 1 }).c0.at' (wv (mix S T) { tick (mix S T) with now := T.now + 1 }).c0.wait (wv (mix S T) { tick (mix S T) with now := T.now + 1 }).c1.at' (wv (mix S T) { tick (mix S T) with now := T.now + 1 }).c1.wait (wv (mix S T) { tick (mix S T) with now := T.now + 1 }).c2.at' (wv (mix S T) { tick (mix S T) with now := T.now + 1 }).c2.wait T.c3.at' T.c3.wait T.lfsr
      | _ => Q_0.mk 4 (wv (mix S T) { tick (mix S T) with now := T.now + 1 }).c0.at' (wv (mix S T) { tick (mix S T) with now := T.now + 1 }).c0.wait (wv (mix S T) { tick (mix S T) with now := T.now + 1 }).c1.at' (wv (mix S T) { tick (mix S T) with now := T.now + 1 }).c1.wait (wv (mix S T) { tick (mix S T) with now := T.now + 1 }).c2.at' (wv (mix S T) { tick (mix S T) with now := T.now + 1 }).c2.wait T.c3.at' (wv (mix S T) { tick (mix S T) with now := T.now + 1 }).c3.wait (wv (mix S T) { tick (mix S T) with now := T.now + 1 }).lfsr) 4 ?_ ?_
    · intro i hi
      obtain rfl | rfl | rfl | rfl : i = 0 ∨ i = 1 ∨ i = 2 ∨ i = 3 := by omega
      · show cond (!T.c0.on) _ _ = _
        cases hon : T.c0.on
        · obtain ⟨e1, e2⟩ := tk_off (y := cyc0 (mix S T).c0) (m := 8) (c := (mix S T).c0) hon
          have e1 : (wv (mix S T) { tick (mix S T) with now := T.now + 1 }).c0.wait = T.c0.wait := e1
          have e2 : (wv (mix S T) { tick (mix S T) with now := T.now + 1 }).c0.at' = T.c0.at' := e2
          rw [e1, e2]
          rfl
        · show cond (IntKind.wrap .i64 (T.c0.wait - 1) == 0) _ _ = _
          have hw := hT.c0.w hon
          rw [wrap_i64 (x := T.c0.wait - 1) (by omega) (by omega)]
          by_cases h1 : T.c0.wait = 1
          · obtain ⟨e1, e2⟩ := tk_one (y := cyc0 (mix S T).c0) (m := 8) (c := (mix S T).c0) hon h1
            have e1 : (wv (mix S T) { tick (mix S T) with now := T.now + 1 }).c0.wait = cyc0 (mix S T).c0 := e1
            have e2 : (wv (mix S T) { tick (mix S T) with now := T.now + 1 }).c0.at' = (T.c0.at' + 1) % 8 := e2
            have ha := hT.c0.a
            rw [ceq (by omega), rstep_0, bind_some']
            show (f_rcyc _ _ _ _ _ _ _ _ _ _ _ _ _ _ _ _ _ _ _ _ _ _ _ _ _ _ _ _ _ _ _ _ _ _ _ _ _ _ _ _ _ _ _ _ _ _ _ _ _ _ _ _ _ _ _ _ _ _ _ _ _ _ _ _ _ _ _ _ _ _ _ _ _ _ _ _ _ _ _ _ _ _ _ _ _ _ _ _ _ _ _ _ _ _ _ _ _ _ _ _ _ _ _ _ _ _ _ _ _ _ _ _ _ _ _ _ 0).bind _ = _
            rw [rcyc_0, bind_some']
            show some (Sum.inl (Q_0.mk 1 (Int.tmod (IntKind.wrap .i64 (T.c0.at' + 1)) 8) (IntKind.wrap .i64 (16 * IntKind.wrap .i64 (2048 - T.c0.freq))) T.c1.at' T.c1.wait T.c2.at' T.c2.wait T.c3.at' T.c3.wait T.lfsr)) = some (Sum.inl (Q_0.mk 1 (wv (mix S T) { tick (mix S T) with now := T.now + 1 }).c0.at' (wv (mix S T) { tick (mix S T) with now := T.now + 1 }).c0.wait T.c1.at' T.c1.wait T.c2.at' T.c2.wait T.c3.at' T.c3.wait T.lfsr))
            rw [freq16 (f := T.c0.freq) hGM.c0.f, wrap_i64 (x := T.c0.at' + 1) (by omega) (by omega), tmod_nn (a := T.c0.at' + 1) (by omega), e1, e2]
            rfl
          · obtain ⟨e1, e2⟩ := tk_dec (y := cyc0 (mix S T).c0) (m := 8) (c := (mix S T).c0) hon h1
            have e1 : (wv (mix S T) { tick (mix S T) with now := T.now + 1 }).c0.wait = T.c0.wait - 1 := e1
            have e2 : (wv (mix S T) { tick (mix S T) with now := T.now + 1 }).c0.at' = T.c0.at' := e2
            rw [cne (by omega), e1, e2]
            rfl
      · show cond (!T.c1.on) _ _ = _
        cases hon : T.c1.on
        · obtain ⟨e1, e2⟩ := tk_off (y := cyc0 (mix S T).c1) (m := 8) (c := (mix S T).c1) hon
          have e1 : (wv (mix S T) { tick (mix S T) with now := T.now + 1 }).c1.wait = T.c1.wait := e1
          have e2 : (wv (mix S T) { tick (mix S T) with now := T.now + 1 }).c1.at' = T.c1.at' := e2
          rw [e1, e2]
          rfl
        · show cond (IntKind.wrap .i64 (T.c1.wait - 1) == 0) _ _ = _
          have hw := hT.c1.w hon
          rw [wrap_i64 (x := T.c1.wait - 1) (by omega) (by omega)]
          by_cases h1 : T.c1.wait = 1
          · obtain ⟨e1, e2⟩ := tk_one (y := cyc0 (mix S T).c1) (m := 8) (c := (mix S T).c1) hon h1
            have e1 : (wv (mix S T) { tick (mix S T) with now := T.now + 1 }).c1.wait = cyc0 (mix S T).c1 := e1
            have e2 : (wv (mix S T) { tick (mix S T) with now := T.now + 1 }).c1.at' = (T.c1.at' + 1) % 8 := e2
            have ha := hT.c1.a
            rw [ceq (by omega), rstep_1, bind_some']
            show (f_rcyc _ _ _ _ _ _ _ _ _ _ _ _ _ _ _ _ _ _ _ _ _ _ _ _ _ _ _ _ _ _ _ _ _ _ _ _ _ _ _ _ _ _ _ _ _ _ _ _ _ _ _ _ _ _ _ _ _ _ _ _ _ _ _ _ _ _ _ _ _ _ _ _ _ _ _ _ _ _ _ _ _ _ _ _ _ _ _ _ _ _ _ _ _ _ _ _ _ _ _ _ _ _ _ _ _ _ _ _ _ _ _ _ _ _ _ _ 1).bind _ = _
            rw [rcyc_1, bind_some']
            show some (Sum.inl (Q_0.mk 2 (wv (mix S T) { tick (mix S T) with now := T.now + 1 }).c0.at' (wv (mix S T) { tick (mix S T) with now := T.now + 1 }).c0.wait (Int.tmod (IntKind.wrap .i64 (T.c1.at' + 1)) 8) (IntKind.wrap .i64 (16 * IntKind.wrap .i64 (2048 - S.c1.freq))) T.c2.at' T.c2.wait T.c3.at' T.c3.wait T.lfsr)) = some (Sum.inl (Q_0.mk 2 (wv (mix S T) { tick (mix S T) with now := T.now + 1 }).c0.at' (wv (mix S T) { tick (mix S T) with now := T.now + 1 }).c0.wait (wv (mix S T) { tick (mix S T) with now := T.now + 1 }).c1.at' (wv (mix S T) { tick (mix S T) with now := T.now + 1 }).c1.wait T.c2.at' T.c2.wait T.c3.at' T.c3.wait T.lfsr))
            rw [freq16 (f := S.c1.freq) hGM.c1.f, wrap_i64 (x := T.c1.at' + 1) (by omega) (by omega), tmod_nn (a := T.c1.at' + 1) (by omega), e1, e2]
            rfl
          · obtain ⟨e1, e2⟩ := tk_dec (y := cyc0 (mix S T).c1) (m := 8) (c := (mix S T).c1) hon h1
            have e1 : (wv (mix S T) { tick (mix S T) with now := T.now + 1 }).c1.wait = T.c1.wait - 1 := e1
            have e2 : (wv (mix S T) { tick (mix S T) with now := T.now + 1 }).c1.at' = T.c1.at' := e2
            rw [cne (by omega), e1, e2]
            rfl
      · show cond (!T.c2.on) _ _ = _
        cases hon : T.c2.on
        · obtain ⟨e1, e2⟩ := tk_off (y := cyc2 (mix S T).c2) (m := 64) (c := (mix S T).c2) hon
          have e1 : (wv (mix S T) { tick (mix S T) with now := T.now + 1 }).c2.wait = T.c2.wait := e1
          have e2 : (wv (mix S T) { tick (mix S T) with now := T.now + 1 }).c2.at' = T.c2.at' := e2
          rw [e1, e2]
          rfl
        · show cond (IntKind.wrap .i64 (T.c2.wait - 1) == 0) _ _ = _
          have hw := hT.c2.w hon
          rw [wrap_i64 (x := T.c2.wait - 1) (by omega) (by omega)]
          by_cases h1 : T.c2.wait = 1
          · obtain ⟨e1, e2⟩ := tk_one (y := cyc2 (mix S T).c2) (m := 64) (c := (mix S T).c2) hon h1
            have e1 : (wv (mix S T) { tick (mix S T) with now := T.now + 1 }).c2.wait = cyc2 (mix S T).c2 := e1
            have e2 : (wv (mix S T) { tick (mix S T) with now := T.now + 1 }).c2.at' = (T.c2.at' + 1) % 64 := e2
            have ha := hT.c2.a
            rw [ceq (by omega), rstep_2, bind_some']
            show (f_rcyc _ _ _ _ _ _ _ _ _ _ _ _ _ _ _ _ _ _ _ _ _ _ _ _ _ _ _ _ _ _ _ _ _ _ _ _ _ _ _ _ _ _ _ _ _ _ _ _ _ _ _ _ _ _ _ _ _ _ _ _ _ _ _ _ _ _ _ _ _ _ _ _ _ _ _ _ _ _ _ _ _ _ _ _ _ _ _ _ _ _ _ _ _ _ _ _ _ _ _ _ _ _ _ _ _ _ _ _ _ _ _ _ _ _ _ _ 2).bind _ = _
            rw [rcyc_2, bind_some']
            show some (Sum.inl (Q_0.mk 3 (wv (mix S T) { tick (mix S T) with now := T.now + 1 }).c0.at' (wv (mix S T) { tick (mix S T) with now := T.now + 1 }).c0.wait (wv (mix S T) { tick (mix S T) with now := T.now + 1 }).c1.at' (wv (mix S T) { tick (mix S T) with now := T.now + 1 }).c1.wait (Int.tmod (IntKind.wrap .i64 (T.c2.at' + 1)) 64) (IntKind.wrap .i64 (8 * IntKind.wrap .i64 (2048 - S.c2.freq))) T.c3.at' T.c3.wait T.lfsr)) = some (Sum.inl (Q_0.mk 3 (wv (mix S T) { tick (mix S T) with now := T.now + 1 }).c0.at' (wv (mix S T) { tick (mix S T) with now := T.now + 1 }).c0.wait (wv (mix S T) { tick (mix S T) with now := T.now + 1 }).c1.at' (wv (mix S T) { tick (mix S T) with now := T.now + 1 }).c1.wait (wv (mix S T) { tick (mix S T) with now := T.now + 1 }).c2.at' (wv (mix S T) { tick (mix S T) with now := T.now + 1 }).c2.wait T.c3.at' T.c3.wait T.lfsr))
            rw [freq8 (f := S.c2.freq) hGM.c2.f, wrap_i64 (x := T.c2.at' + 1) (by omega) (by omega), tmod_nn (a := T.c2.at' + 1) (by omega), e1, e2]
            rfl
          · obtain ⟨e1, e2⟩ := tk_dec (y := cyc2 (mix S T).c2) (m := 64) (c := (mix S T).c2) hon h1
            have e1 : (wv (mix S T) { tick (mix S T) with now := T.now + 1 }).c2.wait = T.c2.wait - 1 := e1
            have e2 : (wv (mix S T) { tick (mix S T) with now := T.now + 1 }).c2.at' = T.c2.at' := e2
            rw [cne (by omega), e1, e2]
            rfl
      · show cond (!T.c3.on) _ _ = _
        have e1 : (wv (mix S T) { tick (mix S T) with now := T.now + 1 }).c3.wait = if T.c3.on = true then (if T.c3.wait = 1 then cyc3 S.shift S.div else T.c3.wait - 1) else T.c3.wait := by
          show (if T.c3.on = true then _ else _ : Ch).wait = _
          split <;> rfl
        have e2 : (wv (mix S T) { tick (mix S T) with now := T.now + 1 }).lfsr = if T.c3.on = true then (if T.c3.wait = 1 then clk S.narrow T.lfsr else T.lfsr) else T.lfsr := rfl
        cases hon : T.c3.on
        · rw [if_neg (by rw [hon]; decide)] at e1 e2
          rw [e1, e2]
          rfl
        · show cond (IntKind.wrap .i64 (T.c3.wait - 1) == 0) _ _ = _
          rw [if_pos hon] at e1 e2
          have hw := hT.c3.w hon
          rw [wrap_i64 (x := T.c3.wait - 1) (by omega) (by omega)]
          by_cases h1 : T.c3.wait = 1
          · rw [if_pos h1] at e1 e2
            rw [ceq (by omega), rstep_3 hT.lf, bind_some']
            show (f_rcyc _ _ _ _ _ _ _ _ _ _ _ _ _ _ _ _ _ _ _ _ _ _ _ _ _ _ _ _ _ _ _ _ _ _ _ _ _ _ _ _ _ _ _ _ _ _ _ _ _ _ _ _ _ _ _ _ _ _ _ _ _ _ _ _ _ _ _ _ _ _ _ _ _ _ _ _ _ _ _ _ _ _ _ _ _ _ _ _ _ _ _ _ _ _ _ _ _ _ _ _ _ _ _ _ _ _ _ _ _ _ _ _ _ _ _ _ 3).bind _ = _
            rw [rcyc_3 h.dv h.sh, bind_some', e1, e2]
            rfl
          · rw [if_neg h1] at e1 e2
            rw [cne (by omega), e1, e2]
            rfl
    · show cond (Int.tmod (IntKind.wrap .i64 (T.now + 1)) 32768 == 0) ((k_rbeat ⟨u0, u1, u2, u3, u4, u5, u6, u7, u8, u9, u10, u11, u12, { (wv (mix S T) { tick (mix S T) with now := T.now + 1 }) with now := IntKind.wrap .i64 (T.now + 1) }⟩).bind _) _ = _
      rw [wrap_i64 (x := T.now + 1) (by omega) (by omega), tmod_nn (a := T.now + 1) (by omega), hone]
      by_cases hb : (T.now + 1) % 32768 = 0
      · have := rbeat_eq ⟨u0, u1, u2, u3, u4, u5, u6, u7, u8, u9, u10, u11, u12, (wv (mix S T) { tick (mix S T) with now := T.now + 1 })⟩ rfl hGN
        rw [if_pos hb, ceq hb, show ({ (wv (mix S T) { tick (mix S T) with now := T.now + 1 }) with now := T.now + 1 } : PS) = (wv (mix S T) { tick (mix S T) with now := T.now + 1 }) from rfl, this, bind_some']
        have r3 := r_beat3 ⟨u0, u1, u2, u3, u4, u5, u6, u7, u8, u9, u10, u11, u12, (wv (mix S T) { tick (mix S T) with now := T.now + 1 })⟩ (wv (mix S T) { tick (mix S T) with now := T.now + 1 })
        refine Eq.trans ?_ (congrArg (fun z => some (Sum.inr (Sum.inl z))) r3.symm)
        rw [e3]
        rfl
      · rw [if_neg hb, cne hb]
        unfold r_rpRun
        simp only [e3]
        rfl
  · right
    rw [cneg hlt]
    rw [show (q - T.now).toNat = 0 by omega] at hr
    rw [← hr]
    rfl
end Go.Proofs.Ytccmpceifheejaa
