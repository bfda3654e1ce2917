/-
  PsgLengths.
-/
import Derived.Test.YtieamlpjdilcoaaLens
namespace Go.Proofs.Ytieamlpjdilcoaa
open Go.Vc
set_option linter.unusedVariables false
set_option maxRecDepth 20000

/-- An or of parts that don't meet. -/
theorem or16 {a b : Int} (k : Nat) (hk : k ≤ 16) (ha0 : 0 ≤ a) (ha : a < ((2 ^ k : Nat) : Int)) (hb0 : 0 ≤ b) (hb1 : b < 65536) (hb : b % ((2 ^ k : Nat) : Int) = 0) : bits .or .u16 a b = a + b := by
  have hp : 2 ^ k ≤ 2 ^ 16 := Nat.pow_le_pow_right (by decide) hk
  obtain ⟨A, rfl⟩ := Int.eq_ofNat_of_zero_le ha0
  obtain ⟨B, rfl⟩ := Int.eq_ofNat_of_zero_le hb0
  rw [u16_or_nat A B (by omega) (by omega), Nat.or_comm, nat_join k B A (by omega) (by omega)]
  omega

theorem dutyC_facts {c : Sq} {x L : Int} (hx : x = L + 61440) (h0 : 0 ≤ L) (h1 : L < 64) : (dutyC c x).length = 64 - L ∧ (dutyC c x).start = 15 ∧ (dutyC c x).sweepIn = c.sweepIn := by
  have e1 : IntKind.wrap .i64 (64 - (IntKind.wrap .i64 (bits .and .u16 x 63))) = 64 - L := by
    rw [and16 6 (by decide) (by decide) (by omega) (by omega), wrap_i64 (x := _ % _) (by omega) (by omega), wrap_i64 (by omega) (by omega)]; omega
  have e2 : IntKind.wrap .i64 (Int.fdiv x 4096) = 15 := by
    rw [fdiv_pos (by decide), wrap_i64 (by omega) (by omega)]; omega
  unfold dutyC; dsimp only
  rw [if_neg (by rw [e2]; decide)]
  exact ⟨e1, e2, rfl⟩
theorem freqC_useLength {c : Sq} {x : Int} (h0 : 0 ≤ x) (h1 : x < 65536) : (freqC c x).useLength = decide (x / 16384 % 2 = 1) := by
  show ((bits .and .u16 (Int.fdiv x 16384) 1) == 1) = _
  rw [and16 1 (by decide) (by decide) (by rw [fdiv_pos (by decide)]; omega) (by rw [fdiv_pos (by decide)]; omega), fdiv_pos (by decide)]
  rfl
theorem beginF_core {u : PU} {i j : Nat} {full : Int} (hi : i < 4) (hj : j < 4) : kk (beginF u i full) j = if j = i then core (beginC (u.get i) i full) else kk u j := by
  unfold kk beginF; dsimp only
  rw [get_put hi hj]
  split
  · rw [get_put hi hi, if_pos rfl]; rfl
  · rw [get_put hi hj]; rename_i h; rw [if_neg h]
theorem beginC_facts {c : Sq} {i : Nat} (hi : i < 2) {full : Int} (hs : c.start = 15) : (beginC c i full).on = true ∧ (beginC c i full).start = 15 ∧ (beginC c i full).useLength = c.useLength ∧ (beginC c i full).length = (if c.length = 0 then full else c.length) ∧ (beginC c i full).sweepIn = c.sweepIn := by
  unfold beginC begin1
  have h2 : ¬ i = 2 := by omega
  by_cases hl : c.length = 0
  · rw [if_pos hl, if_pos hl]
    have : begin2 { c with length := full } i = { { c with length := full } with on := true } := by unfold begin2; rw [if_neg h2, if_pos (by show c.start > 0; omega)]
    rw [this]; exact ⟨rfl, hs, rfl, rfl, rfl⟩
  · rw [if_neg hl, if_neg hl]
    have : begin2 c i = { c with on := true } := by unfold begin2; rw [if_neg h2, if_pos (by omega)]
    rw [this]; exact ⟨rfl, hs, rfl, rfl, rfl⟩
theorem put_s0 {u : PU} {c : Sq} {i : Nat} (hi : i < 2) (h : c.sweepIn = (u.get i).sweepIn) : (u.put c i).s0.sweepIn = u.s0.sweepIn := by
  obtain rfl | rfl : i = 0 ∨ i = 1 := by omega
  · exact h
  · rfl
theorem write1 {u : PU} {x : Int} {ch : Nat} (h : ch < 2) : writeR u (1 + 2 * (ch : Int)) x = u.put (dutyC (u.get ch) x) ch := by
  obtain rfl | rfl : ch = 0 ∨ ch = 1 := by omega
  all_goals rfl
theorem write2 {u : PU} {x : Int} {ch : Nat} (h : ch < 2) : writeR u (2 + 2 * (ch : Int)) x = regF u x ch := by
  obtain rfl | rfl : ch = 0 ∨ ch = 1 := by omega
  all_goals rfl
theorem put_beats {u : PU} {c : Sq} {i : Nat} : (u.put c i).beats = u.beats := put_now.2
theorem beginF_beats {u : PU} {i : Nat} {full : Int} : (beginF u i full).beats = u.beats := put_beats.trans put_beats

/-- A trigger. -/
theorem reg_facts {u : PU} {ch : Nat} (hch : ch < 2) {x : Int} (h0 : 32768 ≤ x) (h1 : x < 65536) (hs : (kk u ch).start = 15) (hsw : u.s0.sweepIn = 0) (ho : ∀ j, j < 4 → j ≠ ch → (kk u j).on = false) :
    (regF u x ch).now = u.now ∧ (regF u x ch).beats = u.beats ∧ (regF u x ch).s0.sweepIn = 0 ∧ (kk (regF u x ch) ch).on = true ∧ (kk (regF u x ch) ch).start = 15 ∧ (kk (regF u x ch) ch).useLength = decide (x / 16384 % 2 = 1) ∧
    (kk (regF u x ch) ch).length = (if (kk u ch).length = 0 then 64 else (kk u ch).length) ∧ ∀ j, j < 4 → j ≠ ch → (kk (regF u x ch) j).on = false := by
  have hx : Int.fdiv x 32768 = 1 := by rw [fdiv_pos (by decide)]; omega
  have e : regF u x ch = beginF (u.put (freqC (u.get ch) x) ch) ch 64 := by unfold regF; rw [if_pos hx]
  have hg : (u.put (freqC (u.get ch) x) ch).get ch = freqC (u.get ch) x := put_get
  have hb := beginC_facts (c := freqC (u.get ch) x) hch (full := 64) hs
  have hk : kk (regF u x ch) ch = core (beginC (freqC (u.get ch) x) ch 64) := by rw [e, beginF_core (by omega) (by omega), if_pos rfl, hg]
  refine ⟨by rw [e, beginF_now, put_now'], by rw [e, beginF_beats, put_beats], ?_, by rw [hk]; exact hb.1, by rw [hk]; exact hb.2.1, by rw [hk]; exact hb.2.2.1.trans (freqC_useLength (by omega) h1), by rw [hk]; exact hb.2.2.2.1, fun j hj hne => ?_⟩
  · rw [e]
    unfold beginF; dsimp only
    rw [hg]
    rw [put_s0 hch, put_s0 hch, put_s0 hch]
    · exact hsw
    · rfl
    · rw [hg]; exact hb.2.2.2.2
    · rw [put_get]
  · rw [e, beginF_core (by omega) hj, if_neg hne]
    unfold kk
    rw [get_put (by omega) hj, if_neg hne]
    exact ho j hj hne

theorem law_PsgLengths (w : World) (a0 : Int) (w0 : (Lit.int .i64 a0).wf = true) (a1 : Int) (w1 : (Lit.int .u16 a1).wf = true) (a2 : Int) (w2 : (Lit.int .u16 a2).wf = true) :
    Calls Try.prog n_PsgLengths #[.int .i64 a0, .int .u16 a1, .int .u16 a2] w fun e w' => e = .returned (.bool true) ∧ Chg (fun _ => False) w w' := by
  have b1 := wf_u16 w1
  have b2 := wf_u16 w2
  apply c_PsgLengths
  unfold p_PsgLengths
  rw [and64 (a := a0) 1 (by decide) (by decide), and16 (a := a1) 6 (by decide) (by decide) b1.1 b1.2, and16 (a := a2) 11 (by decide) (by decide) b2.1 b2.2]
  obtain ⟨ch, hch, hc⟩ : ∃ ch : Nat, ch < 2 ∧ a0 % ((2 ^ 1 : Nat) : Int) = (ch : Int) := ⟨(a0 % 2).toNat, by omega, by omega⟩
  have bL : 0 ≤ a1 % ((2 ^ 6 : Nat) : Int) ∧ a1 % ((2 ^ 6 : Nat) : Int) < 64 := by omega
  have bF : 0 ≤ a2 % ((2 ^ 11 : Nat) : Int) ∧ a2 % ((2 ^ 11 : Nat) : Int) < 2048 := by omega
  rw [hc]
  generalize a1 % ((2 ^ 6 : Nat) : Int) = L at bL ⊢
  generalize a2 % ((2 ^ 11 : Nat) : Int) = F at bF ⊢
  rw [or16 (b := 61440) 6 (by decide) bL.1 (by omega) (by decide) (by decide) (by decide), or16 (b := 49152) 11 (by decide) bF.1 (by omega) (by decide) (by decide) (by decide), or16 (b := 32768) 11 (by decide) bF.1 (by omega) (by decide) (by decide) (by decide)]
  rw [wrap_i64 (x := 2 * (ch : Int)) (by omega) (by omega), wrap_i64 (x := 1 + 2 * (ch : Int)) (by omega) (by omega), wrap_i64 (x := 2 + 2 * (ch : Int)) (by omega) (by omega), wrap_i64 (x := L) (by omega) (by omega), wrap_i64 (x := 64 - L) (by omega) (by omega), wrap_i64 (x := 65536 * (64 - L)) (by omega) (by omega)]
  refine (awake_ok w).mono fun e wa ⟨he, ca⟩ => ⟨_, he, cnd (fun h => by cases h) (fun _ => ?_)⟩
  refine (new_ok wa).mono fun e wb ⟨he, hb, cb, sb⟩ => ⟨_, he, ?_⟩
  have sa := ca.size
  generalize wa.heap.size = b at *
  have keep : ∀ {w' w'' : World}, Chg (fun _ => False) w w' → Chg (· = b) w' w'' → Chg (fun _ => False) w w'' := fun h h' => h.then h' fun k hk e => by omega
  have gz : Good PU.zero := ⟨WF.zero, fun _ => (by decide : (0 : Int) ≤ 0 ∧ (0 : Int) < 256), by decide⟩
  refine (write_ok hb (v := PU.zero) (n := 0) (.stop (by decide)) (by decide) (1 + 2 * (ch : Int)) (L + 61440) (by omega) (by omega)).mono fun e wc ⟨he, hc1, cc⟩ => ⟨he, ?_⟩
  have g1 : Good (writeR PU.zero (1 + 2 * (ch : Int)) (L + 61440)) := gz.write _ (by omega) (by omega)
  rw [write1 hch] at hc1 g1
  have df := dutyC_facts (c := PU.zero.get ch) (x := L + 61440) rfl bL.1 bL.2
  have k1 : kk (PU.zero.put (dutyC (PU.zero.get ch) (L + 61440)) ch) ch = core (dutyC (PU.zero.get ch) (L + 61440)) := by unfold kk; rw [put_get]
  have z1 : ∀ j, j < 4 → j ≠ ch → (kk (PU.zero.put (dutyC (PU.zero.get ch) (L + 61440)) ch) j).on = false := by
    intro j hj hne
    unfold kk
    rw [get_put (by omega) hj, if_neg hne]
    obtain rfl | rfl | rfl | rfl : j = 0 ∨ j = 1 ∨ j = 2 ∨ j = 3 := by omega
    all_goals rfl
  have s1 : (PU.zero.put (dutyC (PU.zero.get ch) (L + 61440)) ch).s0.sweepIn = 0 := put_s0 hch df.2.2
  have n1 : (PU.zero.put (dutyC (PU.zero.get ch) (L + 61440)) ch).now = 0 ∧ (PU.zero.put (dutyC (PU.zero.get ch) (L + 61440)) ch).beats = 0 := put_now
  generalize hu1 : PU.zero.put (dutyC (PU.zero.get ch) (L + 61440)) ch = u1 at *
  refine (write_ok hc1 (v := u1) (n := 0) (.stop (by omega)) g1.wf.shift.1 (2 + 2 * (ch : Int)) (F + 49152) (by omega) (by omega)).mono fun e wd ⟨he, hd1, cd⟩ => ⟨he, ?_⟩
  have g2 : Good (writeR u1 (2 + 2 * (ch : Int)) (F + 49152)) := g1.write _ (by omega) (by omega)
  rw [write2 hch] at hd1 g2
  have rf := reg_facts (u := u1) hch (x := F + 49152) (by omega) (by omega) (by rw [k1]; exact df.2.1) s1 z1
  have going : Going ch (64 - L) (regF u1 (F + 49152) ch) := by
    refine ⟨g2, rf.2.2.1, ⟨rf.2.2.2.1, rf.2.2.2.2.1, ?_, ?_⟩, rf.2.2.2.2.2.2.2, by rw [rf.1, rf.2.1, n1.1, n1.2]; rfl⟩
    · rw [rf.2.2.2.2.2.1]; exact decide_eq_true (by omega)
    · rw [rf.2.2.2.2.2.2.1, rf.2.1, k1, n1.2]
      show (if (dutyC (PU.zero.get ch) (L + 61440)).length = 0 then 64 else (dutyC (PU.zero.get ch) (L + 61440)).length) = _
      rw [df.1, if_neg (by omega)]; omega
  have hnow2 : (regF u1 (F + 49152) ch).now = 0 := by rw [rf.1, n1.1]
  generalize regF u1 (F + 49152) ch = u2 at *
  refine Lt_intro fun s8 hs8 => ?_
  subst hs8
  rw [wrap_i64 (x := 65536 * (64 - L) - 1) (by omega) (by omega), wrap_i64 (x := 65536 * (64 - L) + 10000000) (by omega) (by omega)]
  obtain ⟨n3, u3, r3, go3, now3⟩ := going.run hch (by omega) (by omega)
  refine (run_ok hd1 r3).mono fun e we ⟨he, he1, ce⟩ => ⟨he, ?_⟩
  have pow : IntKind.wrap .i64 ((1 : Int) * 2 ^ (min (ch : Int).toNat 64)) = if ch = 0 then 1 else 2 := by
    obtain rfl | rfl : ch = 0 ∨ ch = 1 := by omega
    all_goals decide
  have play1 : ∀ u : PU, (kk u ch).on = true → (∀ j, j < 4 → j ≠ ch → (kk u j).on = false) → playing u = if ch = 0 then 1 else 2 := by
    intro u h1 h2
    rw [playing_pl]
    obtain rfl | rfl : ch = 0 ∨ ch = 1 := by omega
    · rw [show u.s0.on = true from h1, show u.s1.on = false from h2 1 (by decide) (by decide), show u.wave.on = false from h2 2 (by decide) (by decide), show u.noise.on = false from h2 3 (by decide) (by decide)]; decide
    · rw [show u.s1.on = true from h1, show u.s0.on = false from h2 0 (by decide) (by decide), show u.wave.on = false from h2 2 (by decide) (by decide), show u.noise.on = false from h2 3 (by decide) (by decide)]; decide
  rw [pow]
  refine ⟨fun _ => True, trivial, chk_dec (by omega) ((playing_ok (he1.drewN 1)).mono fun e wf ⟨he, hf1, cf⟩ => ⟨_, he, trivial, ?_⟩)⟩
  have c6 : Chg (fun _ => False) w wf := ((keep (ca.trans cb) (((cc.trans cd).trans ce))).drewBy 1).trans cf
  refine cnd_bne (fun h => absurd (play1 u3 go3.k.1 go3.off) h) (fun _ => ?_)
  obtain ⟨n4, u4, r4, go4, now4⟩ := go3.end_ hch (by omega) now3
  refine (run_ok hf1 r4).mono fun e wg ⟨he, hg1, cg⟩ => ⟨he, ?_⟩
  refine (playing_ok hg1).mono fun e wh ⟨he, hh1, chh⟩ => ⟨_, he, ?_⟩
  have o0 : u4.s0.on = false := go4.off 0 (by decide)
  have o1 : u4.s1.on = false := go4.off 1 (by decide)
  have o2 : u4.wave.on = false := go4.off 2 (by decide)
  have o3 : u4.noise.on = false := go4.off 3 (by decide)
  have p4 : playing u4 = 0 := by rw [playing_pl, o0, o1, o2, o3]; decide
  refine cnd_bne (fun h => absurd p4 h) (fun _ => ?_)
  refine (out_ok hh1 go4.good.wf.out).mono fun e wi ⟨he, hi1, ci⟩ => ⟨_, _, _, _, he, ?_⟩
  have q0 : sqOut u4.s0 = 0 := by unfold sqOut; rw [if_neg (by rw [o0]; decide)]
  have q1 : sqOut u4.s1 = 0 := by unfold sqOut; rw [if_neg (by rw [o1]; decide)]
  have q2 : waveOut u4 = 0 := by unfold waveOut; rw [if_neg (by rw [o2]; decide)]
  have q3 : noiseOut u4 = 0 := by unfold noiseOut; rw [if_neg (by rw [o3]; decide)]
  rw [q0, q1, q2, q3]
  refine cnd (fun h => by cases h) (fun _ => ?_)
  refine (write_ok hi1 (v := u4) (n := 0) (.stop (by omega)) go4.good.wf.shift.1 (2 + 2 * (ch : Int)) (F + 32768) (by omega) (by omega)).mono fun e wj ⟨he, hj1, cj⟩ => ⟨he, ?_⟩
  have g5 : Good (writeR u4 (2 + 2 * (ch : Int)) (F + 32768)) := go4.good.write _ (by omega) (by omega)
  rw [write2 hch] at hj1 g5
  have rf5 := reg_facts (u := u4) hch (x := F + 32768) (by omega) (by omega) go4.k.1 go4.sweep (fun j hj _ => go4.off j hj)
  have free : Free ch (regF u4 (F + 32768) ch) := ⟨g5, rf5.2.2.1, ⟨rf5.2.2.2.1, by rw [rf5.2.2.2.2.2.1]; exact decide_eq_false (by omega)⟩, rf5.2.2.2.2.2.2.2⟩
  obtain ⟨n6, u6, r6, fr6⟩ := free.run hch (now := 65536 * (64 - L) + 10000000) (by unfold big; omega)
  refine (run_ok hj1 r6).mono fun e wk ⟨he, hk1, ck⟩ => ⟨he, fun _ => True, trivial, chk_dec (by omega) ((playing_ok (hk1.drewN 1)).mono fun e wl ⟨he, hl1, cl⟩ => ⟨_, he, trivial, Lt_intro fun s6 hs6 => ?_⟩)⟩
  have hs : s6 = true := by rw [hs6, play1 u6 fr6.k.1 fr6.off]; simp
  subst hs
  exact ⟨rfl, ((keep (keep ((keep c6 cg).trans chh |>.trans ci) cj) ck).drewBy 1).trans cl⟩

end Go.Proofs.Ytieamlpjdilcoaa
