/-
  The channels up to a cycle: the program's Run.
-/
import Derived.Test.YtccmpceifheejaaBr
namespace Go.Proofs.Ytccmpceifheejaa
open Go.Vc
set_option linter.unusedVariables false
set_option linter.unusedSimpArgs false
def one (S : PS) : PS :=
  let T : PS := { tick S with now := S.now + 1 }
  if T.now % 32768 = 0 then beatA T else T
def runN : Nat → PS → PS
  | 0, S => S
  | n + 1, S => one (runN n S)
theorem runN_add (a : Nat) (S : PS) : ∀ b, runN (b + a) S = runN b (runN a S)
  | 0 => by rw [Nat.zero_add]; rfl
  | b + 1 => by rw [show b + 1 + a = (b + a) + 1 by omega]; show one (runN (b + a) S) = one (runN b (runN a S)); rw [runN_add a S b]
def kc (c : Ch) : Int × Bool × Int × Int × Bool × Int × Int × Bool := (c.duty, c.ul, c.start, c.step, c.up, c.sweepBy, c.sweepIn, c.sweepDown)
def konst (S : PS) := (kc S.c0, (kc S.c1, S.c1.freq, S.c1.sweepLeft), (kc S.c2, S.c2.freq, S.c2.sweepLeft), (kc S.c3, S.c3.freq, S.c3.sweepLeft), S.two, S.page, S.level, S.dac, S.narrow, S.shift, S.div)
def mix (S T : PS) : PS :=
  { S with c0 := { S.c0 with on := T.c0.on, length := T.c0.length, volume := T.c0.volume, left := T.c0.left, freq := T.c0.freq, wait := T.c0.wait, at' := T.c0.at', sweepLeft := T.c0.sweepLeft },
           c1 := { S.c1 with on := T.c1.on, length := T.c1.length, volume := T.c1.volume, left := T.c1.left, wait := T.c1.wait, at' := T.c1.at' },
           c2 := { S.c2 with on := T.c2.on, length := T.c2.length, volume := T.c2.volume, left := T.c2.left, wait := T.c2.wait, at' := T.c2.at' },
           c3 := { S.c3 with on := T.c3.on, length := T.c3.length, volume := T.c3.volume, left := T.c3.left, wait := T.c3.wait, at' := T.c3.at' },
           lfsr := T.lfsr, now := T.now, beats := T.beats }
theorem mix_of {S T : PS} (h : konst T = konst S) : mix S T = T := by
  obtain ⟨⟨a0, a1, a2, a3, a4, a5, a6, a7, a8, a9, a10, a11, a12, a13, a14, a15⟩, ⟨b0, b1, b2, b3, b4, b5, b6, b7, b8, b9, b10, b11, b12, b13, b14, b15⟩, ⟨d0, d1, d2, d3, d4, d5, d6, d7, d8, d9, d10, d11, d12, d13, d14, d15⟩, ⟨e0, e1, e2, e3, e4, e5, e6, e7, e8, e9, e10, e11, e12, e13, e14, e15⟩, f0, f1, f2, f3, f4, f5, f6, f7, f8, f9⟩ := T
  simp only [konst, kc, Prod.mk.injEq] at h
  obtain ⟨⟨h1, h2, h3, h4, h5, h6, h7, h8⟩, ⟨⟨i1, i2, i3, i4, i5, i6, i7, i8⟩, i9, i10⟩, ⟨⟨j1, j2, j3, j4, j5, j6, j7, j8⟩, j9, j10⟩, ⟨⟨k1, k2, k3, k4, k5, k6, k7, k8⟩, k9, k10⟩, l1, l2, l3, l4, l5, l6, l7⟩ := h
  unfold mix
  simp only [← h1, ← h2, ← h3, ← h4, ← h5, ← h6, ← h7, ← h8, ← i1, ← i2, ← i3, ← i4, ← i5, ← i6, ← i7, ← i8, ← i9, ← i10, ← j1, ← j2, ← j3, ← j4, ← j5, ← j6, ← j7, ← j8, ← j9, ← j10, ← k1, ← k2, ← k3, ← k4, ← k5, ← k6, ← k7, ← k8, ← k9, ← k10, ← l1, ← l2, ← l3, ← l4, ← l5, ← l6, ← l7]
theorem kc_runc {y m n : Int} {c : Ch} : kc (runc y m n c) = kc c ∧ (runc y m n c).sweepLeft = c.sweepLeft := by
  unfold runc; split
  · split <;> exact ⟨rfl, rfl⟩
  · exact ⟨rfl, rfl⟩
theorem kc_tickc {y m : Int} {c : Ch} : kc (tickc y m c) = kc c ∧ (tickc y m c).sweepLeft = c.sweepLeft := by
  unfold tickc; split
  · split <;> exact ⟨rfl, rfl⟩
  · exact ⟨rfl, rfl⟩
theorem konst_play {S : PS} {n : Int} : konst (play S n) = konst S := by
  show (kc (runc _ _ _ _), (kc (runc _ _ _ _), (runc _ _ _ _).freq, (runc _ _ _ _).sweepLeft), (kc (runc _ _ _ _), (runc _ _ _ _).freq, (runc _ _ _ _).sweepLeft), _) = _
  rw [kc_runc.1, kc_runc.1, kc_runc.1, runc_freq, runc_freq, kc_runc.2, kc_runc.2]; rfl
theorem kc_chL {e : Bool} {c : Ch} : kc (chL e c) = kc c ∧ (chL e c).freq = c.freq ∧ (chL e c).sweepLeft = c.sweepLeft := by cases e <;> exact ⟨rfl, rfl, rfl⟩
theorem kc_chS {e : Bool} {c : Ch} : kc (chS e c) = kc c := by cases e <;> rfl
theorem kc_chE {e : Bool} {c : Ch} : kc (chE e c) = kc c ∧ (chE e c).freq = c.freq ∧ (chE e c).sweepLeft = c.sweepLeft := by cases e <;> exact ⟨rfl, rfl, rfl⟩
theorem konst_beat {S : PS} : konst (beatA S) = konst S := by
  show (kc (chE _ (chS _ (chL _ _))), (kc (chE _ (chL _ _)), (chE _ (chL _ _)).freq, (chE _ (chL _ _)).sweepLeft), (kc (chL _ _), (chL _ _).freq, (chL _ _).sweepLeft), (kc (chE _ (chL _ _)), (chE _ (chL _ _)).freq, (chE _ (chL _ _)).sweepLeft), _) = _
  simp only [kc_chE.1, kc_chE.2.1, kc_chE.2.2, kc_chS, kc_chL.1, kc_chL.2.1, kc_chL.2.2]; rfl
theorem konst_one {S : PS} : konst (one S) = konst S := by
  have h1 : konst ({ tick S with now := S.now + 1 } : PS) = konst S := by
    show (kc (tickc _ _ _), (kc (tickc _ _ _), (tickc _ _ _).freq, (tickc _ _ _).sweepLeft), (kc (tickc _ _ _), (tickc _ _ _).freq, (tickc _ _ _).sweepLeft), (kc (if _ then _ else _), _), _) = _
    rw [kc_tickc.1, kc_tickc.1, kc_tickc.1, tickc_freq, tickc_freq, kc_tickc.2, kc_tickc.2]
    unfold tick
    split <;> rfl
  unfold one
  simp only
  split
  · rw [konst_beat, h1]
  · exact h1
theorem konst_runN {S : PS} : ∀ n, konst (runN n S) = konst S
  | 0 => rfl
  | n + 1 => konst_one.trans (konst_runN n)
theorem one_now {S : PS} : (one S).now = S.now + 1 := by
  unfold one; simp only; split <;> rfl
theorem runN_now {S : PS} : ∀ n : Nat, (runN n S).now = S.now + n
  | 0 => by simp [runN]
  | n + 1 => by show (one (runN n S)).now = _; rw [one_now, runN_now n]; omega
theorem tick_gok {S : PS} (h : GOk S) : GOk (tick S) := by
  have e := play_succ h.wok 0 (Int.le_refl 0)
  rw [play_zero h.wok] at e
  rw [← e]; exact play_gok h (by decide)
theorem now_gok {S : PS} (h : GOk S) (n : Int) : GOk { S with now := n } := ⟨h.c0, h.c1, h.c2, h.c3, h.lf, h.dv, h.sh⟩
theorem one_gok {S : PS} (h : GOk S) : GOk (one S) := by
  unfold one; simp only; split
  · exact beat_gok (now_gok (tick_gok h) _)
  · exact now_gok (tick_gok h) _
theorem runN_gok {S : PS} (h : GOk S) : ∀ n, GOk (runN n S)
  | 0 => h
  | n + 1 => one_gok (runN_gok h n)
theorem runN_play {S : PS} (h : GOk S) : ∀ n : Nat, (∀ k : Nat, 0 < k → k ≤ n → ¬ (S.now + k) % 32768 = 0) → runN n S = { play S n with now := S.now + n }
  | 0, _ => by
    have e : play S ((0 : Nat) : Int) = S := play_zero h.wok
    rw [e]
    show S = { S with now := S.now + 0 }
    rw [Int.add_zero]
  | n + 1, hk => by
    show one (runN n S) = _
    rw [runN_play h n fun k k0 k1 => hk k k0 (by omega)]
    unfold one
    have e : tick { play S n with now := S.now + n } = { tick (play S n) with now := S.now + n } := rfl
    simp only [e]
    rw [if_neg (by have := hk (n + 1) (by omega) (Nat.le_refl _); show ¬ (S.now + (n : Int) + 1) % 32768 = 0; rw [show S.now + (n : Int) + 1 = S.now + ((n + 1 : Nat) : Int) by omega]; exact this), ← play_succ h.wok n (by omega)]
    show ({ play S ((n : Int) + 1) with now := S.now + (n : Int) + 1 } : PS) = { play S ((n + 1 : Nat) : Int) with now := S.now + ((n + 1 : Nat) : Int) }
    rw [show ((n + 1 : Nat) : Int) = (n : Int) + 1 by omega, Int.add_assoc]
theorem runN_beat {S : PS} (h : GOk S) (n : Nat) (hk : ∀ k : Nat, 0 < k → k ≤ n → ¬ (S.now + k) % 32768 = 0) (hb : (S.now + (n + 1 : Nat)) % 32768 = 0) : runN (n + 1) S = beatA { play S ((n + 1 : Nat) : Int) with now := S.now + ((n + 1 : Nat) : Int) } := by
  show one (runN n S) = _
  rw [runN_play h n hk]
  unfold one
  have e : tick { play S n with now := S.now + n } = { tick (play S n) with now := S.now + n } := rfl
  simp only [e]
  rw [if_pos (by show (S.now + (n : Int) + 1) % 32768 = 0; rw [show S.now + (n : Int) + 1 = S.now + ((n + 1 : Nat) : Int) by omega]; exact hb), ← play_succ h.wok n (by omega)]
  rw [show ((n + 1 : Nat) : Int) = (n : Int) + 1 by omega, Int.add_assoc]
def wv (S T : PS) : PS :=
  { S with c0 := { S.c0 with wait := T.c0.wait, at' := T.c0.at' }, c1 := { S.c1 with wait := T.c1.wait, at' := T.c1.at' }, c2 := { S.c2 with wait := T.c2.wait, at' := T.c2.at' },
           c3 := { S.c3 with wait := T.c3.wait, at' := T.c3.at' }, lfsr := T.lfsr, now := T.now }
theorem wv_runc {y m n : Int} {c : Ch} : ({ c with wait := (runc y m n c).wait, at' := (runc y m n c).at' } : Ch) = runc y m n c := by
  unfold runc; split
  · split <;> rfl
  · rfl
theorem wv_tickc {y m : Int} {c : Ch} : ({ c with wait := (tickc y m c).wait, at' := (tickc y m c).at' } : Ch) = tickc y m c := by
  unfold tickc; split
  · split <;> rfl
  · rfl
theorem wv_play {S : PS} {n t : Int} : wv S { play S n with now := t } = { play S n with now := t } := by
  have e0 := wv_runc (y := cyc0 S.c0) (m := 8) (n := n) (c := S.c0)
  have e1 := wv_runc (y := cyc0 S.c1) (m := 8) (n := n) (c := S.c1)
  have e2 := wv_runc (y := cyc2 S.c2) (m := 64) (n := n) (c := S.c2)
  unfold wv play
  simp only [e0, e1, e2]
theorem wv_tick {S : PS} {t : Int} : wv S { tick S with now := t } = { tick S with now := t } := by
  have e0 := wv_tickc (y := cyc0 S.c0) (m := 8) (c := S.c0)
  have e1 := wv_tickc (y := cyc0 S.c1) (m := 8) (c := S.c1)
  have e2 := wv_tickc (y := cyc2 S.c2) (m := 64) (c := S.c2)
  unfold wv tick
  simp only [e0, e1, e2]
  congr 1
  split <;> rfl
theorem w_chE {e : Bool} {c : Ch} : (chE e c).wait = c.wait ∧ (chE e c).at' = c.at' := by cases e <;> exact ⟨rfl, rfl⟩
theorem w_chS {e : Bool} {c : Ch} : (chS e c).wait = c.wait ∧ (chS e c).at' = c.at' := by cases e <;> exact ⟨rfl, rfl⟩
theorem w_chL {e : Bool} {c : Ch} : (chL e c).wait = c.wait ∧ (chL e c).at' = c.at' := by cases e <;> exact ⟨rfl, rfl⟩
theorem w_beat {N : PS} : (beatA N).c0.wait = N.c0.wait ∧ (beatA N).c0.at' = N.c0.at' ∧ (beatA N).c1.wait = N.c1.wait ∧ (beatA N).c1.at' = N.c1.at' ∧ (beatA N).c2.wait = N.c2.wait ∧ (beatA N).c2.at' = N.c2.at' ∧ (beatA N).c3.wait = N.c3.wait ∧ (beatA N).c3.at' = N.c3.at' := by
  unfold beatA
  exact ⟨w_chE.1.trans (w_chS.1.trans w_chL.1), w_chE.2.trans (w_chS.2.trans w_chL.2), w_chE.1.trans w_chL.1, w_chE.2.trans w_chL.2, w_chL.1, w_chL.2, w_chE.1.trans w_chL.1, w_chE.2.trans w_chL.2⟩
theorem r_beat2 (N : PS) : r_pRun (beatA N) = Q_2.mk (beatA N).c0.on (beatA N).c0.length (beatA N).c0.volume (beatA N).c0.left (beatA N).c0.freq N.c0.wait N.c0.at' (beatA N).c0.sweepLeft (beatA N).c1.on (beatA N).c1.length (beatA N).c1.volume (beatA N).c1.left N.c1.wait N.c1.at' (beatA N).c2.on (beatA N).c2.length (beatA N).c2.volume (beatA N).c2.left N.c2.wait N.c2.at' (beatA N).c3.on (beatA N).c3.length (beatA N).c3.volume (beatA N).c3.left N.c3.wait N.c3.at' N.lfsr N.now (beatA N).beats := by
  obtain ⟨h1, h2, h3, h4, h5, h6, h7, h8⟩ := w_beat (N := N)
  unfold r_pRun
  rw [h1, h2, h3, h4, h5, h6, h7, h8]
  rfl
theorem r_beat3 (U : US) (N : PS) : r_rpRun { U with ps := beatA N } = Q_2.mk (beatA N).c0.on (beatA N).c0.length (beatA N).c0.freq N.c0.at' N.c0.wait (beatA N).c0.volume (beatA N).c0.left (beatA N).c0.sweepLeft (beatA N).c1.on (beatA N).c1.length N.c1.at' N.c1.wait (beatA N).c1.volume (beatA N).c1.left (beatA N).c2.on (beatA N).c2.length N.c2.at' N.c2.wait (beatA N).c2.volume (beatA N).c2.left (beatA N).c3.on (beatA N).c3.length N.c3.at' N.c3.wait (beatA N).c3.volume (beatA N).c3.left N.lfsr N.now (beatA N).beats := by
  obtain ⟨h1, h2, h3, h4, h5, h6, h7, h8⟩ := w_beat (N := N)
  unfold r_rpRun
  simp only
  rw [h1, h2, h3, h4, h5, h6, h7, h8]
  rfl
set_option maxHeartbeats 4000000 in
theorem pRun_eq {S : PS} (h : GOk S) (h0 : 0 ≤ S.now) (h2 : S.now ≤ 2000000000) {q : Int} (hq : q ≤ 2000000000) : k_pRun S q = some (r_pRun (runN (q - S.now).toNat S)) := by
  unfold k_pRun pA f_pRun
  refine loopO_inv (fun m s => ∃ T : PS, s = r_pRun T ∧ konst T = konst S ∧ GOk T ∧ 0 ≤ T.now ∧ T.now ≤ 2000000000 ∧ (m : Int) = max 0 (q - T.now) ∧ runN (q - T.now).toNat T = runN (q - S.now).toNat S) ?_ (q - S.now).toNat _ ⟨S, rfl, rfl, h, h0, h2, by omega, rfl⟩
  rintro m s ⟨T, rfl, hk, hT, t0, t2, hm, hr⟩
  have hmix := mix_of hk
  show (∃ s' m', cond (decide (T.now < q)) _ _ = _ ∧ _) ∨ cond (decide (T.now < q)) _ _ = _
  by_cases hlt : T.now < q
  · left
    rw [← hr]
    have d1 : 0 ≤ T.now / 32768 := by omega
    generalize hto : (if (T.now / 32768 + 1) * 32768 < q then (T.now / 32768 + 1) * 32768 else q) = to
    have hb : T.now < to ∧ to ≤ q ∧ to ≤ (T.now / 32768 + 1) * 32768 := by subst hto; split <;> omega
    obtain ⟨n, hn⟩ : ∃ n : Nat, to - T.now = ((n + 1 : Nat) : Int) := ⟨(to - T.now - 1).toNat, by omega⟩
    have hno : ∀ k : Nat, 0 < k → k ≤ n → ¬ (T.now + (k : Int)) % 32768 = 0 := fun k k0 k1 => by omega
    have hGM : GOk (mix S T) := by rw [hmix]; exact hT
    have hplay := play_eq hGM (n := to - T.now) (by omega) (by omega)
    have hN : wv (mix S T) { play (mix S T) (to - T.now) with now := to } = { play (mix S T) (to - T.now) with now := to } := wv_play
    have hGN : GOk (wv (mix S T) { play (mix S T) (to - T.now) with now := to }) := by rw [hN]; exact now_gok (play_gok hGM (by omega)) _
    have hKN : konst (wv (mix S T) { play (mix S T) (to - T.now) with now := to }) = konst S := by
      rw [hN]; show konst (play (mix S T) (to - T.now)) = _; rw [konst_play, hmix]; exact hk
    rw [cpos hlt, Let_eq, tdiv_nn t0, wrap_i64 (x := T.now / 32768) (by omega) (by omega), wrap_i64 (x := T.now / 32768 + 1) (by omega) (by omega), wrap_i64 (x := (T.now / 32768 + 1) * 32768) (by omega) (by omega), hto, wrap_i64 (x := to - T.now) (by omega) (by omega)]
    have hmod : Int.tmod to 32768 = to % 32768 := tmod_nn (by omega)
    have e1 : runN (q - T.now).toNat T = runN (q - to).toNat (runN (n + 1) T) := by rw [← runN_add]; congr 1; omega
    by_cases hbt : to % 32768 = 0
    · have hb1 := runN_beat hT n hno (by rw [← hn]; rw [show T.now + (to - T.now) = to by omega]; exact hbt)
      refine ⟨r_pRun (beatA (wv (mix S T) { play (mix S T) (to - T.now) with now := to })), (q - to).toNat, ?_, by omega, beatA (wv (mix S T) { play (mix S T) (to - T.now) with now := to }), rfl, konst_beat.trans hKN, beat_gok hGN, (by show 0 ≤ to; omega), (by show to ≤ _; omega), (by show ((q - to).toNat : Int) = max 0 (q - to); omega), ?_⟩
      · refine (bind_of (r_play (wv (mix S T) { play (mix S T) (to - T.now) with now := to })) hplay).trans ?_
        show cond (Int.tmod to 32768 == 0) ((k_beat (wv (mix S T) { play (mix S T) (to - T.now) with now := to })).bind _) _ = _
        rw [hmod, ceq hbt, beat_eq hGN, bind_some', r_beat2]
        rfl
      · show runN (q - to).toNat _ = _
        rw [e1, hb1, hN, hmix, ← hn, show T.now + (to - T.now) = to by omega]
    · have hb1 := runN_play hT (n + 1) (fun k k0 k1 => by
        by_cases hkn : k ≤ n
        · exact hno k k0 hkn
        · rw [show k = n + 1 by omega, ← hn, show T.now + (to - T.now) = to by omega]; exact hbt)
      refine ⟨r_pRun (wv (mix S T) { play (mix S T) (to - T.now) with now := to }), (q - to).toNat, ?_, by omega, wv (mix S T) { play (mix S T) (to - T.now) with now := to }, rfl, hKN, hGN, (by show 0 ≤ to; omega), (by show to ≤ _; omega), (by show ((q - to).toNat : Int) = max 0 (q - to); omega), ?_⟩
      · refine (bind_of (r_play (wv (mix S T) { play (mix S T) (to - T.now) with now := to })) hplay).trans ?_
        show cond (Int.tmod to 32768 == 0) _ _ = _
        rw [hmod, cne hbt]
        rfl
      · show runN (q - to).toNat _ = _
        rw [e1, hb1, hN, hmix, ← hn, show T.now + (to - T.now) = to by omega]
  · right
    rw [cneg hlt]
    rw [show (q - T.now).toNat = 0 by omega] at hr
    rw [← hr]
    rfl
end Go.Proofs.Ytccmpceifheejaa
