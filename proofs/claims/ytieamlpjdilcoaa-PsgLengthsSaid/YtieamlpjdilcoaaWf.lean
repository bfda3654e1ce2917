/-
  What holds of every unit that is used as it should be: plain.
-/
import Derived.Test.YtieamlpjdilcoaaOut
namespace Go.Proofs.Ytieamlpjdilcoaa
open Go.Vc
set_option linter.unusedVariables false
set_option maxRecDepth 20000

structure SqOk (c : Sq) : Prop where
  freq : 0 ≤ c.freq ∧ c.freq < 2048
  duty : 0 ≤ c.duty ∧ c.duty < 4
  volume : 0 ≤ c.volume ∧ c.volume < 16
  start : 0 ≤ c.start ∧ c.start < 16
  wait : 0 ≤ c.wait ∧ c.wait < 2147483648
  by_ : 0 ≤ c.sweepBy ∧ c.sweepBy < 8
structure WF (u : PU) : Prop where
  s0 : SqOk u.s0
  s1 : SqOk u.s1
  wave : SqOk u.wave
  noise : SqOk u.noise
  wv : u.wave.volume = u.wave.volume
  at_ : 0 ≤ u.wave.at_ ∧ u.wave.at_ < 64
  page : u.page = 0 ∨ u.page = 1
  level : 0 ≤ u.level ∧ u.level < 5
  shift : 0 ≤ u.shift ∧ u.shift < 16
  div : 0 ≤ u.div ∧ u.div < 8

theorem SqOk.zero : SqOk Sq.zero := ⟨by decide, by decide, by decide, by decide, by decide, by decide⟩
theorem WF.zero : WF PU.zero := ⟨SqOk.zero, SqOk.zero, SqOk.zero, SqOk.zero, rfl, by decide, .inl rfl, by decide, by decide, by decide⟩
theorem WF.get {u : PU} (h : WF u) (i : Nat) : SqOk (u.get i) := by
  match i with
  | 0 => exact h.s0
  | 1 => exact h.s1
  | 2 => exact h.wave
  | n + 3 => exact h.noise
theorem WF.put {u : PU} (h : WF u) {c : Sq} (hc : SqOk c) (i : Nat) (ha : i = 2 → 0 ≤ c.at_ ∧ c.at_ < 64) : WF (u.put c i) := by
  match i with
  | 0 => exact { h with s0 := hc }
  | 1 => exact { h with s1 := hc }
  | 2 => exact { h with wave := hc, wv := rfl, at_ := ha rfl }
  | n + 3 => exact { h with noise := hc }
theorem WF.out {u : PU} (h : WF u) : OutOk u := ⟨h.s0.duty, h.s1.duty, h.at_, h.page, h.level⟩

theorem cycles_bound {u : PU} (h : WF u) (i : Nat) : 0 < cyclesF u i ∧ cyclesF u i ≤ 14680064 := by
  match i with
  | 0 =>
    have := h.s0.freq
    simp only [cyclesF]
    rw [wrap_i64 (x := 2048 - u.s0.freq) (by omega) (by omega), wrap_i64 (by omega) (by omega)]; omega
  | 1 =>
    have := h.s1.freq
    simp only [cyclesF]
    rw [wrap_i64 (x := 2048 - u.s1.freq) (by omega) (by omega), wrap_i64 (by omega) (by omega)]; omega
  | 2 =>
    have := h.wave.freq
    simp only [cyclesF]
    rw [wrap_i64 (x := 2048 - u.wave.freq) (by omega) (by omega), wrap_i64 (by omega) (by omega)]; omega
  | n + 3 =>
    have hs := h.shift
    have hd := h.div
    simp only [cyclesF]
    have hz : 0 < (if u.div = 0 then IntKind.wrap .i64 ((4 : Int) * 8) else IntKind.wrap .i64 (4 * (IntKind.wrap .i64 (16 * u.div)))) ∧ (if u.div = 0 then IntKind.wrap .i64 ((4 : Int) * 8) else IntKind.wrap .i64 (4 * (IntKind.wrap .i64 (16 * u.div)))) ≤ 448 := by
      split
      · decide
      · rw [wrap_i64 (x := 16 * u.div) (by omega) (by omega), wrap_i64 (by omega) (by omega)]; omega
    generalize (if u.div = 0 then IntKind.wrap .i64 ((4 : Int) * 8) else IntKind.wrap .i64 (4 * (IntKind.wrap .i64 (16 * u.div)))) = z at hz
    have hp : (2 : Int) ^ (min u.shift.toNat 64) = 1 ∨ (2 : Int) ^ (min u.shift.toNat 64) = 2 ∨ (2 : Int) ^ (min u.shift.toNat 64) = 4 ∨ (2 : Int) ^ (min u.shift.toNat 64) = 8 ∨ (2 : Int) ^ (min u.shift.toNat 64) = 16 ∨ (2 : Int) ^ (min u.shift.toNat 64) = 32 ∨ (2 : Int) ^ (min u.shift.toNat 64) = 64 ∨ (2 : Int) ^ (min u.shift.toNat 64) = 128 ∨ (2 : Int) ^ (min u.shift.toNat 64) = 256 ∨ (2 : Int) ^ (min u.shift.toNat 64) = 512 ∨ (2 : Int) ^ (min u.shift.toNat 64) = 1024 ∨ (2 : Int) ^ (min u.shift.toNat 64) = 2048 ∨ (2 : Int) ^ (min u.shift.toNat 64) = 4096 ∨ (2 : Int) ^ (min u.shift.toNat 64) = 8192 ∨ (2 : Int) ^ (min u.shift.toNat 64) = 16384 ∨ (2 : Int) ^ (min u.shift.toNat 64) = 32768 := by
      generalize u.shift = s at hs
      obtain rfl | rfl | rfl | rfl | rfl | rfl | rfl | rfl | rfl | rfl | rfl | rfl | rfl | rfl | rfl | rfl : s = 0 ∨ s = 1 ∨ s = 2 ∨ s = 3 ∨ s = 4 ∨ s = 5 ∨ s = 6 ∨ s = 7 ∨ s = 8 ∨ s = 9 ∨ s = 10 ∨ s = 11 ∨ s = 12 ∨ s = 13 ∨ s = 14 ∨ s = 15 := by omega
      all_goals decide
    generalize (2 : Int) ^ (min u.shift.toNat 64) = p at hp
    obtain rfl | rfl | rfl | rfl | rfl | rfl | rfl | rfl | rfl | rfl | rfl | rfl | rfl | rfl | rfl | rfl := hp
    all_goals
      rw [wrap_i64 (by omega) (by omega)]; omega

theorem WF.clock {u : PU} (h : WF u) : WF (clockF u) := by
  unfold clockF; dsimp only; split
  · exact { h with }
  · exact { h with }
theorem WF.clockN {u : PU} (h : WF u) : ∀ n, WF (clockN n u)
  | 0 => h
  | n + 1 => (WF.clockN h n).clock

theorem more_bound {u : PU} (h : WF u) {i : Nat} {n : Int} (hn : 0 ≤ n ∧ n ≤ 32768) (hw : ¬ n < (u.get i).wait) : 1 ≤ moreF u i n ∧ moreF u i n ≤ 32769 := by
  have hc := cycles_bound h i
  have hg := (h.get i).wait
  unfold moreF
  rw [wrap_i64 (x := n - (u.get i).wait) (by omega) (by omega), tdiv_nn (by omega)]
  have h1 : 0 ≤ (n - (u.get i).wait) / cyclesF u i := Int.ediv_nonneg (by omega) (by omega)
  have h2 : (n - (u.get i).wait) / cyclesF u i ≤ n - (u.get i).wait := Int.ediv_le_self _ (by omega)
  rw [wrap_i64 (x := (n - (u.get i).wait) / cyclesF u i) (by omega) (by omega), wrap_i64 (by omega) (by omega)]
  omega
theorem wait_bound {u : PU} (h : WF u) {i : Nat} {n : Int} (hn : 0 ≤ n ∧ n ≤ 32768) (hw : ¬ n < (u.get i).wait) : 0 ≤ waitF u i n ∧ waitF u i n < 2147483648 := by
  have hc := cycles_bound h i
  have hg := (h.get i).wait
  unfold waitF
  rw [wrap_i64 (x := n - (u.get i).wait) (by omega) (by omega), tmod_nn (by omega)]
  have h1 := Int.emod_nonneg (n - (u.get i).wait) (show cyclesF u i ≠ 0 by omega)
  have h2 := Int.emod_lt_of_pos (n - (u.get i).wait) hc.1
  rw [wrap_i64 (by omega) (by omega)]
  omega

theorem WF.play {u : PU} (h : WF u) {i : Nat} {n : Int} (hn : 0 ≤ n ∧ n ≤ 32768) : WF (playCh u i n) := by
  unfold playCh
  split
  · exact h
  have hg := h.get i
  split
  · rename_i hw
    have := hg.wait
    refine h.put (c := { u.get i with wait := IntKind.wrap .i64 ((u.get i).wait - n) }) { hg with wait := ?_ } i ?_
    · show 0 ≤ IntKind.wrap .i64 _ ∧ IntKind.wrap .i64 _ < _
      rw [wrap_i64 (by omega) (by omega)]; omega
    · rintro rfl; exact h.at_
  · rename_i hw
    have hm := more_bound h hn hw
    have hw' := wait_bound h hn hw
    match i with
    | 0 => exact { h with s0 := { h.s0 with wait := hw' } }
    | 1 => exact { h with s1 := { h.s1 with wait := hw' } }
    | 2 =>
      have ha := h.at_
      refine { h with wave := { h.wave with wait := hw' }, wv := rfl, at_ := ?_ }
      show 0 ≤ Int.tmod (IntKind.wrap .i64 _) 64 ∧ Int.tmod (IntKind.wrap .i64 _) 64 < 64
      rw [wrap_i64 (by omega) (by omega), tmod_nn (by omega)]; omega
    | k + 3 =>
      have h3 : WF { u with noise := { u.noise with wait := waitF u 3 n } } := { h with noise := { h.noise with wait := hw' } }
      exact h3.clockN _
theorem WF.playTo {u : PU} (h : WF u) {n : Int} (hn : 0 ≤ n ∧ n ≤ 32768) : ∀ i, WF (playTo u n i)
  | 0 => h
  | i + 1 => (WF.playTo h hn i).play hn
theorem WF.playOk {u : PU} (h : WF u) {n : Int} (hn : 0 ≤ n ∧ n ≤ 32768) : PlayOk u n := fun i _ =>
  ⟨(h.playTo hn i).shift.1, by have := (cycles_bound (h.playTo hn i) i).1; omega⟩

theorem SqOk.len {c : Sq} (h : SqOk c) : SqOk (lenC c) := by
  unfold lenC
  repeat' split
  all_goals exact { h with }
theorem lenC_at {c : Sq} : (lenC c).at_ = c.at_ := by
  unfold lenC
  repeat' split
  all_goals rfl
theorem WF.lenTo {u : PU} (h : WF u) : ∀ i, WF (lenTo u i)
  | 0 => h
  | i + 1 => (WF.lenTo h i).put ((WF.lenTo h i).get i).len i (by rintro rfl; rw [lenC_at]; exact (WF.lenTo h 2).at_)
theorem SqOk.sweep {c : Sq} (h : SqOk c) : SqOk (sweepC c) := by
  have hf := h.freq
  have hb := h.by_
  have hq : 0 ≤ Int.fdiv c.freq (2 ^ (min c.sweepBy.toNat 64)) ∧ Int.fdiv c.freq (2 ^ (min c.sweepBy.toNat 64)) ≤ c.freq := by
    have hp : (0 : Int) < 2 ^ (min c.sweepBy.toNat 64) := Int.pow_pos (by decide)
    rw [fdiv_pos hp]
    exact ⟨Int.ediv_nonneg hf.1 (by omega), Int.ediv_le_self _ hf.1⟩
  have hby : -c.freq ≤ sweepBy c ∧ sweepBy c ≤ c.freq := by
    unfold sweepBy
    split
    · rw [wrap_i64 (by omega) (by omega)]; omega
    · omega
  have hw : IntKind.wrap .i64 (c.freq + sweepBy c) = c.freq + sweepBy c := wrap_i64 (by omega) (by omega)
  unfold sweepC
  split
  · exact h
  split
  · exact h
  split
  · exact { h with }
  split
  · exact { h with }
  split
  · rename_i h5 h6
    refine { h with freq := ?_ }
    show 0 ≤ IntKind.wrap .i64 _ ∧ IntKind.wrap .i64 _ < _
    rw [hw] at h5 ⊢; omega
  · exact { h with }
theorem WF.sweep {u : PU} (h : WF u) : WF (sweepF u) := { h with s0 := h.s0.sweep }
theorem SqOk.env {c : Sq} (h : SqOk c) (i : Nat) : SqOk (envC i c) := by
  have hv := h.volume
  unfold envC
  split
  · split
    · unfold volC
      split
      · rename_i h1
        refine { h with volume := ?_ }
        show 0 ≤ IntKind.wrap .i64 _ ∧ IntKind.wrap .i64 _ < _
        rw [wrap_i64 (by omega) (by omega)]; omega
      · split
        · rename_i h1
          refine { h with volume := ?_ }
          show 0 ≤ IntKind.wrap .i64 _ ∧ IntKind.wrap .i64 _ < _
          rw [wrap_i64 (by omega) (by omega)]; omega
        · exact { h with }
    · exact { h with }
  · exact h
theorem envC_at {i : Nat} {c : Sq} : (envC i c).at_ = c.at_ := by
  unfold envC volC
  repeat' split
  all_goals rfl
theorem WF.envTo {u : PU} (h : WF u) : ∀ i, WF (envTo u i)
  | 0 => h
  | i + 1 => (WF.envTo h i).put (((WF.envTo h i).get i).env i) i (by rintro rfl; rw [envC_at]; exact (WF.envTo h 2).at_)
theorem WF.beat1 {u : PU} (h : WF u) : WF (beat1 u) := { h with }
theorem WF.beat2 {u : PU} (h : WF u) : WF (beat2 u) := by
  unfold Proofs.Ytieamlpjdilcoaa.beat2
  split
  · exact h.beat1.lenTo 4
  · exact h.beat1
theorem WF.beat {u : PU} (h : WF u) : WF (beatF u) := by
  have h3 : WF (beat3 u) := by
    unfold beat3
    split
    · exact h.beat2.sweep
    · exact h.beat2
  unfold beatF
  split
  · exact h3.envTo 4
  · exact h3

/-! ### Run -/
theorem clockN_now {u : PU} : ∀ n, (clockN n u).now = u.now ∧ (clockN n u).beats = u.beats
  | 0 => ⟨rfl, rfl⟩
  | n + 1 => by
    have ih := clockN_now (u := u) n
    unfold clockN clockF; dsimp only; split <;> exact ih
theorem put_now {u : PU} {c : Sq} {i : Nat} : (u.put c i).now = u.now ∧ (u.put c i).beats = u.beats := by
  match i with
  | 0 | 1 | 2 | 3 => exact ⟨rfl, rfl⟩
  | n + 4 => exact ⟨rfl, rfl⟩
theorem playCh_now {u : PU} {i : Nat} {n : Int} : (playCh u i n).now = u.now ∧ (playCh u i n).beats = u.beats := by
  unfold playCh
  split
  · exact ⟨rfl, rfl⟩
  split
  · exact put_now
  match i with
  | 0 | 1 | 2 => exact ⟨rfl, rfl⟩
  | n + 3 => exact clockN_now _
theorem playTo_now {u : PU} {n : Int} : ∀ i, (playTo u n i).now = u.now ∧ (playTo u n i).beats = u.beats
  | 0 => ⟨rfl, rfl⟩
  | i + 1 => ⟨playCh_now.1.trans (playTo_now i).1, playCh_now.2.trans (playTo_now i).2⟩
theorem lenTo_now {u : PU} : ∀ i, (lenTo u i).now = u.now ∧ (lenTo u i).beats = u.beats
  | 0 => ⟨rfl, rfl⟩
  | i + 1 => ⟨put_now.1.trans (lenTo_now i).1, put_now.2.trans (lenTo_now i).2⟩
theorem envTo_now {u : PU} : ∀ i, (envTo u i).now = u.now ∧ (envTo u i).beats = u.beats
  | 0 => ⟨rfl, rfl⟩
  | i + 1 => ⟨put_now.1.trans (envTo_now i).1, put_now.2.trans (envTo_now i).2⟩
theorem beatF_now {u : PU} : (beatF u).now = u.now ∧ (beatF u).beats = IntKind.wrap .i64 (u.beats + 1) := by
  have h2 : (beat2 u).now = u.now ∧ (beat2 u).beats = IntKind.wrap .i64 (u.beats + 1) := by
    unfold beat2; split
    · exact ⟨(lenTo_now 4).1, (lenTo_now 4).2⟩
    · exact ⟨rfl, rfl⟩
  have h3 : (beat3 u).now = u.now ∧ (beat3 u).beats = IntKind.wrap .i64 (u.beats + 1) := by
    unfold beat3; split
    · exact h2
    · exact h2
  unfold beatF; split
  · exact ⟨(envTo_now 4).1.trans h3.1, (envTo_now 4).2.trans h3.2⟩
  · exact h3
theorem run1_now {u : PU} {now : Int} : (run1 u now).now = runTo u now ∧ (run1 u now).beats = u.beats := ⟨rfl, (playTo_now 4).2⟩
theorem runStep_now {u : PU} {now : Int} : (runStep u now).now = runTo u now := by
  unfold runStep; split
  · exact beatF_now.1
  · rfl

def big : Int := 4611686018427387904
theorem runTo_bound {u : PU} {now : Int} (h0 : 0 ≤ u.now) (h1 : u.now < now) (h2 : now ≤ big) :
    runTo u now = (if (u.now / 32768 + 1) * 32768 < now then (u.now / 32768 + 1) * 32768 else now) ∧ u.now < runTo u now ∧ runTo u now - u.now ≤ 32768 ∧ runTo u now ≤ now := by
  unfold big at h2
  have e : IntKind.wrap .i64 ((IntKind.wrap .i64 ((IntKind.wrap .i64 (Int.tdiv u.now 32768)) + 1)) * 32768) = (u.now / 32768 + 1) * 32768 := by
    rw [tdiv_nn h0, wrap_i64 (x := u.now / 32768) (by omega) (by omega), wrap_i64 (x := u.now / 32768 + 1) (by omega) (by omega), wrap_i64 (by omega) (by omega)]
  unfold runTo
  rw [e]
  refine ⟨rfl, ?_, ?_, ?_⟩ <;> split <;> omega

/-- A property that every round keeps. -/
theorem runs {now : Int} (hnow : now ≤ big) (P : PU → Prop) (hP : ∀ u, P u → WF u ∧ 0 ≤ u.now) (step : ∀ u, P u → u.now < now → P (runStep u now)) : ∀ (u : PU), P u → ∃ n v, RunTo now n u v ∧ P v ∧ ¬ v.now < now := by
  have main : ∀ (k : Nat) (u : PU), P u → (now - u.now).toNat ≤ k → ∃ n v, RunTo now n u v ∧ P v ∧ ¬ v.now < now := by
    intro k
    induction k with
    | zero => exact fun u hu hk => ⟨0, u, .stop (by omega), hu, by omega⟩
    | succ k ih =>
      intro u hu hk
      by_cases h : u.now < now
      · have hb := runTo_bound (hP u hu).2 h hnow
        obtain ⟨n, v, h1, h2, h3⟩ := ih _ (step u hu h) (by rw [runStep_now]; omega)
        have hn : 0 ≤ IntKind.wrap .i64 (runTo u now - u.now) ∧ IntKind.wrap .i64 (runTo u now - u.now) ≤ 32768 := by
          rw [wrap_i64 (by omega) (by omega)]; omega
        have w1 : WF (run1 u now) := { (hP u hu).1.playTo hn 4 with }
        exact ⟨n + 1, v, .go h ((hP u hu).1.playOk hn) (w1.beat2.s0.by_.1) h1, h2, h3⟩
      · exact ⟨0, u, .stop h, hu, h⟩
  exact fun u hu => main _ u hu (Nat.le_refl _)

theorem WF.runStep {u : PU} {now : Int} (h : WF u) (h0 : 0 ≤ u.now) (h1 : u.now < now) (h2 : now ≤ big) : WF (runStep u now) := by
  have hb := runTo_bound h0 h1 h2
  have hn : 0 ≤ IntKind.wrap .i64 (runTo u now - u.now) ∧ IntKind.wrap .i64 (runTo u now - u.now) ≤ 32768 := by
    rw [wrap_i64 (by omega) (by omega)]; omega
  have w1 : WF (run1 u now) := { h.playTo hn 4 with }
  unfold Proofs.Ytieamlpjdilcoaa.runStep
  split
  · exact w1.beat
  · exact w1

end Go.Proofs.Ytieamlpjdilcoaa
