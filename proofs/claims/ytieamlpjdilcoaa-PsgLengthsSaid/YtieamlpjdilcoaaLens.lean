/-
  A channel that goes by its length is off just behind so many second beats.
-/
import Derived.Test.YtieamlpjdilcoaaBounds
namespace Go.Proofs.Ytieamlpjdilcoaa
open Go.Vc
set_option linter.unusedVariables false
set_option maxRecDepth 20000

/-- What of a channel the waves and the envelopes leave alone. -/
structure Core where
  on : Bool
  start : Int
  useLength : Bool
  length : Int
  sweepIn : Int
def core (c : Sq) : Core := ⟨c.on, c.start, c.useLength, c.length, c.sweepIn⟩
def kk (u : PU) (j : Nat) : Core := core (u.get j)
theorem get_put {u : PU} {c : Sq} {i j : Nat} (hi : i < 4) (hj : j < 4) : (u.put c i).get j = if j = i then c else u.get j := by
  obtain rfl | rfl | rfl | rfl : i = 0 ∨ i = 1 ∨ i = 2 ∨ i = 3 := by omega
  all_goals
    obtain rfl | rfl | rfl | rfl : j = 0 ∨ j = 1 ∨ j = 2 ∨ j = 3 := by omega
    all_goals rfl
theorem clockF_get {u : PU} {j : Nat} : (clockF u).get j = u.get j := by
  unfold clockF; dsimp only; split
  all_goals
    match j with
    | 0 | 1 | 2 => rfl
    | n + 3 => rfl
theorem clockN_get {u : PU} {j : Nat} : ∀ n, (clockN n u).get j = u.get j
  | 0 => rfl
  | n + 1 => clockF_get.trans (clockN_get n)
theorem playCh_kk {u : PU} {i j : Nat} {n : Int} (hi : i < 4) (hj : j < 4) : kk (playCh u i n) j = kk u j := by
  unfold playCh
  split
  · rfl
  split
  · unfold kk
    rw [get_put hi hj]
    split
    · rename_i h; subst h; rfl
    · rfl
  · obtain rfl | rfl | rfl | rfl : i = 0 ∨ i = 1 ∨ i = 2 ∨ i = 3 := by omega
    · obtain rfl | rfl | rfl | rfl : j = 0 ∨ j = 1 ∨ j = 2 ∨ j = 3 := by omega
      all_goals rfl
    · obtain rfl | rfl | rfl | rfl : j = 0 ∨ j = 1 ∨ j = 2 ∨ j = 3 := by omega
      all_goals rfl
    · obtain rfl | rfl | rfl | rfl : j = 0 ∨ j = 1 ∨ j = 2 ∨ j = 3 := by omega
      all_goals rfl
    · show core ((clockN (moreF u 3 n).toNat { u with noise := { u.noise with wait := waitF u 3 n } }).get j) = core (u.get j)
      rw [clockN_get]
      obtain rfl | rfl | rfl | rfl : j = 0 ∨ j = 1 ∨ j = 2 ∨ j = 3 := by omega
      all_goals rfl
theorem playTo_kk {u : PU} {j : Nat} {n : Int} (hj : j < 4) : ∀ i, i ≤ 4 → kk (playTo u n i) j = kk u j
  | 0, _ => rfl
  | i + 1, h => (playCh_kk (by omega) hj).trans (playTo_kk hj i (by omega))
def lenK (c : Core) : Core :=
  if c.on = true then if c.useLength = true then
    if IntKind.wrap .i64 (c.length - 1) = 0 then { c with length := IntKind.wrap .i64 (c.length - 1), on := false } else { c with length := IntKind.wrap .i64 (c.length - 1) }
  else c else c
theorem core_len {c : Sq} : core (lenC c) = lenK (core c) := by
  unfold lenC lenK
  by_cases h1 : c.on = true
  · rw [if_pos h1, if_pos (show (core c).on = true from h1)]
    by_cases h2 : c.useLength = true
    · rw [if_pos h2, if_pos (show (core c).useLength = true from h2)]
      by_cases h3 : IntKind.wrap .i64 (c.length - 1) = 0
      · rw [if_pos h3, if_pos (show IntKind.wrap .i64 ((core c).length - 1) = 0 from h3)]; rfl
      · rw [if_neg h3, if_neg (show ¬ IntKind.wrap .i64 ((core c).length - 1) = 0 from h3)]; rfl
    · rw [if_neg h2, if_neg (show ¬ (core c).useLength = true from h2)]
  · rw [if_neg h1, if_neg (show ¬ (core c).on = true from h1)]
theorem lenTo_kk {u : PU} {j : Nat} (hj : j < 4) : kk (lenTo u 4) j = lenK (kk u j) := by
  obtain rfl | rfl | rfl | rfl : j = 0 ∨ j = 1 ∨ j = 2 ∨ j = 3 := by omega
  all_goals exact core_len
theorem core_env {c : Sq} {i : Nat} : core (envC i c) = core c := by
  unfold envC volC
  repeat' split
  all_goals rfl
theorem envTo_kk {u : PU} {j : Nat} (hj : j < 4) : kk (envTo u 4) j = kk u j := by
  obtain rfl | rfl | rfl | rfl : j = 0 ∨ j = 1 ∨ j = 2 ∨ j = 3 := by omega
  · exact core_env (i := 0) (c := u.s0)
  · exact core_env (i := 1) (c := u.s1)
  · exact core_env (i := 2) (c := u.wave)
  · exact core_env (i := 3) (c := u.noise)
theorem sweep_kk {u : PU} (h : u.s0.sweepIn = 0) : sweepF u = u := by
  have : sweepC u.s0 = u.s0 := by
    unfold sweepC
    by_cases k : (!u.s0.on) = true
    · rw [if_pos k]
    · rw [if_neg k, if_pos h]
  unfold sweepF
  rw [this]
theorem lenK_off {c : Core} (h : c.on = false) : lenK c = c := by unfold lenK; rw [if_neg (by rw [h]; decide)]
theorem lenK_free {c : Core} (h : c.useLength = false) : lenK c = c := by unfold lenK; split; rw [if_neg (by rw [h]; decide)]; rfl
theorem lenK_sweep {c : Core} : (lenK c).sweepIn = c.sweepIn := by
  unfold lenK
  repeat' split
  all_goals rfl
/-- A round, of the cores. -/
theorem runStep_kk {u : PU} {now : Int} (h : u.s0.sweepIn = 0) {j : Nat} (hj : j < 4) :
    kk (runStep u now) j = if Int.tmod (runTo u now) 32768 = 0 ∧ Int.tmod (IntKind.wrap .i64 (u.beats + 1)) 2 = 0 then lenK (kk u j) else kk u j := by
  have h1 : kk (run1 u now) j = kk u j := by
    have := playTo_kk (u := u) (n := IntKind.wrap .i64 (runTo u now - u.now)) hj 4 (Nat.le_refl _)
    rw [← this]
    match j with
    | 0 | 1 | 2 => rfl
    | n + 3 => rfl
  have hs : (run1 u now).s0.sweepIn = 0 := by
    have := playTo_kk (u := u) (n := IntKind.wrap .i64 (runTo u now - u.now)) (show 0 < 4 by decide) 4 (Nat.le_refl _)
    have := congrArg Core.sweepIn this
    exact this.trans h
  have hb : (run1 u now).beats = u.beats := run1_now.2
  unfold runStep
  by_cases k1 : Int.tmod (runTo u now) 32768 = 0
  · rw [if_pos k1]
    generalize run1 u now = v at *
    have hb1 : (beat1 v).beats = IntKind.wrap .i64 (u.beats + 1) := by unfold beat1; rw [← hb]
    have e3 : beat3 v = beat2 v := by
      unfold beat3
      split
      · apply sweep_kk
        unfold beat2
        split
        · have := congrArg Core.sweepIn (lenTo_kk (u := beat1 v) (show 0 < 4 by decide))
          refine this.trans ?_
          rw [lenK_sweep]; exact hs
        · exact hs
      · rfl
    have ef : kk (beatF v) j = kk (beat2 v) j := by
      unfold beatF
      rw [e3]
      split
      · exact envTo_kk hj
      · rfl
    rw [ef]
    unfold beat2
    rw [hb1]
    have hv1 : kk (beat1 v) j = kk v j := by
      match j with
      | 0 | 1 | 2 => rfl
      | n + 3 => rfl
    by_cases k2 : Int.tmod (IntKind.wrap .i64 (u.beats + 1)) 2 = 0
    · rw [if_pos k2, if_pos ⟨k1, k2⟩, lenTo_kk hj, hv1, h1]
    · rw [if_neg k2, if_neg (fun h => k2 h.2), hv1, h1]
  · rw [if_neg k1, if_neg (fun h => k1 h.1), h1]
theorem runStep_beats {u : PU} {now : Int} : (runStep u now).beats = if Int.tmod (runTo u now) 32768 = 0 then IntKind.wrap .i64 (u.beats + 1) else u.beats := by
  unfold runStep
  split
  · rw [beatF_now.2, run1_now.2]
  · exact run1_now.2

/-- The channel goes by its length. -/
structure Going (ch : Nat) (len : Int) (u : PU) : Prop where
  good : Good u
  sweep : u.s0.sweepIn = 0
  k : (kk u ch).on = true ∧ (kk u ch).start = 15 ∧ (kk u ch).useLength = true ∧ (kk u ch).length = len - u.beats / 2
  off : ∀ j, j < 4 → j ≠ ch → (kk u j).on = false
  beats : u.beats = u.now / 32768
structure Over (ch : Nat) (u : PU) : Prop where
  good : Good u
  sweep : u.s0.sweepIn = 0
  k : (kk u ch).start = 15 ∧ (kk u ch).length = 0
  off : ∀ j, j < 4 → (kk u j).on = false
structure Free (ch : Nat) (u : PU) : Prop where
  good : Good u
  sweep : u.s0.sweepIn = 0
  k : (kk u ch).on = true ∧ (kk u ch).useLength = false
  off : ∀ j, j < 4 → j ≠ ch → (kk u j).on = false

theorem Good.step {u : PU} (h : Good u) {now : Int} (hlt : u.now < now) (hn : now ≤ big) : Good (runStep u now) :=
  ⟨h.wf.runStep h.now hlt hn, by unfold BankOk; rw [runStep_bank]; exact h.bank, by rw [runStep_now]; have := runTo_bound h.now hlt hn; have := h.now; omega⟩
theorem step_sweep {u : PU} {now : Int} (h : u.s0.sweepIn = 0) : (runStep u now).s0.sweepIn = 0 := by
  have := congrArg Core.sweepIn (runStep_kk (now := now) h (show 0 < 4 by decide))
  refine this.trans ?_
  split
  · rw [lenK_sweep]; exact h
  · exact h
theorem step_off {u : PU} {now : Int} (h : u.s0.sweepIn = 0) {j : Nat} (hj : j < 4) (hk : (kk u j).on = false) : (kk (runStep u now) j).on = false := by
  rw [runStep_kk h hj]
  split
  · rw [lenK_off hk]; exact hk
  · exact hk

/-- What a round does to beats and to lengths. -/
theorem Going.step {ch : Nat} (hch : ch < 2) {len : Int} (hl : 1 ≤ len ∧ len ≤ 64) {u : PU} (h : Going ch len u) {now : Int} (hlt : u.now < now) (hn : now ≤ 65536 * len) :
    (runStep u now).now ≤ now ∧ (((runStep u now).now < 65536 * len ∧ Going ch len (runStep u now)) ∨ ((runStep u now).now = 65536 * len ∧ Over ch (runStep u now))) := by
  have hb : now ≤ big := by unfold big; omega
  have h0 := h.good.now
  obtain ⟨t1, t2, t3, t4⟩ := runTo_bound h0 hlt hb
  have hbe := h.beats
  have hkk := runStep_kk (now := now) h.sweep (show ch < 4 by omega)
  have hbb := runStep_beats (u := u) (now := now)
  rw [wrap_i64 (x := u.beats + 1) (by omega) (by omega)] at hkk hbb
  rw [tmod_nn (by omega)] at hkk hbb
  rw [tmod_nn (by omega)] at hkk
  have hto : runTo u now ≤ (u.now / 32768 + 1) * 32768 := by rw [t1]; split <;> omega
  refine ⟨by rw [runStep_now]; exact t4, ?_⟩
  have hgood := h.good.step hlt hb
  have hsw := step_sweep (now := now) h.sweep
  have hoff : ∀ j, j < 4 → j ≠ ch → (kk (runStep u now) j).on = false := fun j hj hne => step_off h.sweep hj (h.off j hj hne)
  obtain ⟨k1, k2, k3, k4⟩ := h.k
  rw [runStep_now]
  by_cases kz : runTo u now % 32768 = 0
  · rw [if_pos kz] at hbb
    have hq : runTo u now = (u.now / 32768 + 1) * 32768 := by omega
    by_cases ke : (u.beats + 1) % 2 = 0
    · rw [if_pos ⟨kz, ke⟩] at hkk
      have hw : IntKind.wrap .i64 ((kk u ch).length - 1) = (kk u ch).length - 1 := wrap_i64 (by omega) (by omega)
      by_cases kl : (kk u ch).length - 1 = 0
      · have e : lenK (kk u ch) = { kk u ch with length := 0, on := false } := by
          unfold lenK; rw [if_pos k1, if_pos k3, hw, if_pos kl, kl]
        rw [e] at hkk
        refine .inr ⟨by omega, hgood, hsw, ⟨by rw [hkk]; exact k2, by rw [hkk]⟩, fun j hj => ?_⟩
        by_cases hjc : j = ch
        · subst hjc; rw [hkk]
        · exact hoff j hj hjc
      · have e : lenK (kk u ch) = { kk u ch with length := (kk u ch).length - 1 } := by
          unfold lenK; rw [if_pos k1, if_pos k3, hw, if_neg kl]
        rw [e] at hkk
        refine .inl ⟨?_, hgood, hsw, ?_, hoff, by rw [hbb, runStep_now]; omega⟩
        · rw [hq]; omega
        · rw [hkk, hbb]; exact ⟨k1, k2, k3, by show (kk u ch).length - 1 = _; omega⟩
    · rw [if_neg (fun h => ke h.2)] at hkk
      refine .inl ⟨?_, hgood, hsw, ?_, hoff, by rw [hbb, runStep_now]; omega⟩
      · rw [hq]; omega
      · rw [hkk, hbb]; exact ⟨k1, k2, k3, by omega⟩
  · rw [if_neg kz] at hbb
    rw [if_neg (fun h => kz h.1)] at hkk
    refine .inl ⟨by omega, hgood, hsw, ?_, hoff, by rw [hbb, runStep_now]; omega⟩
    rw [hkk, hbb]; exact ⟨k1, k2, k3, k4⟩

theorem Going.run {ch : Nat} (hch : ch < 2) {len : Int} (hl : 1 ≤ len ∧ len ≤ 64) {u : PU} (h : Going ch len u) (hnow : u.now ≤ 65536 * len - 1) : ∃ n v, RunTo (65536 * len - 1) n u v ∧ Going ch len v ∧ v.now = 65536 * len - 1 := by
  obtain ⟨n, v, h1, ⟨h2, h3⟩, h4⟩ := runs (now := 65536 * len - 1) (by unfold big; omega) (fun u => Going ch len u ∧ u.now ≤ 65536 * len - 1) (fun u h => ⟨h.1.good.wf, h.1.good.now⟩) (fun u h hlt => by
    obtain ⟨g1, g2⟩ := h.1.step hch hl hlt (by omega)
    rcases g2 with ⟨_, g⟩ | ⟨g, _⟩
    · exact ⟨g, g1⟩
    · omega) u ⟨h, hnow⟩
  exact ⟨n, v, h1, h2, by omega⟩
theorem Going.end_ {ch : Nat} (hch : ch < 2) {len : Int} (hl : 1 ≤ len ∧ len ≤ 64) {u : PU} (h : Going ch len u) (hnow : u.now = 65536 * len - 1) : ∃ n v, RunTo (65536 * len) n u v ∧ Over ch v ∧ v.now = 65536 * len := by
  obtain ⟨n, v, h1, h2, h4⟩ := runs (now := 65536 * len) (by unfold big; omega) (fun u => (Going ch len u ∧ u.now < 65536 * len) ∨ (Over ch u ∧ u.now = 65536 * len))
    (fun u h => by rcases h with ⟨h, _⟩ | ⟨h, _⟩ <;> exact ⟨h.good.wf, h.good.now⟩) (fun u h hlt => by
    rcases h with ⟨h, _⟩ | ⟨_, h⟩
    · obtain ⟨g1, g2⟩ := h.step hch hl hlt (by omega)
      rcases g2 with ⟨g2, g⟩ | ⟨g2, g⟩
      · exact .inl ⟨g, g2⟩
      · exact .inr ⟨g, g2⟩
    · omega) u (.inl ⟨h, by omega⟩)
  rcases h2 with ⟨_, h2⟩ | ⟨h2, h3⟩
  · omega
  · exact ⟨n, v, h1, h2, h3⟩
theorem Free.run {ch : Nat} (hch : ch < 2) {u : PU} (h : Free ch u) {now : Int} (hn : now ≤ big) : ∃ n v, RunTo now n u v ∧ Free ch v := by
  obtain ⟨n, v, h1, h2, _⟩ := runs hn (Free ch) (fun u h => ⟨h.good.wf, h.good.now⟩) (fun u h hlt => ⟨h.good.step hlt hn, step_sweep h.sweep, by
    rw [runStep_kk h.sweep (show ch < 4 by omega)]
    split
    · rw [lenK_free h.k.2]; exact h.k
    · exact h.k, fun j hj hne => step_off h.sweep hj (h.off j hj hne)⟩) u h
  exact ⟨n, v, h1, h2⟩

end Go.Proofs.Ytieamlpjdilcoaa
