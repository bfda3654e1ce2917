/-
  A beat: lengths, the sweep, envelopes.
-/
import Derived.Test.YtieamlpjdilcoaaPlay
namespace Go.Proofs.Ytieamlpjdilcoaa
open Go.Vc
set_option linter.unusedVariables false
set_option maxRecDepth 20000

/-! ### the sweep -/
def sweepBy (c : Sq) : Int := if c.sweepDown then IntKind.wrap .i64 (0 - (Int.fdiv c.freq (2 ^ (min c.sweepBy.toNat 64)))) else Int.fdiv c.freq (2 ^ (min c.sweepBy.toNat 64))
def sweepC (c : Sq) : Sq :=
  if (!c.on) = true then c else if c.sweepIn = 0 then c else
  if IntKind.wrap .i64 (c.sweepLeft - 1) > 0 then { c with sweepLeft := IntKind.wrap .i64 (c.sweepLeft - 1) } else
  if IntKind.wrap .i64 (c.freq + sweepBy c) > 2047 then { c with sweepLeft := c.sweepIn, on := false } else
  if c.sweepBy > 0 then { c with sweepLeft := c.sweepIn, freq := IntKind.wrap .i64 (c.freq + sweepBy c) } else { c with sweepLeft := c.sweepIn }
def sweepF (u : PU) : PU := { u with s0 := sweepC u.s0 }

theorem sweep_ok {w : World} {b : Nat} {u : PU} {t : TypeId} (hb : Blk w b u.enc t) (hs : 0 ≤ u.s0.sweepBy) :
    Calls Try.prog n_sweep #[.pointer (some ⟨b, 0, none⟩), .pointer (some ⟨b, 0, none⟩)] w fun e w' => e = .returned (.tuple #[]) ∧ Blk w' b (sweepF u).enc t ∧ Chg (· = b) w w' := by
  apply c_sweep
  unfold p_sweep
  refine ⟨_, ld hb (by rfl), cnd (fun k1 => ⟨rfl, ?_, Chg.refl _ _⟩) (fun k1 => ⟨_, ld hb (by rfl), cnd_beq (fun k2 => ⟨rfl, ?_, Chg.refl _ _⟩) (fun k2 => ?_)⟩)⟩
  · simp only [sweepF, sweepC]; rw [if_pos k1]; exact hb
  · simp only [sweepF, sweepC]; rw [if_neg (by rw [k1]; decide), if_pos k2]; exact hb
  refine ⟨_, ld hb (by rfl), St_blk hb (by rfl) fun w1 h1 c1 _ => ⟨_, ld h1 (by rfl), cnd_dec (fun k3 => ⟨rfl, ?_, by (repeat first | exact Chg.refl _ _ | assumption | exact Chg.no (by assumption) | refine Chg.trans ?_ (by assumption) | refine Chg.trans ?_ (Chg.no (by assumption)) | refine Chg.drewBy ?_ _)⟩) (fun k3 => ?_)⟩⟩
  · simp only [sweepF, sweepC]; rw [if_neg (by rw [k1]; decide), if_neg k2, if_pos k3]; exact h1
  refine ⟨_, ld h1 (by rfl), St_blk h1 (by rfl) fun w2 h2 c2 _ => ⟨_, ld h2 (by rfl), _, ld h2 (by rfl), chk_dec hs fun n => ⟨_, ld (h2.drewN n) (by rfl), cnd (fun k4 => ?_) (fun k4 => ?_)⟩⟩⟩
  · refine Lt_intro fun s4 hs4 => ⟨_, ld (h2.drewN n) (by rfl), Lt_intro fun s58 h58 => ?_⟩
    have hby : sweepBy u.s0 = s4 := by unfold sweepBy; rw [if_pos k4, hs4]
    rw [← hby] at h58
    subst h58
    refine cnd_dec (fun k5 => St_blk (h2.drewN n) (by rfl) fun w3 h3 c3 _ => ⟨rfl, ?_, by (repeat first | exact Chg.refl _ _ | assumption | exact Chg.no (by assumption) | refine Chg.trans ?_ (by assumption) | refine Chg.trans ?_ (Chg.no (by assumption)) | refine Chg.drewBy ?_ _)⟩) (fun k5 => ⟨_, ld (h2.drewN n) (by rfl), cnd_dec (fun k6 => St_blk (h2.drewN n) (by rfl) fun w3 h3 c3 _ => ⟨rfl, ?_, by (repeat first | exact Chg.refl _ _ | assumption | exact Chg.no (by assumption) | refine Chg.trans ?_ (by assumption) | refine Chg.trans ?_ (Chg.no (by assumption)) | refine Chg.drewBy ?_ _)⟩) (fun k6 => ⟨rfl, ?_, by (repeat first | exact Chg.refl _ _ | assumption | exact Chg.no (by assumption) | refine Chg.trans ?_ (by assumption) | refine Chg.trans ?_ (Chg.no (by assumption)) | refine Chg.drewBy ?_ _)⟩)⟩)
    · simp only [sweepF, sweepC]; rw [if_neg (by rw [k1]; decide), if_neg k2, if_neg k3, if_pos k5]; exact h3
    · simp only [sweepF, sweepC]; rw [if_neg (by rw [k1]; decide), if_neg k2, if_neg k3, if_neg k5, if_pos k6, hby]; exact h3
    · simp only [sweepF, sweepC]; rw [if_neg (by rw [k1]; decide), if_neg k2, if_neg k3, if_neg k5, if_neg k6]; exact h2
  · refine ⟨_, ld (h2.drewN n) (by rfl), Lt_intro fun s5 hs5 => ?_⟩
    have hby : IntKind.wrap .i64 (u.s0.freq + sweepBy u.s0) = s5 := by unfold sweepBy; rw [if_neg (by rw [k4]; decide), hs5]
    rw [← hby]
    refine cnd_dec (fun k5 => St_blk (h2.drewN n) (by rfl) fun w3 h3 c3 _ => ⟨rfl, ?_, by (repeat first | exact Chg.refl _ _ | assumption | exact Chg.no (by assumption) | refine Chg.trans ?_ (by assumption) | refine Chg.trans ?_ (Chg.no (by assumption)) | refine Chg.drewBy ?_ _)⟩) (fun k5 => ⟨_, ld (h2.drewN n) (by rfl), cnd_dec (fun k6 => St_blk (h2.drewN n) (by rfl) fun w3 h3 c3 _ => ⟨rfl, ?_, by (repeat first | exact Chg.refl _ _ | assumption | exact Chg.no (by assumption) | refine Chg.trans ?_ (by assumption) | refine Chg.trans ?_ (Chg.no (by assumption)) | refine Chg.drewBy ?_ _)⟩) (fun k6 => ⟨rfl, ?_, by (repeat first | exact Chg.refl _ _ | assumption | exact Chg.no (by assumption) | refine Chg.trans ?_ (by assumption) | refine Chg.trans ?_ (Chg.no (by assumption)) | refine Chg.drewBy ?_ _)⟩)⟩)
    · simp only [sweepF, sweepC]; rw [if_neg (by rw [k1]; decide), if_neg k2, if_neg k3, if_pos k5]; exact h3
    · simp only [sweepF, sweepC]; rw [if_neg (by rw [k1]; decide), if_neg k2, if_neg k3, if_neg k5, if_pos k6]; exact h3
    · simp only [sweepF, sweepC]; rw [if_neg (by rw [k1]; decide), if_neg k2, if_neg k3, if_neg k5, if_neg k6]; exact h2

/-! ### lengths -/
def lenC (c : Sq) : Sq :=
  if c.on = true then if c.useLength = true then
    if IntKind.wrap .i64 (c.length - 1) = 0 then { c with length := IntKind.wrap .i64 (c.length - 1), on := false } else { c with length := IntKind.wrap .i64 (c.length - 1) }
  else c else c
def lenTo (u : PU) : Nat → PU
  | 0 => u
  | i + 1 => (lenTo u i).put (lenC ((lenTo u i).get i)) i
theorem lenC_1 {c : Sq} (k : c.on = false) : lenC c = c := by unfold lenC; rw [if_neg (by rw [k]; decide)]
theorem lenC_2 {c : Sq} (k : c.on = true) (k2 : c.useLength = false) : lenC c = c := by unfold lenC; rw [if_pos k, if_neg (by rw [k2]; decide)]
theorem lenC_3 {c : Sq} (k : c.on = true) (k2 : c.useLength = true) (k3 : IntKind.wrap .i64 (c.length - 1) = 0) : lenC c = { c with length := IntKind.wrap .i64 (c.length - 1), on := false } := by unfold lenC; rw [if_pos k, if_pos k2, if_pos k3]
theorem lenC_4 {c : Sq} (k : c.on = true) (k2 : c.useLength = true) (k3 : IntKind.wrap .i64 (c.length - 1) ≠ 0) : lenC c = { c with length := IntKind.wrap .i64 (c.length - 1) } := by unfold lenC; rw [if_pos k, if_pos k2, if_neg k3]

/-! ### envelopes -/
def volC (c : Sq) : Sq :=
  if c.up = true ∧ c.volume < 15 then { c with left := c.step, volume := IntKind.wrap .i64 (c.volume + 1) } else
  if c.up = false ∧ c.volume > 0 then { c with left := c.step, volume := IntKind.wrap .i64 (c.volume - 1) } else { c with left := c.step }
def envB (i : Nat) (c : Sq) : Bool := i != 2 && (c.on && decide (c.step > 0))
def envC (i : Nat) (c : Sq) : Sq :=
  if envB i c = true then
    if IntKind.wrap .i64 (c.left - 1) = 0 then volC c else { c with left := IntKind.wrap .i64 (c.left - 1) }
  else c
theorem envC_1 {i : Nat} {c : Sq} (k : envB i c = false) : envC i c = c := by unfold envC; rw [if_neg (by rw [k]; decide)]
theorem envC_2 {i : Nat} {c : Sq} (k : envB i c = true) (k2 : IntKind.wrap .i64 (c.left - 1) ≠ 0) : envC i c = { c with left := IntKind.wrap .i64 (c.left - 1) } := by unfold envC; rw [if_pos k, if_neg k2]
theorem envC_3 {i : Nat} {c : Sq} (k : envB i c = true) (k2 : IntKind.wrap .i64 (c.left - 1) = 0) (k3 : c.up = true) (k4 : c.volume < 15) : envC i c = { c with left := c.step, volume := IntKind.wrap .i64 (c.volume + 1) } := by
  unfold envC; rw [if_pos k, if_pos k2]; unfold volC; rw [if_pos ⟨k3, k4⟩]
theorem envC_4 {i : Nat} {c : Sq} (k : envB i c = true) (k2 : IntKind.wrap .i64 (c.left - 1) = 0) (k3 : c.up = false) (k4 : c.volume > 0) : envC i c = { c with left := c.step, volume := IntKind.wrap .i64 (c.volume - 1) } := by
  unfold envC; rw [if_pos k, if_pos k2]; unfold volC; rw [if_neg (by simp [k3]), if_pos ⟨k3, k4⟩]
theorem envC_5 {i : Nat} {c : Sq} (k : envB i c = true) (k2 : IntKind.wrap .i64 (c.left - 1) = 0) (k3 : ¬ (c.up = true ∧ c.volume < 15)) (k4 : ¬ (c.up = false ∧ c.volume > 0)) : envC i c = { c with left := c.step } := by
  unfold envC; rw [if_pos k, if_pos k2]; unfold volC; rw [if_neg k3, if_neg k4]
def envTo (u : PU) : Nat → PU
  | 0 => u
  | i + 1 => (envTo u i).put (envC i ((envTo u i).get i)) i

def beat1 (u : PU) : PU := { u with beats := IntKind.wrap .i64 (u.beats + 1) }
def beat2 (u : PU) : PU := if Int.tmod (beat1 u).beats 2 = 0 then lenTo (beat1 u) 4 else beat1 u
def beat3 (u : PU) : PU := if Int.tmod (beat2 u).beats 4 = 0 then sweepF (beat2 u) else beat2 u
def beatF (u : PU) : PU := if Int.tmod (beat3 u).beats 8 = 0 then envTo (beat3 u) 4 else beat3 u

set_option maxHeartbeats 4000000 in
theorem beat_ok {w : World} {b : Nat} {u : PU} {t : TypeId} (hb : Blk w b u.enc t) (ok : 0 ≤ (beat2 u).s0.sweepBy) :
    Calls Try.prog n_beat #[.pointer (some ⟨b, 0, none⟩)] w fun e w' => e = .returned (.tuple #[]) ∧ Blk w' b (beatF u).enc t ∧ Chg (· = b) w w' := by
  apply c_beat
  unfold p_beat
  refine ⟨_, ld hb (by rfl), St_blk hb (by rfl) fun w0 h0 c0 _ => chk_of (by decide) (chk_of (by decide) (Nw_blk (cs := ptrs b) fun w1 hs1 c1 s1 => ?_))⟩
  have h1 : Blk w1 b (beat1 u).enc t := Blk.keep (h0.drewN 1) c1 id
  have hne : b ≠ (w0.drewN 1).heap.size := Nat.ne_of_lt (h0.drewN 1).lt
  have hc1 : Chg (· = b) w w1 := by (repeat first | exact Chg.refl _ _ | assumption | exact Chg.no (by assumption) | refine Chg.trans ?_ (by assumption) | refine Chg.trans ?_ (Chg.no (by assumption)) | refine Chg.drewBy ?_ _)
  generalize (w0.drewN 1).heap.size = s at hs1 hne ⊢
  refine ⟨fun _ w' => Blk w' b (beat2 u).enc t ∧ Blk w' s (ptrs b) 45 ∧ Chg (· = b) w w', ?_, ?_⟩
  · refine ⟨_, ld h1 (by rfl), cnd_beq (fun k => ?_) (fun k => ?_)⟩
    rotate_left
    · refine ⟨?_, hs1, hc1⟩
      unfold beat2; rw [if_neg k]; exact h1
    have e2 : beat2 u = lenTo (beat1 u) 4 := by unfold beat2; rw [if_pos k]
    refine ⟨fun m vs w' => ∃ i : Nat, i ≤ 4 ∧ m = 4 - i ∧ vs = [.int .i64 i] ∧ Blk w' b (lenTo (beat1 u) i).enc t ∧ Blk w' s (ptrs b) 45 ∧ Chg (· = b) w w',
      ⟨4, 0, by omega, rfl, rfl, h1, hs1, hc1⟩, ?_⟩
    rintro m s' w' ⟨i, hi, rfl, hv, h, hs, hc⟩
    obtain rfl : s' = (i : Int) := by simpa using hv
    refine cnd_dec (fun k => ?_) (fun k => ?_)
    rotate_left
    · obtain rfl : i = 4 := by omega
      exact ⟨by rw [e2]; exact h, hs, hc⟩
    have hi4 : i < 4 := by omega
    have hnx : ∀ w'' c, lenC ((lenTo (beat1 u) i).get i) = c → Blk w'' b ((lenTo (beat1 u) i).put c i).enc t → Chg (· = b) w' w'' → ∃ m, m < 4 - i ∧ ∃ j : Nat, j ≤ 4 ∧ m = 4 - j ∧ [Value.int .i64 (IntKind.wrap .i64 ((i : Int) + 1))] = [.int .i64 j] ∧ Blk w'' b (lenTo (beat1 u) j).enc t ∧ Blk w'' s (ptrs b) 45 ∧ Chg (· = b) w w'' := by
      intro w'' c ec h' c'
      subst ec
      refine ⟨4 - (i + 1), by omega, i + 1, by omega, rfl, ?_, h', hs.keep c' (Ne.symm hne), hc.trans c'⟩
      rw [wrap_i64 (by omega) (by omega)]; rfl
    refine chk_in (by omega) k ?_
    generalize lenTo (beat1 u) i = v at h hnx ⊢
    obtain rfl | rfl | rfl | rfl : i = 0 ∨ i = 1 ∨ i = 2 ∨ i = 3 := by omega
    all_goals
      refine ⟨_, ld hs (by rfl), ?_⟩
      simp only [NN_some, add_at]
      refine ⟨_, ld h (by rfl), cnd (fun k1 => ⟨_, ld h (by rfl), cnd (fun k2 => ?_) (fun k2 => hnx _ _ (lenC_2 k1 k2) h (Chg.refl _ _))⟩) (fun k1 => hnx _ _ (lenC_1 k1) h (Chg.refl _ _))⟩
      exact ⟨_, ld h (by rfl), St_blk h (by rfl) fun w2 h2 c2 _ => ⟨_, ld h2 (by rfl), cnd_beq (fun k3 => St_blk h2 (by rfl) fun w3 h3 c3 _ => hnx _ _ (lenC_3 k1 k2 k3) h3 (by (repeat first | exact Chg.refl _ _ | assumption | exact Chg.no (by assumption) | refine Chg.trans ?_ (by assumption) | refine Chg.trans ?_ (Chg.no (by assumption)) | refine Chg.drewBy ?_ _))) (fun k3 => hnx _ _ (lenC_4 k1 k2 k3) h2 (by (repeat first | exact Chg.refl _ _ | assumption | exact Chg.no (by assumption) | refine Chg.trans ?_ (by assumption) | refine Chg.trans ?_ (Chg.no (by assumption)) | refine Chg.drewBy ?_ _)))⟩⟩
  rintro w2 ⟨h2, hs2, hc2⟩
  refine ⟨fun _ w' => Blk w' b (beat3 u).enc t ∧ Blk w' s (ptrs b) 45 ∧ Chg (· = b) w w', ?_, ?_⟩
  · refine ⟨_, ld h2 (by rfl), cnd_beq (fun k => chk_of (by decide) ?_) (fun k => ⟨?_, hs2, hc2⟩)⟩
    · refine (sweep_ok h2 ok).mono fun e w3 ⟨he, h3, c3⟩ => ⟨he, ?_, hs2.keep c3 (Ne.symm hne), hc2.trans c3⟩
      unfold beat3; rw [if_pos k]; exact h3
    · unfold beat3; rw [if_neg k]; exact h2
  rintro w3 ⟨h3, hs3, hc3⟩
  refine ⟨_, ld h3 (by rfl), cnd_beq (fun k => ?_) (fun k => ⟨rfl, ?_, hc3⟩)⟩
  rotate_left
  · unfold beatF; rw [if_neg k]; exact h3
  have e2 : beatF u = envTo (beat3 u) 4 := by unfold beatF; rw [if_pos k]
  refine ⟨fun m vs w' => ∃ i : Nat, i ≤ 4 ∧ m = 4 - i ∧ vs = [.int .i64 i] ∧ Blk w' b (envTo (beat3 u) i).enc t ∧ Blk w' s (ptrs b) 45 ∧ Chg (· = b) w w',
    ⟨4, 0, by omega, rfl, rfl, h3, hs3, hc3⟩, ?_⟩
  rintro m s' w' ⟨i, hi, rfl, hv, h, hs, hc⟩
  obtain rfl : s' = (i : Int) := by simpa using hv
  refine cnd_dec (fun k => ?_) (fun k => ?_)
  rotate_left
  · obtain rfl : i = 4 := by omega
    exact ⟨rfl, by rw [e2]; exact h, hc⟩
  have hi4 : i < 4 := by omega
  have hnx : ∀ w'' c, envC i ((envTo (beat3 u) i).get i) = c → Blk w'' b ((envTo (beat3 u) i).put c i).enc t → Chg (· = b) w' w'' → ∃ m, m < 4 - i ∧ ∃ j : Nat, j ≤ 4 ∧ m = 4 - j ∧ [Value.int .i64 (IntKind.wrap .i64 ((i : Int) + 1))] = [.int .i64 j] ∧ Blk w'' b (envTo (beat3 u) j).enc t ∧ Blk w'' s (ptrs b) 45 ∧ Chg (· = b) w w'' := by
    intro w'' c ec h' c'
    subst ec
    refine ⟨4 - (i + 1), by omega, i + 1, by omega, rfl, ?_, h', hs.keep c' (Ne.symm hne), hc.trans c'⟩
    rw [wrap_i64 (by omega) (by omega)]; rfl
  refine chk_in (by omega) k ?_
  generalize envTo (beat3 u) i = v at h hnx ⊢
  obtain rfl | rfl | rfl | rfl : i = 0 ∨ i = 1 ∨ i = 2 ∨ i = 3 := by omega
  all_goals
    refine ⟨_, ld hs (by rfl), ?_⟩
    simp only [NN_some, add_at]
  · refine ⟨fun vs w6 => vs = [.bool (envB 0 (v.get 0))] ∧ w6 = w', ?_, ?_⟩
    · refine cnd_bne (fun _ => ⟨_, ld h (by rfl), cnd (fun k1 => ⟨_, ld h (by rfl), ?_, rfl⟩) (fun k1 => ⟨?_, rfl⟩)⟩) (fun h => absurd h (by decide))
      · simp [envB, PU.get, k1]
      · simp [envB, PU.get, k1]
    rintro s6 w6 ⟨e6, rfl⟩
    obtain rfl : s6 = envB 0 (v.get 0) := by simpa using e6
    refine cnd (fun k1 => ?_) (fun k1 => hnx _ _ (envC_1 k1) h (Chg.refl _ _))
    refine ⟨_, ld h (by rfl), St_blk h (by rfl) fun w2 h2 c2 _ => ⟨_, ld h2 (by rfl), cnd_beq (fun k3 => ?_) (fun k3 => hnx _ _ (envC_2 k1 k3) h2 (by (repeat first | exact Chg.refl _ _ | assumption | exact Chg.no (by assumption) | refine Chg.trans ?_ (by assumption) | refine Chg.trans ?_ (Chg.no (by assumption)) | refine Chg.drewBy ?_ _)))⟩⟩
    refine ⟨_, ld h2 (by rfl), St_blk h2 (by rfl) fun w3 h3 c3 _ => ⟨_, ld h3 (by rfl), cnd (fun k4 => ?_) (fun k4 => ?_)⟩⟩
    · refine ⟨_, ld h3 (by rfl), cnd_dec (fun k5 => ?_) (fun k5 => ?_)⟩
      · exact ⟨_, ld h3 (by rfl), St_blk h3 (by rfl) fun w4 h4 c4 _ => hnx _ _ (envC_3 k1 k3 k4 k5) h4 (by (repeat first | exact Chg.refl _ _ | assumption | exact Chg.no (by assumption) | refine Chg.trans ?_ (by assumption) | refine Chg.trans ?_ (Chg.no (by assumption)) | refine Chg.drewBy ?_ _))⟩
      · refine ⟨_, ld h3 (by rfl), cnd_not (cnd (fun k6 => ?_) (fun k6 => absurd (k4.symm.trans k6) (by decide)))⟩
        exact hnx _ _ (envC_5 k1 k3 (fun x => k5 x.2) (fun x => absurd (k4.symm.trans x.1) (by decide))) h3 (by (repeat first | exact Chg.refl _ _ | assumption | exact Chg.no (by assumption) | refine Chg.trans ?_ (by assumption) | refine Chg.trans ?_ (Chg.no (by assumption)) | refine Chg.drewBy ?_ _))
    · refine ⟨_, ld h3 (by rfl), cnd_not (cnd (fun k6 => absurd (k4.symm.trans k6) (by decide)) (fun k6 => ⟨_, ld h3 (by rfl), cnd_dec (fun k5 => ?_) (fun k5 => ?_)⟩))⟩
      · exact ⟨_, ld h3 (by rfl), St_blk h3 (by rfl) fun w4 h4 c4 _ => hnx _ _ (envC_4 k1 k3 k4 k5) h4 (by (repeat first | exact Chg.refl _ _ | assumption | exact Chg.no (by assumption) | refine Chg.trans ?_ (by assumption) | refine Chg.trans ?_ (Chg.no (by assumption)) | refine Chg.drewBy ?_ _))⟩
      · exact hnx _ _ (envC_5 k1 k3 (fun x => absurd (k4.symm.trans x.1) (by decide)) (fun x => k5 x.2)) h3 (by (repeat first | exact Chg.refl _ _ | assumption | exact Chg.no (by assumption) | refine Chg.trans ?_ (by assumption) | refine Chg.trans ?_ (Chg.no (by assumption)) | refine Chg.drewBy ?_ _))
  · refine ⟨fun vs w6 => vs = [.bool (envB 1 (v.get 1))] ∧ w6 = w', ?_, ?_⟩
    · refine cnd_bne (fun _ => ⟨_, ld h (by rfl), cnd (fun k1 => ⟨_, ld h (by rfl), ?_, rfl⟩) (fun k1 => ⟨?_, rfl⟩)⟩) (fun h => absurd h (by decide))
      · simp [envB, PU.get, k1]
      · simp [envB, PU.get, k1]
    rintro s6 w6 ⟨e6, rfl⟩
    obtain rfl : s6 = envB 1 (v.get 1) := by simpa using e6
    refine cnd (fun k1 => ?_) (fun k1 => hnx _ _ (envC_1 k1) h (Chg.refl _ _))
    refine ⟨_, ld h (by rfl), St_blk h (by rfl) fun w2 h2 c2 _ => ⟨_, ld h2 (by rfl), cnd_beq (fun k3 => ?_) (fun k3 => hnx _ _ (envC_2 k1 k3) h2 (by (repeat first | exact Chg.refl _ _ | assumption | exact Chg.no (by assumption) | refine Chg.trans ?_ (by assumption) | refine Chg.trans ?_ (Chg.no (by assumption)) | refine Chg.drewBy ?_ _)))⟩⟩
    refine ⟨_, ld h2 (by rfl), St_blk h2 (by rfl) fun w3 h3 c3 _ => ⟨_, ld h3 (by rfl), cnd (fun k4 => ?_) (fun k4 => ?_)⟩⟩
    · refine ⟨_, ld h3 (by rfl), cnd_dec (fun k5 => ?_) (fun k5 => ?_)⟩
      · exact ⟨_, ld h3 (by rfl), St_blk h3 (by rfl) fun w4 h4 c4 _ => hnx _ _ (envC_3 k1 k3 k4 k5) h4 (by (repeat first | exact Chg.refl _ _ | assumption | exact Chg.no (by assumption) | refine Chg.trans ?_ (by assumption) | refine Chg.trans ?_ (Chg.no (by assumption)) | refine Chg.drewBy ?_ _))⟩
      · refine ⟨_, ld h3 (by rfl), cnd_not (cnd (fun k6 => ?_) (fun k6 => absurd (k4.symm.trans k6) (by decide)))⟩
        exact hnx _ _ (envC_5 k1 k3 (fun x => k5 x.2) (fun x => absurd (k4.symm.trans x.1) (by decide))) h3 (by (repeat first | exact Chg.refl _ _ | assumption | exact Chg.no (by assumption) | refine Chg.trans ?_ (by assumption) | refine Chg.trans ?_ (Chg.no (by assumption)) | refine Chg.drewBy ?_ _))
    · refine ⟨_, ld h3 (by rfl), cnd_not (cnd (fun k6 => absurd (k4.symm.trans k6) (by decide)) (fun k6 => ⟨_, ld h3 (by rfl), cnd_dec (fun k5 => ?_) (fun k5 => ?_)⟩))⟩
      · exact ⟨_, ld h3 (by rfl), St_blk h3 (by rfl) fun w4 h4 c4 _ => hnx _ _ (envC_4 k1 k3 k4 k5) h4 (by (repeat first | exact Chg.refl _ _ | assumption | exact Chg.no (by assumption) | refine Chg.trans ?_ (by assumption) | refine Chg.trans ?_ (Chg.no (by assumption)) | refine Chg.drewBy ?_ _))⟩
      · exact hnx _ _ (envC_5 k1 k3 (fun x => absurd (k4.symm.trans x.1) (by decide)) (fun x => k5 x.2)) h3 (by (repeat first | exact Chg.refl _ _ | assumption | exact Chg.no (by assumption) | refine Chg.trans ?_ (by assumption) | refine Chg.trans ?_ (Chg.no (by assumption)) | refine Chg.drewBy ?_ _))
  · refine ⟨fun vs w6 => vs = [.bool (envB 2 (v.get 2))] ∧ w6 = w', cnd_bne (fun h => absurd rfl h) (fun _ => ⟨rfl, rfl⟩), ?_⟩
    rintro s6 w6 ⟨e6, rfl⟩
    obtain rfl : s6 = envB 2 (v.get 2) := by simpa using e6
    refine cnd (fun k1 => ?_) (fun k1 => hnx _ _ (envC_1 k1) h (Chg.refl _ _))
    refine ⟨_, ld h (by rfl), St_blk h (by rfl) fun w2 h2 c2 _ => ⟨_, ld h2 (by rfl), cnd_beq (fun k3 => ?_) (fun k3 => hnx _ _ (envC_2 k1 k3) h2 (by (repeat first | exact Chg.refl _ _ | assumption | exact Chg.no (by assumption) | refine Chg.trans ?_ (by assumption) | refine Chg.trans ?_ (Chg.no (by assumption)) | refine Chg.drewBy ?_ _)))⟩⟩
    refine ⟨_, ld h2 (by rfl), St_blk h2 (by rfl) fun w3 h3 c3 _ => ⟨_, ld h3 (by rfl), cnd (fun k4 => ?_) (fun k4 => ?_)⟩⟩
    · refine ⟨_, ld h3 (by rfl), cnd_dec (fun k5 => ?_) (fun k5 => ?_)⟩
      · exact ⟨_, ld h3 (by rfl), St_blk h3 (by rfl) fun w4 h4 c4 _ => hnx _ _ (envC_3 k1 k3 k4 k5) h4 (by (repeat first | exact Chg.refl _ _ | assumption | exact Chg.no (by assumption) | refine Chg.trans ?_ (by assumption) | refine Chg.trans ?_ (Chg.no (by assumption)) | refine Chg.drewBy ?_ _))⟩
      · refine ⟨_, ld h3 (by rfl), cnd_not (cnd (fun k6 => ?_) (fun k6 => absurd (k4.symm.trans k6) (by decide)))⟩
        exact hnx _ _ (envC_5 k1 k3 (fun x => k5 x.2) (fun x => absurd (k4.symm.trans x.1) (by decide))) h3 (by (repeat first | exact Chg.refl _ _ | assumption | exact Chg.no (by assumption) | refine Chg.trans ?_ (by assumption) | refine Chg.trans ?_ (Chg.no (by assumption)) | refine Chg.drewBy ?_ _))
    · refine ⟨_, ld h3 (by rfl), cnd_not (cnd (fun k6 => absurd (k4.symm.trans k6) (by decide)) (fun k6 => ⟨_, ld h3 (by rfl), cnd_dec (fun k5 => ?_) (fun k5 => ?_)⟩))⟩
      · exact ⟨_, ld h3 (by rfl), St_blk h3 (by rfl) fun w4 h4 c4 _ => hnx _ _ (envC_4 k1 k3 k4 k5) h4 (by (repeat first | exact Chg.refl _ _ | assumption | exact Chg.no (by assumption) | refine Chg.trans ?_ (by assumption) | refine Chg.trans ?_ (Chg.no (by assumption)) | refine Chg.drewBy ?_ _))⟩
      · exact hnx _ _ (envC_5 k1 k3 (fun x => absurd (k4.symm.trans x.1) (by decide)) (fun x => k5 x.2)) h3 (by (repeat first | exact Chg.refl _ _ | assumption | exact Chg.no (by assumption) | refine Chg.trans ?_ (by assumption) | refine Chg.trans ?_ (Chg.no (by assumption)) | refine Chg.drewBy ?_ _))
  · refine ⟨fun vs w6 => vs = [.bool (envB 3 (v.get 3))] ∧ w6 = w', ?_, ?_⟩
    · refine cnd_bne (fun _ => ⟨_, ld h (by rfl), cnd (fun k1 => ⟨_, ld h (by rfl), ?_, rfl⟩) (fun k1 => ⟨?_, rfl⟩)⟩) (fun h => absurd h (by decide))
      · simp [envB, PU.get, k1]
      · simp [envB, PU.get, k1]
    rintro s6 w6 ⟨e6, rfl⟩
    obtain rfl : s6 = envB 3 (v.get 3) := by simpa using e6
    refine cnd (fun k1 => ?_) (fun k1 => hnx _ _ (envC_1 k1) h (Chg.refl _ _))
    refine ⟨_, ld h (by rfl), St_blk h (by rfl) fun w2 h2 c2 _ => ⟨_, ld h2 (by rfl), cnd_beq (fun k3 => ?_) (fun k3 => hnx _ _ (envC_2 k1 k3) h2 (by (repeat first | exact Chg.refl _ _ | assumption | exact Chg.no (by assumption) | refine Chg.trans ?_ (by assumption) | refine Chg.trans ?_ (Chg.no (by assumption)) | refine Chg.drewBy ?_ _)))⟩⟩
    refine ⟨_, ld h2 (by rfl), St_blk h2 (by rfl) fun w3 h3 c3 _ => ⟨_, ld h3 (by rfl), cnd (fun k4 => ?_) (fun k4 => ?_)⟩⟩
    · refine ⟨_, ld h3 (by rfl), cnd_dec (fun k5 => ?_) (fun k5 => ?_)⟩
      · exact ⟨_, ld h3 (by rfl), St_blk h3 (by rfl) fun w4 h4 c4 _ => hnx _ _ (envC_3 k1 k3 k4 k5) h4 (by (repeat first | exact Chg.refl _ _ | assumption | exact Chg.no (by assumption) | refine Chg.trans ?_ (by assumption) | refine Chg.trans ?_ (Chg.no (by assumption)) | refine Chg.drewBy ?_ _))⟩
      · refine ⟨_, ld h3 (by rfl), cnd_not (cnd (fun k6 => ?_) (fun k6 => absurd (k4.symm.trans k6) (by decide)))⟩
        exact hnx _ _ (envC_5 k1 k3 (fun x => k5 x.2) (fun x => absurd (k4.symm.trans x.1) (by decide))) h3 (by (repeat first | exact Chg.refl _ _ | assumption | exact Chg.no (by assumption) | refine Chg.trans ?_ (by assumption) | refine Chg.trans ?_ (Chg.no (by assumption)) | refine Chg.drewBy ?_ _))
    · refine ⟨_, ld h3 (by rfl), cnd_not (cnd (fun k6 => absurd (k4.symm.trans k6) (by decide)) (fun k6 => ⟨_, ld h3 (by rfl), cnd_dec (fun k5 => ?_) (fun k5 => ?_)⟩))⟩
      · exact ⟨_, ld h3 (by rfl), St_blk h3 (by rfl) fun w4 h4 c4 _ => hnx _ _ (envC_4 k1 k3 k4 k5) h4 (by (repeat first | exact Chg.refl _ _ | assumption | exact Chg.no (by assumption) | refine Chg.trans ?_ (by assumption) | refine Chg.trans ?_ (Chg.no (by assumption)) | refine Chg.drewBy ?_ _))⟩
      · exact hnx _ _ (envC_5 k1 k3 (fun x => absurd (k4.symm.trans x.1) (by decide)) (fun x => k5 x.2)) h3 (by (repeat first | exact Chg.refl _ _ | assumption | exact Chg.no (by assumption) | refine Chg.trans ?_ (by assumption) | refine Chg.trans ?_ (Chg.no (by assumption)) | refine Chg.drewBy ?_ _))

end Go.Proofs.Ytieamlpjdilcoaa
