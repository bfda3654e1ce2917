/-
  The waves go on.
-/
import Derived.Test.YtieamlpjdilcoaaPsg
namespace Go.Proofs.Ytieamlpjdilcoaa
open Go.Vc
set_option linter.unusedVariables false
set_option maxRecDepth 20000

def moreF (u : PU) (i : Nat) (n : Int) : Int := IntKind.wrap .i64 (1 + (IntKind.wrap .i64 (Int.tdiv (IntKind.wrap .i64 (n - (u.get i).wait)) (cyclesF u i))))
def waitF (u : PU) (i : Nat) (n : Int) : Int := IntKind.wrap .i64 (cyclesF u i - (Int.tmod (IntKind.wrap .i64 (n - (u.get i).wait)) (cyclesF u i)))
def stepCh (u : PU) (i : Nat) (n : Int) : PU :=
  match i with
  | 0 => { u with s0 := { u.s0 with wait := waitF u 0 n, at_ := Int.tmod (IntKind.wrap .i64 (u.s0.at_ + moreF u 0 n)) 8 } }
  | 1 => { u with s1 := { u.s1 with wait := waitF u 1 n, at_ := Int.tmod (IntKind.wrap .i64 (u.s1.at_ + moreF u 1 n)) 8 } }
  | 2 => { u with wave := { u.wave with wait := waitF u 2 n, at_ := Int.tmod (IntKind.wrap .i64 (u.wave.at_ + moreF u 2 n)) 64 } }
  | _ => clockN (moreF u 3 n).toNat { u with noise := { u.noise with wait := waitF u 3 n } }
def playCh (u : PU) (i : Nat) (n : Int) : PU :=
  if (!(u.get i).on) = true then u else
  if n < (u.get i).wait then u.put { u.get i with wait := IntKind.wrap .i64 ((u.get i).wait - n) } i else stepCh u i n
theorem playCh_off {u : PU} {i : Nat} {n : Int} (k : (!(u.get i).on) = true) : playCh u i n = u := by unfold playCh; rw [if_pos k]
theorem playCh_wait {u : PU} {i : Nat} {n : Int} (k : (!(u.get i).on) = false) (k2 : n < (u.get i).wait) : playCh u i n = u.put { u.get i with wait := IntKind.wrap .i64 ((u.get i).wait - n) } i := by
  unfold playCh; rw [if_neg (by rw [k]; decide), if_pos k2]
theorem playCh_step {u : PU} {i : Nat} {n : Int} (k : (!(u.get i).on) = false) (k2 : ¬ n < (u.get i).wait) : playCh u i n = stepCh u i n := by
  unfold playCh; rw [if_neg (by rw [k]; decide), if_neg k2]
def playTo (u : PU) (n : Int) : Nat → PU
  | 0 => u
  | i + 1 => playCh (playTo u n i) i n
def playF (u : PU) (n : Int) : PU := playTo u n 4

/-- What play asks for. -/
def PlayOk (u : PU) (n : Int) : Prop := ∀ i, i < 4 → 0 ≤ (playTo u n i).shift ∧ cyclesF (playTo u n i) i ≠ 0

theorem noise_loop {w : World} {b : Nat} {u : PU} {t : TypeId} (hb : Blk w b u.enc t) : True := trivial

set_option maxHeartbeats 2000000 in
theorem play_ok {w : World} {b : Nat} {u : PU} {t : TypeId} (hb : Blk w b u.enc t) (n : Int) (ok : PlayOk u n) :
    Calls Try.prog n_play #[.pointer (some ⟨b, 0, none⟩), .int .i64 n] w fun e w' => e = .returned (.tuple #[]) ∧ Blk w' b (playF u n).enc t ∧ Chg (· = b) w w' := by
  apply c_play
  unfold p_play
  refine ⟨fun _ => True, trivial, chk_of (by decide) (chk_of (by decide) ?_)⟩
  refine Nw_blk (cs := ptrs b) fun w1 hs1 c1 s1 => ⟨trivial, ?_⟩
  have hb1 : Blk w1 b u.enc t := (hb.drewN 1).keep c1 id
  have hne : b ≠ w.heap.size := Nat.ne_of_lt hb.lt
  refine ⟨fun m vs w' => ∃ i : Nat, i ≤ 4 ∧ m = 4 - i ∧ vs = [.int .i64 i] ∧ Blk w' b (playTo u n i).enc t ∧ Blk w' w.heap.size (ptrs b) 45 ∧ Chg (· = b) w w',
    ⟨4, 0, by omega, rfl, rfl, hb1, hs1, by (repeat first | exact Chg.refl _ _ | assumption | exact Chg.no (by assumption) | refine Chg.trans ?_ (by assumption) | refine Chg.trans ?_ (Chg.no (by assumption)) | refine Chg.drewBy ?_ _)⟩, ?_⟩
  rintro m s w' ⟨i, hi, rfl, hv, h, hs, hc⟩
  obtain rfl : s = (i : Int) := by simpa using hv
  refine cnd_dec (fun k => ?_) (fun k => ?_)
  rotate_left
  · obtain rfl : i = 4 := by omega
    exact ⟨rfl, h, hc⟩
  have hi4 : i < 4 := by omega
  obtain ⟨ok1, ok2⟩ := ok i hi4
  have hnx : ∀ w'', Blk w'' b (playCh (playTo u n i) i n).enc t → Chg (· = b) w' w'' → ∃ m, m < 4 - i ∧ ∃ j : Nat, j ≤ 4 ∧ m = 4 - j ∧ [Value.int .i64 (IntKind.wrap .i64 ((i : Int) + 1))] = [.int .i64 j] ∧ Blk w'' b (playTo u n j).enc t ∧ Blk w'' w.heap.size (ptrs b) 45 ∧ Chg (· = b) w w'' := by
    intro w'' h' c'
    refine ⟨4 - (i + 1), by omega, i + 1, by omega, rfl, ?_, h', hs.keep c' (Ne.symm hne), hc.trans c'⟩
    rw [wrap_i64 (by omega) (by omega)]; rfl
  refine chk_in (by omega) k ?_
  generalize playTo u n i = v at h hnx ok1 ok2 ⊢
  have hcyc := cycles_ok h ok1 i hi4
  obtain rfl | rfl | rfl | rfl : i = 0 ∨ i = 1 ∨ i = 2 ∨ i = 3 := by omega
  · refine ⟨_, ld hs (by rfl), ?_⟩
    simp only [NN_some, add_at]
    refine ⟨_, ld h (by rfl), cnd (fun k1 => hnx _ ?_ (Chg.refl _ _)) (fun k1 => ?_)⟩
    · rw [playCh_off (i := 0) k1]; exact h
    refine ⟨_, ld h (by rfl), cnd_dec (fun k2 => ?_) (fun k2 => ?_)⟩
    · refine ⟨_, ld h (by rfl), St_blk h (by rfl) fun w2 h2 c2 _ => hnx _ ?_ (by (repeat first | exact Chg.refl _ _ | assumption | exact Chg.no (by assumption) | refine Chg.trans ?_ (by assumption) | refine Chg.trans ?_ (Chg.no (by assumption)) | refine Chg.drewBy ?_ _))⟩
      rw [playCh_wait (i := 0) k1 k2]; exact h2
    refine hcyc.mono fun e w2 ⟨he, h2, c2⟩ => ⟨_, he, ⟨_, ld h2 (by rfl), chk_nz ok2 (Lt_intro fun mo hmo => ⟨_, ld h2 (by rfl), chk_nz ok2 (St_blk h2 (by rfl) fun w3 h3 c3 _ => ?_)⟩)⟩⟩
    refine cnd_beq (fun k3 => ?_) (fun k3 => absurd rfl k3)
    refine cnd_beq (fun k4 => ?_) (fun k4 => absurd rfl k4)
    refine ⟨_, ld h3 (by rfl), St_blk h3 (by rfl) fun w4 h4 c4 _ => hnx _ ?_ (by (repeat first | exact Chg.refl _ _ | assumption | exact Chg.no (by assumption) | refine Chg.trans ?_ (by assumption) | refine Chg.trans ?_ (Chg.no (by assumption)) | refine Chg.drewBy ?_ _))⟩
    subst hmo
    rw [playCh_step (i := 0) k1 k2]; exact h4
  · refine ⟨_, ld hs (by rfl), ?_⟩
    simp only [NN_some, add_at]
    refine ⟨_, ld h (by rfl), cnd (fun k1 => hnx _ ?_ (Chg.refl _ _)) (fun k1 => ?_)⟩
    · rw [playCh_off (i := 1) k1]; exact h
    refine ⟨_, ld h (by rfl), cnd_dec (fun k2 => ?_) (fun k2 => ?_)⟩
    · refine ⟨_, ld h (by rfl), St_blk h (by rfl) fun w2 h2 c2 _ => hnx _ ?_ (by (repeat first | exact Chg.refl _ _ | assumption | exact Chg.no (by assumption) | refine Chg.trans ?_ (by assumption) | refine Chg.trans ?_ (Chg.no (by assumption)) | refine Chg.drewBy ?_ _))⟩
      rw [playCh_wait (i := 1) k1 k2]; exact h2
    refine hcyc.mono fun e w2 ⟨he, h2, c2⟩ => ⟨_, he, ⟨_, ld h2 (by rfl), chk_nz ok2 (Lt_intro fun mo hmo => ⟨_, ld h2 (by rfl), chk_nz ok2 (St_blk h2 (by rfl) fun w3 h3 c3 _ => ?_)⟩)⟩⟩
    refine cnd_beq (fun k3 => absurd k3 (by decide)) (fun k3 => ?_)
    refine cnd_beq (fun k4 => ?_) (fun k4 => absurd rfl k4)
    refine ⟨_, ld h3 (by rfl), St_blk h3 (by rfl) fun w4 h4 c4 _ => hnx _ ?_ (by (repeat first | exact Chg.refl _ _ | assumption | exact Chg.no (by assumption) | refine Chg.trans ?_ (by assumption) | refine Chg.trans ?_ (Chg.no (by assumption)) | refine Chg.drewBy ?_ _))⟩
    subst hmo
    rw [playCh_step (i := 1) k1 k2]; exact h4
  · refine ⟨_, ld hs (by rfl), ?_⟩
    simp only [NN_some, add_at]
    refine ⟨_, ld h (by rfl), cnd (fun k1 => hnx _ ?_ (Chg.refl _ _)) (fun k1 => ?_)⟩
    · rw [playCh_off (i := 2) k1]; exact h
    refine ⟨_, ld h (by rfl), cnd_dec (fun k2 => ?_) (fun k2 => ?_)⟩
    · refine ⟨_, ld h (by rfl), St_blk h (by rfl) fun w2 h2 c2 _ => hnx _ ?_ (by (repeat first | exact Chg.refl _ _ | assumption | exact Chg.no (by assumption) | refine Chg.trans ?_ (by assumption) | refine Chg.trans ?_ (Chg.no (by assumption)) | refine Chg.drewBy ?_ _))⟩
      rw [playCh_wait (i := 2) k1 k2]; exact h2
    refine hcyc.mono fun e w2 ⟨he, h2, c2⟩ => ⟨_, he, ⟨_, ld h2 (by rfl), chk_nz ok2 (Lt_intro fun mo hmo => ⟨_, ld h2 (by rfl), chk_nz ok2 (St_blk h2 (by rfl) fun w3 h3 c3 _ => ?_)⟩)⟩⟩
    refine cnd_beq (fun k3 => absurd k3 (by decide)) (fun k3 => ?_)
    refine cnd_beq (fun k4 => absurd k4 (by decide)) (fun k4 => ?_)
    refine cnd_beq (fun k5 => ?_) (fun k5 => absurd rfl k5)
    refine ⟨_, ld h3 (by rfl), St_blk h3 (by rfl) fun w4 h4 c4 _ => hnx _ ?_ (by (repeat first | exact Chg.refl _ _ | assumption | exact Chg.no (by assumption) | refine Chg.trans ?_ (by assumption) | refine Chg.trans ?_ (Chg.no (by assumption)) | refine Chg.drewBy ?_ _))⟩
    subst hmo
    rw [playCh_step (i := 2) k1 k2]; exact h4
  · refine ⟨_, ld hs (by rfl), ?_⟩
    simp only [NN_some, add_at]
    refine ⟨_, ld h (by rfl), cnd (fun k1 => hnx _ ?_ (Chg.refl _ _)) (fun k1 => ?_)⟩
    · rw [playCh_off (i := 3) k1]; exact h
    refine ⟨_, ld h (by rfl), cnd_dec (fun k2 => ?_) (fun k2 => ?_)⟩
    · refine ⟨_, ld h (by rfl), St_blk h (by rfl) fun w2 h2 c2 _ => hnx _ ?_ (by (repeat first | exact Chg.refl _ _ | assumption | exact Chg.no (by assumption) | refine Chg.trans ?_ (by assumption) | refine Chg.trans ?_ (Chg.no (by assumption)) | refine Chg.drewBy ?_ _))⟩
      rw [playCh_wait (i := 3) k1 k2]; exact h2
    refine hcyc.mono fun e w2 ⟨he, h2, c2⟩ => ⟨_, he, ⟨_, ld h2 (by rfl), chk_nz ok2 (Lt_intro fun mo hmo => ⟨_, ld h2 (by rfl), chk_nz ok2 (St_blk h2 (by rfl) fun w3 h3 c3 _ => ?_)⟩)⟩⟩
    refine cnd_beq (fun k3 => absurd k3 (by decide)) (fun k3 => ?_)
    refine cnd_beq (fun k4 => absurd k4 (by decide)) (fun k4 => ?_)
    refine cnd_beq (fun k5 => absurd k5 (by decide)) (fun k5 => ?_)
    have hmx : mo ≤ 9223372036854775807 := by
      have e1 : (2 : Int) ^ 64 = 18446744073709551616 := by decide
      have e2 : (2 : Int) ^ (64 - 1) = 9223372036854775808 := by decide
      rw [hmo]; simp only [IntKind.wrap, IntKind.bits, IntKind.signed, e1, e2, Bool.true_and, decide_eq_true_eq]
      split <;> omega
    refine ⟨fun m vs w' => ∃ j : Nat, m = mo.toNat - j ∧ (j : Int) ≤ max mo 0 ∧ vs = [.int .i64 j] ∧ Blk w' b (clockN j { v with noise := { v.noise with wait := waitF v 3 n } }).enc t ∧ Chg (· = b) w3 w',
      ⟨mo.toNat, 0, rfl, by omega, rfl, h3, Chg.refl _ _⟩, ?_⟩
    rintro m s w5 ⟨j, rfl, hj, hv, h5, c5⟩
    obtain rfl : s = (j : Int) := by simpa using hv
    refine cnd_dec (fun k6 => ?_) (fun k6 => ?_)
    · refine (clock_ok h5).mono fun e w6 ⟨he, h6, c6⟩ => ⟨he, mo.toNat - (j + 1), by omega, j + 1, rfl, by omega, ?_, h6, by (repeat first | exact Chg.refl _ _ | assumption | exact Chg.no (by assumption) | refine Chg.trans ?_ (by assumption) | refine Chg.trans ?_ (Chg.no (by assumption)) | refine Chg.drewBy ?_ _)⟩
      rw [wrap_i64 (by omega) (by omega)]; rfl
    · have hj' : j = mo.toNat := by omega
      subst hj'
      refine hnx _ ?_ (by (repeat first | exact Chg.refl _ _ | assumption | exact Chg.no (by assumption) | refine Chg.trans ?_ (by assumption) | refine Chg.trans ?_ (Chg.no (by assumption)) | refine Chg.drewBy ?_ _))
      subst hmo
      rw [playCh_step (i := 3) k1 k2]; exact h5

end Go.Proofs.Ytieamlpjdilcoaa
