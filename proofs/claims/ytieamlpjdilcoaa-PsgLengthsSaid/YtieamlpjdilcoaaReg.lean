/-
  New, begin, Run, Bank, Peek, Write.
-/
import Derived.Test.YtieamlpjdilcoaaBeat
namespace Go.Proofs.Ytieamlpjdilcoaa
open Go.Vc
set_option linter.unusedVariables false
set_option maxRecDepth 20000

def Sq.zero : Sq := ⟨false, 0, 0, false, 0, 0, false, 0, 0, 0, 0, 0, 0, 0, false, 0⟩
def PU.zero : PU := ⟨Sq.zero, Sq.zero, Sq.zero, fun _ => 0, false, 0, 0, false, Sq.zero, 0, false, 0, 0, 0, 0⟩
theorem new_ok (w : World) :
    Calls Try.prog n_New #[] w fun e w' => e = .returned (.pointer (some ⟨w.heap.size, 0, none⟩)) ∧ Blk w' w.heap.size PU.zero.enc 44 ∧ Chg (fun _ => False) w w' ∧ w'.heap.size = w.heap.size + 1 := by
  apply c_New
  exact Nw_blk (cs := PU.zero.enc) fun w1 h1 c1 s1 => ⟨rfl, h1, c1, s1⟩

/-! ### begin -/
def begin1 (c : Sq) (full : Int) : Sq := if c.length = 0 then { c with length := full } else c
def begin2 (c : Sq) (i : Nat) : Sq := if i = 2 then { c with on := true } else if c.start > 0 then { c with on := true } else { c with on := c.up }
def beginC (c : Sq) (i : Nat) (full : Int) : Sq := { begin2 (begin1 c full) i with volume := (begin2 (begin1 c full) i).start, left := (begin2 (begin1 c full) i).step }
def beginF (u : PU) (i : Nat) (full : Int) : PU :=
  let v := u.put (beginC (u.get i) i full) i
  v.put { v.get i with wait := cyclesF v i, at_ := 0, sweepLeft := (v.get i).sweepIn } i

theorem put_get {u : PU} {c : Sq} {i : Nat} : (u.put c i).get i = c := by
  match i with
  | 0 | 1 | 2 | 3 => rfl
  | n + 4 => rfl
theorem put_put {u : PU} {c d : Sq} {i : Nat} : (u.put c i).put d i = u.put d i := by
  match i with
  | 0 | 1 | 2 | 3 => rfl
  | n + 4 => rfl
theorem put_shift {u : PU} {c : Sq} {i : Nat} : (u.put c i).shift = u.shift := by
  match i with
  | 0 | 1 | 2 | 3 => rfl
  | n + 4 => rfl

set_option maxHeartbeats 4000000 in
theorem begin_ok {w : World} {b : Nat} {u : PU} {t : TypeId} (hb : Blk w b u.enc t) (hs : 0 ≤ u.shift) (i : Nat) (hi : i < 4) (full : Int) :
    Calls Try.prog n_begin #[.pointer (some ⟨b, 0, none⟩), .pointer (some ⟨b, off i, none⟩), .int .i64 i, .int .i64 full] w fun e w' => e = .returned (.tuple #[]) ∧ Blk w' b (beginF u i full).enc t ∧ Chg (· = b) w w' := by
  apply c_begin
  obtain rfl | rfl | rfl | rfl : i = 0 ∨ i = 1 ∨ i = 2 ∨ i = 3 := by omega
  · show p_begin b ⟨b, 0, none⟩ _ full _ w
    unfold p_begin
    simp only [add_at]
    refine ⟨fun _ w' => Blk w' b (u.put (begin1 (u.get 0) full) 0).enc t ∧ Chg (· = b) w w', ?_, ?_⟩
    · refine ⟨_, ld hb (by rfl), cnd_beq (fun k => St_blk hb (by rfl) fun w1 h1 c1 _ => ⟨?_, by (repeat first | exact Chg.refl _ _ | assumption | exact Chg.no (by assumption) | refine Chg.trans ?_ (by assumption) | refine Chg.trans ?_ (Chg.no (by assumption)) | refine Chg.drewBy ?_ _)⟩) (fun k => ⟨?_, Chg.refl _ _⟩)⟩
      · have e : begin1 (u.get 0) full = { u.get 0 with length := full } := if_pos k
        rw [e]; exact h1
      · have e : begin1 (u.get 0) full = u.get 0 := if_neg k
        rw [e]; exact hb
    rintro w1 ⟨h1, c1⟩
    unfold beginF beginC
    generalize begin1 (u.get 0) full = d at h1 ⊢
    refine ⟨fun _ w' => Blk w' b (u.put (begin2 d 0) 0).enc t ∧ Chg (· = b) w w', ?_, ?_⟩
    · refine cnd_beq (fun k => absurd k (by decide)) (fun _ => ⟨_, ld h1 (by rfl), cnd_dec (fun k2 => St_blk h1 (by rfl) fun w2 h2 c2 _ => ⟨?_, by (repeat first | exact Chg.refl _ _ | assumption | exact Chg.no (by assumption) | refine Chg.trans ?_ (by assumption) | refine Chg.trans ?_ (Chg.no (by assumption)) | refine Chg.drewBy ?_ _)⟩) (fun k2 => ⟨_, ld h1 (by rfl), St_blk h1 (by rfl) fun w2 h2 c2 _ => ⟨?_, by (repeat first | exact Chg.refl _ _ | assumption | exact Chg.no (by assumption) | refine Chg.trans ?_ (by assumption) | refine Chg.trans ?_ (Chg.no (by assumption)) | refine Chg.drewBy ?_ _)⟩⟩)⟩)
      · have e : begin2 d 0 = { d with on := true } := by unfold begin2; rw [if_neg (by decide), if_pos (show d.start > 0 from k2)]
        rw [e]; exact h2
      · have e : begin2 d 0 = { d with on := d.up } := by unfold begin2; rw [if_neg (by decide), if_neg (show ¬ d.start > 0 from k2)]
        rw [e]; exact h2
    rintro w2 ⟨h2, c2⟩
    generalize begin2 d 0 = f at h2 ⊢
    refine ⟨fun w => w.cell? ⟨b, 4, none⟩ = some (.int .i64 f.start) ∧ w.cell? ⟨b, 5, none⟩ = some (.int .i64 f.step), ⟨ld (h2.drewN 1) (by rfl), ld (h2.drewN 1) (by rfl)⟩, _, fun _ h => h.1, _, fun _ h => h.2, ?_⟩
    refine St_blk (h2.drewN 1) (by rfl) fun w3 h3 c3 _ => ⟨⟨ld h3 (by rfl), ld h3 (by rfl)⟩, St_blk h3 (by rfl) fun w4 h4 c4 _ => ⟨⟨ld h4 (by rfl), ld h4 (by rfl)⟩, ?_⟩⟩
    have h4' : Blk w4 b (u.put { f with volume := f.start, left := f.step } 0).enc t := h4
    refine (cycles_ok h4' hs 0 (by decide)).mono fun e w5 ⟨he, h5, c5⟩ => ⟨_, he, ?_⟩
    refine St_blk h5 (by rfl) fun w6 h6 c6 _ => St_blk h6 (by rfl) fun w7 h7 c7 _ => ⟨_, ld h7 (by rfl), St_blk h7 (by rfl) fun w8 h8 c8 _ => ⟨trivial, h8, by (repeat first | exact Chg.refl _ _ | assumption | exact Chg.no (by assumption) | refine Chg.trans ?_ (by assumption) | refine Chg.trans ?_ (Chg.no (by assumption)) | refine Chg.drewBy ?_ _)⟩⟩
  · show p_begin b ⟨b, 16, none⟩ _ full _ w
    unfold p_begin
    simp only [add_at]
    refine ⟨fun _ w' => Blk w' b (u.put (begin1 (u.get 1) full) 1).enc t ∧ Chg (· = b) w w', ?_, ?_⟩
    · refine ⟨_, ld hb (by rfl), cnd_beq (fun k => St_blk hb (by rfl) fun w1 h1 c1 _ => ⟨?_, by (repeat first | exact Chg.refl _ _ | assumption | exact Chg.no (by assumption) | refine Chg.trans ?_ (by assumption) | refine Chg.trans ?_ (Chg.no (by assumption)) | refine Chg.drewBy ?_ _)⟩) (fun k => ⟨?_, Chg.refl _ _⟩)⟩
      · have e : begin1 (u.get 1) full = { u.get 1 with length := full } := if_pos k
        rw [e]; exact h1
      · have e : begin1 (u.get 1) full = u.get 1 := if_neg k
        rw [e]; exact hb
    rintro w1 ⟨h1, c1⟩
    unfold beginF beginC
    generalize begin1 (u.get 1) full = d at h1 ⊢
    refine ⟨fun _ w' => Blk w' b (u.put (begin2 d 1) 1).enc t ∧ Chg (· = b) w w', ?_, ?_⟩
    · refine cnd_beq (fun k => absurd k (by decide)) (fun _ => ⟨_, ld h1 (by rfl), cnd_dec (fun k2 => St_blk h1 (by rfl) fun w2 h2 c2 _ => ⟨?_, by (repeat first | exact Chg.refl _ _ | assumption | exact Chg.no (by assumption) | refine Chg.trans ?_ (by assumption) | refine Chg.trans ?_ (Chg.no (by assumption)) | refine Chg.drewBy ?_ _)⟩) (fun k2 => ⟨_, ld h1 (by rfl), St_blk h1 (by rfl) fun w2 h2 c2 _ => ⟨?_, by (repeat first | exact Chg.refl _ _ | assumption | exact Chg.no (by assumption) | refine Chg.trans ?_ (by assumption) | refine Chg.trans ?_ (Chg.no (by assumption)) | refine Chg.drewBy ?_ _)⟩⟩)⟩)
      · have e : begin2 d 1 = { d with on := true } := by unfold begin2; rw [if_neg (by decide), if_pos (show d.start > 0 from k2)]
        rw [e]; exact h2
      · have e : begin2 d 1 = { d with on := d.up } := by unfold begin2; rw [if_neg (by decide), if_neg (show ¬ d.start > 0 from k2)]
        rw [e]; exact h2
    rintro w2 ⟨h2, c2⟩
    generalize begin2 d 1 = f at h2 ⊢
    refine ⟨fun w => w.cell? ⟨b, 20, none⟩ = some (.int .i64 f.start) ∧ w.cell? ⟨b, 21, none⟩ = some (.int .i64 f.step), ⟨ld (h2.drewN 1) (by rfl), ld (h2.drewN 1) (by rfl)⟩, _, fun _ h => h.1, _, fun _ h => h.2, ?_⟩
    refine St_blk (h2.drewN 1) (by rfl) fun w3 h3 c3 _ => ⟨⟨ld h3 (by rfl), ld h3 (by rfl)⟩, St_blk h3 (by rfl) fun w4 h4 c4 _ => ⟨⟨ld h4 (by rfl), ld h4 (by rfl)⟩, ?_⟩⟩
    have h4' : Blk w4 b (u.put { f with volume := f.start, left := f.step } 1).enc t := h4
    refine (cycles_ok h4' hs 1 (by decide)).mono fun e w5 ⟨he, h5, c5⟩ => ⟨_, he, ?_⟩
    refine St_blk h5 (by rfl) fun w6 h6 c6 _ => St_blk h6 (by rfl) fun w7 h7 c7 _ => ⟨_, ld h7 (by rfl), St_blk h7 (by rfl) fun w8 h8 c8 _ => ⟨trivial, h8, by (repeat first | exact Chg.refl _ _ | assumption | exact Chg.no (by assumption) | refine Chg.trans ?_ (by assumption) | refine Chg.trans ?_ (Chg.no (by assumption)) | refine Chg.drewBy ?_ _)⟩⟩
  · show p_begin b ⟨b, 32, none⟩ _ full _ w
    unfold p_begin
    simp only [add_at]
    refine ⟨fun _ w' => Blk w' b (u.put (begin1 (u.get 2) full) 2).enc t ∧ Chg (· = b) w w', ?_, ?_⟩
    · refine ⟨_, ld hb (by rfl), cnd_beq (fun k => St_blk hb (by rfl) fun w1 h1 c1 _ => ⟨?_, by (repeat first | exact Chg.refl _ _ | assumption | exact Chg.no (by assumption) | refine Chg.trans ?_ (by assumption) | refine Chg.trans ?_ (Chg.no (by assumption)) | refine Chg.drewBy ?_ _)⟩) (fun k => ⟨?_, Chg.refl _ _⟩)⟩
      · have e : begin1 (u.get 2) full = { u.get 2 with length := full } := if_pos k
        rw [e]; exact h1
      · have e : begin1 (u.get 2) full = u.get 2 := if_neg k
        rw [e]; exact hb
    rintro w1 ⟨h1, c1⟩
    unfold beginF beginC
    generalize begin1 (u.get 2) full = d at h1 ⊢
    refine ⟨fun _ w' => Blk w' b (u.put (begin2 d 2) 2).enc t ∧ Chg (· = b) w w', ?_, ?_⟩
    · exact cnd_beq (fun k => St_blk h1 (by rfl) fun w2 h2 c2 _ => ⟨h2, by (repeat first | exact Chg.refl _ _ | assumption | exact Chg.no (by assumption) | refine Chg.trans ?_ (by assumption) | refine Chg.trans ?_ (Chg.no (by assumption)) | refine Chg.drewBy ?_ _)⟩) (fun k => absurd rfl k)
    rintro w2 ⟨h2, c2⟩
    generalize begin2 d 2 = f at h2 ⊢
    refine ⟨fun w => w.cell? ⟨b, 36, none⟩ = some (.int .i64 f.start) ∧ w.cell? ⟨b, 37, none⟩ = some (.int .i64 f.step), ⟨ld (h2.drewN 1) (by rfl), ld (h2.drewN 1) (by rfl)⟩, _, fun _ h => h.1, _, fun _ h => h.2, ?_⟩
    refine St_blk (h2.drewN 1) (by rfl) fun w3 h3 c3 _ => ⟨⟨ld h3 (by rfl), ld h3 (by rfl)⟩, St_blk h3 (by rfl) fun w4 h4 c4 _ => ⟨⟨ld h4 (by rfl), ld h4 (by rfl)⟩, ?_⟩⟩
    have h4' : Blk w4 b (u.put { f with volume := f.start, left := f.step } 2).enc t := h4
    refine (cycles_ok h4' hs 2 (by decide)).mono fun e w5 ⟨he, h5, c5⟩ => ⟨_, he, ?_⟩
    refine St_blk h5 (by rfl) fun w6 h6 c6 _ => St_blk h6 (by rfl) fun w7 h7 c7 _ => ⟨_, ld h7 (by rfl), St_blk h7 (by rfl) fun w8 h8 c8 _ => ⟨trivial, h8, by (repeat first | exact Chg.refl _ _ | assumption | exact Chg.no (by assumption) | refine Chg.trans ?_ (by assumption) | refine Chg.trans ?_ (Chg.no (by assumption)) | refine Chg.drewBy ?_ _)⟩⟩
  · show p_begin b ⟨b, 84, none⟩ _ full _ w
    unfold p_begin
    simp only [add_at]
    refine ⟨fun _ w' => Blk w' b (u.put (begin1 (u.get 3) full) 3).enc t ∧ Chg (· = b) w w', ?_, ?_⟩
    · refine ⟨_, ld hb (by rfl), cnd_beq (fun k => St_blk hb (by rfl) fun w1 h1 c1 _ => ⟨?_, by (repeat first | exact Chg.refl _ _ | assumption | exact Chg.no (by assumption) | refine Chg.trans ?_ (by assumption) | refine Chg.trans ?_ (Chg.no (by assumption)) | refine Chg.drewBy ?_ _)⟩) (fun k => ⟨?_, Chg.refl _ _⟩)⟩
      · have e : begin1 (u.get 3) full = { u.get 3 with length := full } := if_pos k
        rw [e]; exact h1
      · have e : begin1 (u.get 3) full = u.get 3 := if_neg k
        rw [e]; exact hb
    rintro w1 ⟨h1, c1⟩
    unfold beginF beginC
    generalize begin1 (u.get 3) full = d at h1 ⊢
    refine ⟨fun _ w' => Blk w' b (u.put (begin2 d 3) 3).enc t ∧ Chg (· = b) w w', ?_, ?_⟩
    · refine cnd_beq (fun k => absurd k (by decide)) (fun _ => ⟨_, ld h1 (by rfl), cnd_dec (fun k2 => St_blk h1 (by rfl) fun w2 h2 c2 _ => ⟨?_, by (repeat first | exact Chg.refl _ _ | assumption | exact Chg.no (by assumption) | refine Chg.trans ?_ (by assumption) | refine Chg.trans ?_ (Chg.no (by assumption)) | refine Chg.drewBy ?_ _)⟩) (fun k2 => ⟨_, ld h1 (by rfl), St_blk h1 (by rfl) fun w2 h2 c2 _ => ⟨?_, by (repeat first | exact Chg.refl _ _ | assumption | exact Chg.no (by assumption) | refine Chg.trans ?_ (by assumption) | refine Chg.trans ?_ (Chg.no (by assumption)) | refine Chg.drewBy ?_ _)⟩⟩)⟩)
      · have e : begin2 d 3 = { d with on := true } := by unfold begin2; rw [if_neg (by decide), if_pos (show d.start > 0 from k2)]
        rw [e]; exact h2
      · have e : begin2 d 3 = { d with on := d.up } := by unfold begin2; rw [if_neg (by decide), if_neg (show ¬ d.start > 0 from k2)]
        rw [e]; exact h2
    rintro w2 ⟨h2, c2⟩
    generalize begin2 d 3 = f at h2 ⊢
    refine ⟨fun w => w.cell? ⟨b, 88, none⟩ = some (.int .i64 f.start) ∧ w.cell? ⟨b, 89, none⟩ = some (.int .i64 f.step), ⟨ld (h2.drewN 1) (by rfl), ld (h2.drewN 1) (by rfl)⟩, _, fun _ h => h.1, _, fun _ h => h.2, ?_⟩
    refine St_blk (h2.drewN 1) (by rfl) fun w3 h3 c3 _ => ⟨⟨ld h3 (by rfl), ld h3 (by rfl)⟩, St_blk h3 (by rfl) fun w4 h4 c4 _ => ⟨⟨ld h4 (by rfl), ld h4 (by rfl)⟩, ?_⟩⟩
    have h4' : Blk w4 b (u.put { f with volume := f.start, left := f.step } 3).enc t := h4
    refine (cycles_ok h4' hs 3 (by decide)).mono fun e w5 ⟨he, h5, c5⟩ => ⟨_, he, ?_⟩
    refine St_blk h5 (by rfl) fun w6 h6 c6 _ => St_blk h6 (by rfl) fun w7 h7 c7 _ => ⟨_, ld h7 (by rfl), St_blk h7 (by rfl) fun w8 h8 c8 _ => ⟨trivial, h8, by (repeat first | exact Chg.refl _ _ | assumption | exact Chg.no (by assumption) | refine Chg.trans ?_ (by assumption) | refine Chg.trans ?_ (Chg.no (by assumption)) | refine Chg.drewBy ?_ _)⟩⟩

/-! ### Run -/
def runTo (u : PU) (now : Int) : Int :=
  if (IntKind.wrap .i64 ((IntKind.wrap .i64 ((IntKind.wrap .i64 (Int.tdiv u.now 32768)) + 1)) * 32768)) < now then (IntKind.wrap .i64 ((IntKind.wrap .i64 ((IntKind.wrap .i64 (Int.tdiv u.now 32768)) + 1)) * 32768)) else now
def run1 (u : PU) (now : Int) : PU := { playF u (IntKind.wrap .i64 (runTo u now - u.now)) with now := runTo u now }
def runStep (u : PU) (now : Int) : PU := if Int.tmod (runTo u now) 32768 = 0 then beatF (run1 u now) else run1 u now
/-- Run goes from u to v in so many rounds. -/
inductive RunTo (now : Int) : Nat → PU → PU → Prop
  | stop {u} (h : ¬ u.now < now) : RunTo now 0 u u
  | go {u v n} (h : u.now < now) (ok1 : PlayOk u (IntKind.wrap .i64 (runTo u now - u.now))) (ok2 : 0 ≤ (beat2 (run1 u now)).s0.sweepBy) (r : RunTo now n (runStep u now) v) : RunTo now (n + 1) u v

theorem run_ok {w : World} {b : Nat} {u v : PU} {t : TypeId} (hb : Blk w b u.enc t) {now : Int} {n : Nat} (hr : RunTo now n u v) :
    Calls Try.prog n_Run #[.pointer (some ⟨b, 0, none⟩), .int .i64 now] w fun e w' => e = .returned (.tuple #[]) ∧ Blk w' b v.enc t ∧ Chg (· = b) w w' := by
  apply c_Run
  unfold p_Run
  refine ⟨fun m vs w' => ∃ x, RunTo now m x v ∧ Blk w' b x.enc t ∧ Chg (· = b) w w', ⟨n, u, hr, hb, Chg.refl _ _⟩, ?_⟩
  rintro m w1 ⟨x, hx, h1, c1⟩
  refine ⟨_, ld h1 (by rfl), cnd_dec (fun k => ?_) (fun k => ?_)⟩
  rotate_left
  · cases hx with
    | stop h => exact ⟨rfl, h1, c1⟩
    | go h _ _ _ => exact absurd h k
  cases hx with
  | stop h => exact absurd k h
  | @go _ _ m' h ok1 ok2 r =>
    refine ⟨_, ld h1 (by rfl), Lt_intro fun to hto => ⟨_, ld h1 (by rfl), ?_⟩⟩
    have hto' : to = runTo x now := hto
    subst hto'
    refine (play_ok h1 _ ok1).mono fun e w2 ⟨he, h2, c2⟩ => ⟨he, St_blk h2 (by rfl) fun w3 h3 c3 _ => ?_⟩
    have h3' : Blk w3 b (run1 x now).enc t := h3
    refine cnd_beq (fun k2 => ?_) (fun k2 => ?_)
    · refine (beat_ok h3' ok2).mono fun e w4 ⟨he, h4, c4⟩ => ⟨he, m', Nat.lt_succ_self _, runStep x now, r, ?_, by (repeat first | exact Chg.refl _ _ | assumption | exact Chg.no (by assumption) | refine Chg.trans ?_ (by assumption) | refine Chg.trans ?_ (Chg.no (by assumption)) | refine Chg.drewBy ?_ _)⟩
      unfold runStep; rw [if_pos k2]; exact h4
    · refine ⟨m', Nat.lt_succ_self _, runStep x now, r, ?_, by (repeat first | exact Chg.refl _ _ | assumption | exact Chg.no (by assumption) | refine Chg.trans ?_ (by assumption) | refine Chg.trans ?_ (Chg.no (by assumption)) | refine Chg.drewBy ?_ _)⟩
      unfold runStep; rw [if_neg k2]; exact h3'

end Go.Proofs.Ytieamlpjdilcoaa
