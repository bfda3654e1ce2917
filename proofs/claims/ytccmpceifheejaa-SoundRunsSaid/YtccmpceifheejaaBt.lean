/-
  A beat of the channels: lengths, the sweep, envelopes.
-/
import Derived.Test.YtccmpceifheejaaPl
namespace Go.Proofs.Ytccmpceifheejaa
open Go.Vc
set_option linter.unusedVariables false
set_option linter.unusedSimpArgs false
theorem bind_of {α β : Type} {x : Option α} {f : α → Option β} (v : α) (h : x = some v) : x.bind f = f v := by rw [h]; rfl
def lenOn (c : Ch) : Bool := cond c.on (cond c.ul (!(IntKind.wrap .i64 (c.length - 1) == 0)) c.on) c.on
def lenL (c : Ch) : Int := cond c.on (cond c.ul (IntKind.wrap .i64 (c.length - 1)) c.length) c.length
def envV (on : Bool) (c : Ch) : Int := cond on (cond (decide (c.step > 0)) (cond (IntKind.wrap .i64 (c.left - 1) == 0) (cond c.up (cond (decide (c.volume < 15)) (IntKind.wrap .i64 (c.volume + 1)) c.volume) (cond (decide (c.volume > 0)) (IntKind.wrap .i64 (c.volume - 1)) c.volume)) c.volume) c.volume) c.volume
def envL (on : Bool) (c : Ch) : Int := cond on (cond (decide (c.step > 0)) (cond (IntKind.wrap .i64 (c.left - 1) == 0) c.step (IntKind.wrap .i64 (c.left - 1))) c.left) c.left
def chL (e : Bool) (c : Ch) : Ch := cond e { c with on := lenOn c, length := lenL c } c
def sw3 (c : Ch) : Bool × Int × Int := swv c.on c.freq c.sweepBy c.sweepIn c.sweepDown c.sweepLeft
def chS (e : Bool) (c : Ch) : Ch := cond e { c with on := (sw3 c).1, freq := (sw3 c).2.1, sweepLeft := (sw3 c).2.2 } c
def chE (e : Bool) (c : Ch) : Ch := cond e { c with volume := envV c.on c, left := envL c.on c } c
def bt (S : PS) : Int := IntKind.wrap .i64 (S.beats + 1)
def beatA (S : PS) : PS :=
  { S with c0 := chE (Int.tmod (bt S) 8 == 0) (chS (Int.tmod (bt S) 4 == 0) (chL (Int.tmod (bt S) 2 == 0) S.c0)), c1 := chE (Int.tmod (bt S) 8 == 0) (chL (Int.tmod (bt S) 2 == 0) S.c1),
           c2 := chL (Int.tmod (bt S) 2 == 0) S.c2, c3 := chE (Int.tmod (bt S) 8 == 0) (chL (Int.tmod (bt S) 2 == 0) S.c3), beats := bt S }
theorem chL_ok {m : Int} {c : Ch} (h : COk m c) (e : Bool) : COk m (chL e c) := by
  cases e
  · exact h
  · refine ⟨fun k => h.w ?_, h.a, h.f, h.v, h.s, h.d, h.b, h.t⟩
    have k' : lenOn c = true := k
    unfold lenOn at k'
    cases hc : c.on
    · rw [hc] at k'; exact k'
    · rfl
theorem chS_ok {m : Int} {c : Ch} (h : COk m c) (e : Bool) : COk m (chS e c) := by
  cases e
  · exact h
  · obtain ⟨r1, r2, r3⟩ := swv_range (on := c.on) (si := c.sweepIn) (sd := c.sweepDown) (sl := c.sweepLeft) h.f h.b
    exact ⟨fun k => h.w (r3 k), h.a, ⟨r1, r2⟩, h.v, h.s, h.d, h.b, h.t⟩
theorem envV_range {on : Bool} {c : Ch} (h : 0 ≤ c.volume ∧ c.volume ≤ 15) : 0 ≤ envV on c ∧ envV on c ≤ 15 := by
  unfold envV
  cases on
  · exact h
  cases (decide (c.step > 0))
  · exact h
  cases (IntKind.wrap .i64 (c.left - 1) == 0)
  · exact h
  cases c.up
  · simp only [cond_true, cond_false]
    by_cases k : c.volume > 0
    · rw [cpos k, wrap_i64 (by omega) (by omega)]; omega
    · rw [cneg k]; exact h
  · simp only [cond_true, cond_false]
    by_cases k : c.volume < 15
    · rw [cpos k, wrap_i64 (by omega) (by omega)]; omega
    · rw [cneg k]; exact h
theorem chE_ok {m : Int} {c : Ch} (h : COk m c) (e : Bool) : COk m (chE e c) := by
  cases e
  · exact h
  · exact ⟨h.w, h.a, h.f, envV_range h.v, h.s, h.d, h.b, h.t⟩
theorem beat_gok {S : PS} (h : GOk S) : GOk (beatA S) :=
  ⟨chE_ok (chS_ok (chL_ok h.c0 _) _) _, chE_ok (chL_ok h.c1 _) _, chL_ok h.c2 _, chE_ok (chL_ok h.c3 _) _, h.lf, h.dv, h.sh⟩
set_option maxHeartbeats 4000000 in
theorem beat_eq {S : PS} (h : GOk S) : k_beat S = some (r_beat (beatA S)) := by
  unfold k_beat pA f_beat
  rw [cand (by decide) (by decide), cand (by decide) (by decide)]
  refine (bind_of ((chL (Int.tmod (bt S) 2 == 0) S.c0).on, (chL (Int.tmod (bt S) 2 == 0) S.c0).length, (chL (Int.tmod (bt S) 2 == 0) S.c1).on, (chL (Int.tmod (bt S) 2 == 0) S.c1).length, (chL (Int.tmod (bt S) 2 == 0) S.c2).on, (chL (Int.tmod (bt S) 2 == 0) S.c2).length, (chL (Int.tmod (bt S) 2 == 0) S.c3).on, (chL (Int.tmod (bt S) 2 == 0) S.c3).length) ?_).trans ?_
  · show cond (Int.tmod (bt S) 2 == 0) _ _ = _
    cases (Int.tmod (bt S) 2 == 0)
    · rfl
    rw [ctrue rfl]
    refine loopO_for (fun i => match i with
      | 0 => ((0 : Int), S.c0.on, S.c0.length, S.c1.on, S.c1.length, S.c2.on, S.c2.length, S.c3.on, S.c3.length)
      | 1 => ((1 : Int), lenOn S.c0, lenL S.c0, S.c1.on, S.c1.length, S.c2.on, S.c2.length, S.c3.on, S.c3.length)
      | 2 => ((2 : Int), lenOn S.c0, lenL S.c0, lenOn S.c1, lenL S.c1, S.c2.on, S.c2.length, S.c3.on, S.c3.length)
      | 3 => ((3 : Int), lenOn S.c0, lenL S.c0, lenOn S.c1, lenL S.c1, lenOn S.c2, lenL S.c2, S.c3.on, S.c3.length)
      | _ => ((4 : Int), lenOn S.c0, lenL S.c0, lenOn S.c1, lenL S.c1, lenOn S.c2, lenL S.c2, lenOn S.c3, lenL S.c3)) 4 ?_ ?_
    rotate_left
    · rfl
    intro i hi
    obtain rfl | rfl | rfl | rfl : i = 0 ∨ i = 1 ∨ i = 2 ∨ i = 3 := by omega
    · show cond S.c0.on (cond S.c0.ul (cond (IntKind.wrap .i64 (S.c0.length - 1) == 0) _ _) _) _ = _
      unfold lenOn lenL
      cases S.c0.on <;> cases S.c0.ul <;> cases (IntKind.wrap .i64 (S.c0.length - 1) == 0) <;> rfl
    · show cond S.c1.on (cond S.c1.ul (cond (IntKind.wrap .i64 (S.c1.length - 1) == 0) _ _) _) _ = _
      generalize lenOn S.c0 = z1
      generalize lenL S.c0 = z2
      unfold lenOn lenL
      cases S.c1.on <;> cases S.c1.ul <;> cases (IntKind.wrap .i64 (S.c1.length - 1) == 0) <;> rfl
    · show cond S.c2.on (cond S.c2.ul (cond (IntKind.wrap .i64 (S.c2.length - 1) == 0) _ _) _) _ = _
      generalize lenOn S.c0 = z1
      generalize lenL S.c0 = z2
      generalize lenOn S.c1 = z3
      generalize lenL S.c1 = z4
      unfold lenOn lenL
      cases S.c2.on <;> cases S.c2.ul <;> cases (IntKind.wrap .i64 (S.c2.length - 1) == 0) <;> rfl
    · show cond S.c3.on (cond S.c3.ul (cond (IntKind.wrap .i64 (S.c3.length - 1) == 0) _ _) _) _ = _
      generalize lenOn S.c0 = z1
      generalize lenL S.c0 = z2
      generalize lenOn S.c1 = z3
      generalize lenL S.c1 = z4
      generalize lenOn S.c2 = z5
      generalize lenL S.c2 = z6
      unfold lenOn lenL
      cases S.c3.on <;> cases S.c3.ul <;> cases (IntKind.wrap .i64 (S.c3.length - 1) == 0) <;> rfl
  have hc := chL_ok h.c0 (Int.tmod (bt S) 2 == 0)
  refine (bind_of ((chS (Int.tmod (bt S) 4 == 0) (chL (Int.tmod (bt S) 2 == 0) S.c0)).on, (chS (Int.tmod (bt S) 4 == 0) (chL (Int.tmod (bt S) 2 == 0) S.c0)).freq, (chS (Int.tmod (bt S) 4 == 0) (chL (Int.tmod (bt S) 2 == 0) S.c0)).sweepLeft) ?_).trans ?_
  · show cond (Int.tmod (bt S) 4 == 0) _ _ = _
    have z1 : ∀ e, (chL e S.c0).freq = S.c0.freq ∧ (chL e S.c0).sweepLeft = S.c0.sweepLeft ∧ sw3 (chL e S.c0) = swv (chL e S.c0).on S.c0.freq S.c0.sweepBy S.c0.sweepIn S.c0.sweepDown S.c0.sweepLeft := fun e => by cases e <;> exact ⟨rfl, rfl, rfl⟩
    cases (Int.tmod (bt S) 4 == 0)
    · show some ((chL (Int.tmod (bt S) 2 == 0) S.c0).on, S.c0.freq, S.c0.sweepLeft) = some ((chL (Int.tmod (bt S) 2 == 0) S.c0).on, (chL (Int.tmod (bt S) 2 == 0) S.c0).freq, (chL (Int.tmod (bt S) 2 == 0) S.c0).sweepLeft)
      rw [(z1 _).1, (z1 _).2.1]
    · rw [ctrue rfl, cand (by decide) (by decide), sweep_v h.c0.f h.c0.b, bind_some']
      show some ((swv (chL (Int.tmod (bt S) 2 == 0) S.c0).on S.c0.freq S.c0.sweepBy S.c0.sweepIn S.c0.sweepDown S.c0.sweepLeft).1, (swv (chL (Int.tmod (bt S) 2 == 0) S.c0).on S.c0.freq S.c0.sweepBy S.c0.sweepIn S.c0.sweepDown S.c0.sweepLeft).2.1, (swv (chL (Int.tmod (bt S) 2 == 0) S.c0).on S.c0.freq S.c0.sweepBy S.c0.sweepIn S.c0.sweepDown S.c0.sweepLeft).2.2) = _
      rw [← (z1 _).2.2]
      rfl
  show cond (Int.tmod (bt S) 8 == 0) _ _ = some (r_beat (beatA S))
  unfold beatA
  have z0 : ∀ e e', (chS e (chL e' S.c0)).volume = S.c0.volume ∧ (chS e (chL e' S.c0)).left = S.c0.left ∧ (chS e (chL e' S.c0)).length = (chL e' S.c0).length ∧ (chS e (chL e' S.c0)).step = S.c0.step ∧ (chS e (chL e' S.c0)).up = S.c0.up := fun e e' => by cases e <;> cases e' <;> exact ⟨rfl, rfl, rfl, rfl, rfl⟩
  have z2 : ∀ e' (c : Ch), (chL e' c).volume = c.volume ∧ (chL e' c).left = c.left ∧ (chL e' c).step = c.step ∧ (chL e' c).up = c.up := fun e' c => by cases e' <;> exact ⟨rfl, rfl, rfl, rfl⟩
  obtain ⟨a1, a2, a3, a4, a5⟩ := z0 (Int.tmod (bt S) 4 == 0) (Int.tmod (bt S) 2 == 0)
  obtain ⟨b1, b2, b3, b4⟩ := z2 (Int.tmod (bt S) 2 == 0) S.c1
  obtain ⟨d1, d2, d3, d4⟩ := z2 (Int.tmod (bt S) 2 == 0) S.c2
  obtain ⟨e1, e2, e3, e4⟩ := z2 (Int.tmod (bt S) 2 == 0) S.c3
  cases (Int.tmod (bt S) 8 == 0)
  · show some (Q_1.mk _ _ _ _ _ _ _ _ _ _ _ _ _ _ _ _ _ _ _) = some (Q_1.mk _ _ _ _ _ _ _ _ _ _ _ _ _ _ _ _ _ _ _)
    simp only [chE, cond_false, a1, a2, a3, b1, b2, d1, d2, e1, e2]
    rfl
  · rw [ctrue rfl]
    simp only [chE, cond_true]
    refine loopO_for (fun i => match i with
      | 0 => ((0 : Int), S.c0.volume, S.c0.left, S.c1.volume, S.c1.left, S.c2.volume, S.c2.left, S.c3.volume, S.c3.left)
      | 1 => ((1 : Int), envV (chS (Int.tmod (bt S) 4 == 0) (chL (Int.tmod (bt S) 2 == 0) S.c0)).on (chS (Int.tmod (bt S) 4 == 0) (chL (Int.tmod (bt S) 2 == 0) S.c0)), envL (chS (Int.tmod (bt S) 4 == 0) (chL (Int.tmod (bt S) 2 == 0) S.c0)).on (chS (Int.tmod (bt S) 4 == 0) (chL (Int.tmod (bt S) 2 == 0) S.c0)), S.c1.volume, S.c1.left, S.c2.volume, S.c2.left, S.c3.volume, S.c3.left)
      | 2 => ((2 : Int), envV (chS (Int.tmod (bt S) 4 == 0) (chL (Int.tmod (bt S) 2 == 0) S.c0)).on (chS (Int.tmod (bt S) 4 == 0) (chL (Int.tmod (bt S) 2 == 0) S.c0)), envL (chS (Int.tmod (bt S) 4 == 0) (chL (Int.tmod (bt S) 2 == 0) S.c0)).on (chS (Int.tmod (bt S) 4 == 0) (chL (Int.tmod (bt S) 2 == 0) S.c0)), envV (chL (Int.tmod (bt S) 2 == 0) S.c1).on (chL (Int.tmod (bt S) 2 == 0) S.c1), envL (chL (Int.tmod (bt S) 2 == 0) S.c1).on (chL (Int.tmod (bt S) 2 == 0) S.c1), S.c2.volume, S.c2.left, S.c3.volume, S.c3.left)
      | 3 => ((3 : Int), envV (chS (Int.tmod (bt S) 4 == 0) (chL (Int.tmod (bt S) 2 == 0) S.c0)).on (chS (Int.tmod (bt S) 4 == 0) (chL (Int.tmod (bt S) 2 == 0) S.c0)), envL (chS (Int.tmod (bt S) 4 == 0) (chL (Int.tmod (bt S) 2 == 0) S.c0)).on (chS (Int.tmod (bt S) 4 == 0) (chL (Int.tmod (bt S) 2 == 0) S.c0)), envV (chL (Int.tmod (bt S) 2 == 0) S.c1).on (chL (Int.tmod (bt S) 2 == 0) S.c1), envL (chL (Int.tmod (bt S) 2 == 0) S.c1).on (chL (Int.tmod (bt S) 2 == 0) S.c1), S.c2.volume, S.c2.left, S.c3.volume, S.c3.left)
      | _ => ((4 : Int), envV (chS (Int.tmod (bt S) 4 == 0) (chL (Int.tmod (bt S) 2 == 0) S.c0)).on (chS (Int.tmod (bt S) 4 == 0) (chL (Int.tmod (bt S) 2 == 0) S.c0)), envL (chS (Int.tmod (bt S) 4 == 0) (chL (Int.tmod (bt S) 2 == 0) S.c0)).on (chS (Int.tmod (bt S) 4 == 0) (chL (Int.tmod (bt S) 2 == 0) S.c0)), envV (chL (Int.tmod (bt S) 2 == 0) S.c1).on (chL (Int.tmod (bt S) 2 == 0) S.c1), envL (chL (Int.tmod (bt S) 2 == 0) S.c1).on (chL (Int.tmod (bt S) 2 == 0) S.c1), S.c2.volume, S.c2.left, envV (chL (Int.tmod (bt S) 2 == 0) S.c3).on (chL (Int.tmod (bt S) 2 == 0) S.c3), envL (chL (Int.tmod (bt S) 2 == 0) S.c3).on (chL (Int.tmod (bt S) 2 == 0) S.c3))) 4 ?_ ?_
    rotate_left
    · show some (Sum.inr (Q_1.mk _ _ _ _ _ _ _ _ _ _ _ _ _ _ _ _ _ _ _)) = some (Sum.inr (Q_1.mk _ _ _ _ _ _ _ _ _ _ _ _ _ _ _ _ _ _ _))
      simp only [a3, d1, d2]
      rfl
    intro i hi
    have env : ∀ {α : Type} (c : Ch) (F : Int → Int → α), (((cond c.on (some (decide (c.step > 0))) (some false)) : Option Bool).bind fun s106 => cond s106 (cond (IntKind.wrap .i64 (c.left - 1) == 0) (cond c.up (cond (decide (c.volume < 15)) (some (F (IntKind.wrap .i64 (c.volume + 1)) c.step)) (cond (!c.up) (cond (decide (c.volume > 0)) (some (F (IntKind.wrap .i64 (c.volume - 1)) c.step)) (some (F c.volume c.step))) (some (F c.volume c.step)))) (cond (!c.up) (cond (decide (c.volume > 0)) (some (F (IntKind.wrap .i64 (c.volume - 1)) c.step)) (some (F c.volume c.step))) (some (F c.volume c.step)))) (some (F c.volume (IntKind.wrap .i64 (c.left - 1))))) (some (F c.volume c.left))) = some (F (envV c.on c) (envL c.on c)) := by
      intro α c F
      unfold envV envL
      cases c.on
      · rfl
      cases (decide (c.step > 0))
      · rfl
      cases (IntKind.wrap .i64 (c.left - 1) == 0)
      · rfl
      cases c.up
      · cases (decide (c.volume > 0)) <;> rfl
      · cases (decide (c.volume < 15)) <;> rfl
    obtain rfl | rfl | rfl | rfl : i = 0 ∨ i = 1 ∨ i = 2 ∨ i = 3 := by omega
    · have := env (chS (Int.tmod (bt S) 4 == 0) (chL (Int.tmod (bt S) 2 == 0) S.c0)) (fun v l => (Sum.inl ((1 : Int), v, l, S.c1.volume, S.c1.left, S.c2.volume, S.c2.left, S.c3.volume, S.c3.left) : (Int × Int × Int × Int × Int × Int × Int × Int × Int) ⊕ O_beat))
      rw [a1, a2, a4, a5] at this
      exact this
    · have := env (chL (Int.tmod (bt S) 2 == 0) S.c1) (fun v l => (Sum.inl ((2 : Int), envV (chS (Int.tmod (bt S) 4 == 0) (chL (Int.tmod (bt S) 2 == 0) S.c0)).on (chS (Int.tmod (bt S) 4 == 0) (chL (Int.tmod (bt S) 2 == 0) S.c0)), envL (chS (Int.tmod (bt S) 4 == 0) (chL (Int.tmod (bt S) 2 == 0) S.c0)).on (chS (Int.tmod (bt S) 4 == 0) (chL (Int.tmod (bt S) 2 == 0) S.c0)), v, l, S.c2.volume, S.c2.left, S.c3.volume, S.c3.left) : (Int × Int × Int × Int × Int × Int × Int × Int × Int) ⊕ O_beat))
      rw [b1, b2, b3, b4] at this
      exact this
    · rfl
    · have := env (chL (Int.tmod (bt S) 2 == 0) S.c3) (fun v l => (Sum.inl ((4 : Int), envV (chS (Int.tmod (bt S) 4 == 0) (chL (Int.tmod (bt S) 2 == 0) S.c0)).on (chS (Int.tmod (bt S) 4 == 0) (chL (Int.tmod (bt S) 2 == 0) S.c0)), envL (chS (Int.tmod (bt S) 4 == 0) (chL (Int.tmod (bt S) 2 == 0) S.c0)).on (chS (Int.tmod (bt S) 4 == 0) (chL (Int.tmod (bt S) 2 == 0) S.c0)), envV (chL (Int.tmod (bt S) 2 == 0) S.c1).on (chL (Int.tmod (bt S) 2 == 0) S.c1), envL (chL (Int.tmod (bt S) 2 == 0) S.c1).on (chL (Int.tmod (bt S) 2 == 0) S.c1), S.c2.volume, S.c2.left, v, l) : (Int × Int × Int × Int × Int × Int × Int × Int × Int) ⊕ O_beat))
      rw [e1, e2, e3, e4] at this
      exact this
end Go.Proofs.Ytccmpceifheejaa
