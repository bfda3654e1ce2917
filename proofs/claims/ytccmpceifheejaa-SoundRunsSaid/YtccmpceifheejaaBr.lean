/-
  A beat of the document's channels.
-/
import Derived.Test.YtccmpceifheejaaBt
namespace Go.Proofs.Ytccmpceifheejaa
open Go.Vc
set_option linter.unusedVariables false
set_option linter.unusedSimpArgs false
theorem env_r {α : Type} (c : Ch) (h0 : 0 ≤ c.step) (hv : 0 ≤ c.volume ∧ c.volume ≤ 15) (F : Int → Int → α) : cond (!c.on) (some (F c.volume c.left)) (cond (c.step == 0) (some (F c.volume c.left)) (cond (IntKind.wrap .i64 (c.left - 1) != 0) (some (F c.volume (IntKind.wrap .i64 (c.left - 1)))) (cond c.up (some (F (if IntKind.wrap .i64 (c.volume + 1) < 15 then IntKind.wrap .i64 (c.volume + 1) else 15) c.step)) (some (F (if IntKind.wrap .i64 (c.volume - 1) > 0 then IntKind.wrap .i64 (c.volume - 1) else 0) c.step))))) = some (F (envV c.on c) (envL c.on c)) := by
  unfold envV envL
  cases c.on
  · rfl
  by_cases hs : c.step = 0
  · rw [ceq hs, show decide (c.step > 0) = false from decide_eq_false (by omega)]; rfl
  rw [cne hs, show decide (c.step > 0) = true from decide_eq_true (by omega)]
  show cond (!(IntKind.wrap .i64 (c.left - 1) == 0)) _ _ = _
  cases (IntKind.wrap .i64 (c.left - 1) == 0)
  · rfl
  cases c.up
  · simp only [cond_true, cond_false, Bool.not_true, Bool.not_false]
    rw [wrap_i64 (x := c.volume - 1) (by omega) (by omega)]
    by_cases k : c.volume > 0
    · rw [cpos k]
      by_cases k1 : c.volume - 1 > 0
      · rw [if_pos k1]
      · rw [if_neg k1, show c.volume - 1 = 0 by omega]
    · rw [cneg k, if_neg (by omega), show c.volume = 0 by omega]
  · simp only [cond_true, cond_false, Bool.not_true, Bool.not_false]
    rw [wrap_i64 (x := c.volume + 1) (by omega) (by omega)]
    by_cases k : c.volume < 15
    · rw [cpos k]
      by_cases k1 : c.volume + 1 < 15
      · rw [if_pos k1]
      · rw [if_neg k1, show c.volume + 1 = 15 by omega]
    · rw [cneg k, if_neg (by omega), show c.volume = 15 by omega]
set_option maxHeartbeats 4000000 in
theorem rbeat_eq (U : US) {S : PS} (hS : U.ps = S) (h : GOk S) : k_rbeat U = some (r_rbeat { U with ps := beatA S }) := by
  subst hS
  obtain ⟨u0, u1, u2, u3, u4, u5, u6, u7, u8, u9, u10, u11, u12, S⟩ := U
  unfold k_rbeat rA f_rbeat
  refine (bind_of ((chL (Int.tmod (bt S) 2 == 0) S.c0).on, (chL (Int.tmod (bt S) 2 == 0) S.c0).length, (chL (Int.tmod (bt S) 2 == 0) S.c1).on, (chL (Int.tmod (bt S) 2 == 0) S.c1).length, (chL (Int.tmod (bt S) 2 == 0) S.c2).on, (chL (Int.tmod (bt S) 2 == 0) S.c2).length, (chL (Int.tmod (bt S) 2 == 0) S.c3).on, (chL (Int.tmod (bt S) 2 == 0) S.c3).length) ?_).trans ?_
  · have hlen : ∀ {α : Type} (c : Ch) (F : Bool → Int → α), cond c.on (cond c.ul (some (F (IntKind.wrap .i64 (c.length - 1) != 0) (IntKind.wrap .i64 (c.length - 1)))) (some (F c.on c.length))) (some (F c.on c.length)) = some (F (lenOn c) (lenL c)) := by
      intro α c F
      unfold lenOn lenL
      cases c.on
      · rfl
      cases c.ul <;> rfl
    generalize he : (Int.tmod (bt S) 2 == 0) = e
    cases e
    · refine loopO_for (fun _ => ((0 : Int), S.c0.on, S.c0.length, S.c1.on, S.c1.length, S.c2.on, S.c2.length, S.c3.on, S.c3.length)) 0 (fun i hi => by omega) ?_
      show cond (Int.tmod (bt S) 2 == 0) _ _ = _
      rw [he]
      rfl
    refine loopO_for (fun i => match i with
      | 0 => ((0 : Int), S.c0.on, S.c0.length, S.c1.on, S.c1.length, S.c2.on, S.c2.length, S.c3.on, S.c3.length)
      | 1 => ((1 : Int), lenOn S.c0, lenL S.c0, S.c1.on, S.c1.length, S.c2.on, S.c2.length, S.c3.on, S.c3.length)
      | 2 => ((2 : Int), lenOn S.c0, lenL S.c0, lenOn S.c1, lenL S.c1, S.c2.on, S.c2.length, S.c3.on, S.c3.length)
      | 3 => ((3 : Int), lenOn S.c0, lenL S.c0, lenOn S.c1, lenL S.c1, lenOn S.c2, lenL S.c2, S.c3.on, S.c3.length)
      | _ => ((4 : Int), lenOn S.c0, lenL S.c0, lenOn S.c1, lenL S.c1, lenOn S.c2, lenL S.c2, lenOn S.c3, lenL S.c3)) 4 ?_ ?_
    rotate_left
    · rfl
    intro i hi
    obtain rfl | rfl | rfl | rfl : i = 0 ∨ i = 1 ∨ i = 2 ∨ i = 3 := by omega
    · show cond (Int.tmod (bt S) 2 == 0) _ _ = _
      rw [he]
      exact hlen S.c0 (fun v l => (Sum.inl ((1 : Int), v, l, S.c1.on, S.c1.length, S.c2.on, S.c2.length, S.c3.on, S.c3.length) : (Int × Bool × Int × Bool × Int × Bool × Int × Bool × Int) ⊕ (Bool × Int × Bool × Int × Bool × Int × Bool × Int)))
    · show cond (Int.tmod (bt S) 2 == 0) _ _ = _
      rw [he]
      exact hlen S.c1 (fun v l => (Sum.inl ((2 : Int), lenOn S.c0, lenL S.c0, v, l, S.c2.on, S.c2.length, S.c3.on, S.c3.length) : (Int × Bool × Int × Bool × Int × Bool × Int × Bool × Int) ⊕ (Bool × Int × Bool × Int × Bool × Int × Bool × Int)))
    · show cond (Int.tmod (bt S) 2 == 0) _ _ = _
      rw [he]
      exact hlen S.c2 (fun v l => (Sum.inl ((3 : Int), lenOn S.c0, lenL S.c0, lenOn S.c1, lenL S.c1, v, l, S.c3.on, S.c3.length) : (Int × Bool × Int × Bool × Int × Bool × Int × Bool × Int) ⊕ (Bool × Int × Bool × Int × Bool × Int × Bool × Int)))
    · show cond (Int.tmod (bt S) 2 == 0) _ _ = _
      rw [he]
      exact hlen S.c3 (fun v l => (Sum.inl ((4 : Int), lenOn S.c0, lenL S.c0, lenOn S.c1, lenL S.c1, lenOn S.c2, lenL S.c2, v, l) : (Int × Bool × Int × Bool × Int × Bool × Int × Bool × Int) ⊕ (Bool × Int × Bool × Int × Bool × Int × Bool × Int)))
  have h : GOk S := h
  have hc := chL_ok h.c0 (Int.tmod (bt S) 2 == 0)
  refine (bind_of ((chS (Int.tmod (bt S) 4 == 0) (chL (Int.tmod (bt S) 2 == 0) S.c0)).on, (chS (Int.tmod (bt S) 4 == 0) (chL (Int.tmod (bt S) 2 == 0) S.c0)).freq, (chS (Int.tmod (bt S) 4 == 0) (chL (Int.tmod (bt S) 2 == 0) S.c0)).sweepLeft) ?_).trans ?_
  · show cond (Int.tmod (bt S) 4 == 0) _ _ = _
    have z1 : ∀ e, (chL e S.c0).freq = S.c0.freq ∧ (chL e S.c0).sweepLeft = S.c0.sweepLeft ∧ sw3 (chL e S.c0) = swv (chL e S.c0).on S.c0.freq S.c0.sweepBy S.c0.sweepIn S.c0.sweepDown S.c0.sweepLeft := fun e => by cases e <;> exact ⟨rfl, rfl, rfl⟩
    cases (Int.tmod (bt S) 4 == 0)
    · show some ((chL (Int.tmod (bt S) 2 == 0) S.c0).on, S.c0.freq, S.c0.sweepLeft) = some ((chL (Int.tmod (bt S) 2 == 0) S.c0).on, (chL (Int.tmod (bt S) 2 == 0) S.c0).freq, (chL (Int.tmod (bt S) 2 == 0) S.c0).sweepLeft)
      rw [(z1 _).1, (z1 _).2.1]
    · rw [ctrue rfl, rsweep_v h.c0.f h.c0.b, bind_some']
      show some ((swv (chL (Int.tmod (bt S) 2 == 0) S.c0).on S.c0.freq S.c0.sweepBy S.c0.sweepIn S.c0.sweepDown S.c0.sweepLeft).1, (swv (chL (Int.tmod (bt S) 2 == 0) S.c0).on S.c0.freq S.c0.sweepBy S.c0.sweepIn S.c0.sweepDown S.c0.sweepLeft).2.1, (swv (chL (Int.tmod (bt S) 2 == 0) S.c0).on S.c0.freq S.c0.sweepBy S.c0.sweepIn S.c0.sweepDown S.c0.sweepLeft).2.2) = _
      rw [← (z1 _).2.2]
      rfl
  unfold beatA
  have z0 : ∀ e e', (chS e (chL e' S.c0)).volume = S.c0.volume ∧ (chS e (chL e' S.c0)).left = S.c0.left ∧ (chS e (chL e' S.c0)).length = (chL e' S.c0).length ∧ (chS e (chL e' S.c0)).step = S.c0.step ∧ (chS e (chL e' S.c0)).up = S.c0.up := fun e e' => by cases e <;> cases e' <;> exact ⟨rfl, rfl, rfl, rfl, rfl⟩
  have z2 : ∀ e' (c : Ch), (chL e' c).volume = c.volume ∧ (chL e' c).left = c.left ∧ (chL e' c).step = c.step ∧ (chL e' c).up = c.up := fun e' c => by cases e' <;> exact ⟨rfl, rfl, rfl, rfl⟩
  obtain ⟨a1, a2, a3, a4, a5⟩ := z0 (Int.tmod (bt S) 4 == 0) (Int.tmod (bt S) 2 == 0)
  obtain ⟨b1, b2, b3, b4⟩ := z2 (Int.tmod (bt S) 2 == 0) S.c1
  obtain ⟨d1, d2, d3, d4⟩ := z2 (Int.tmod (bt S) 2 == 0) S.c2
  obtain ⟨e1, e2, e3, e4⟩ := z2 (Int.tmod (bt S) 2 == 0) S.c3
  generalize he : (Int.tmod (bt S) 8 == 0) = e8
  cases e8
  · refine loopO_for (fun _ => ((0 : Int), S.c0.volume, S.c0.left, S.c1.volume, S.c1.left, S.c2.volume, S.c2.left, S.c3.volume, S.c3.left)) 0 (fun i hi => by omega) ?_
    show cond (Int.tmod (bt S) 8 == 0) _ _ = _
    rw [he]
    show some (Sum.inr (Q_1.mk _ _ _ _ _ _ _ _ _ _ _ _ _ _ _ _ _ _ _)) = some (Sum.inr (Q_1.mk _ _ _ _ _ _ _ _ _ _ _ _ _ _ _ _ _ _ _))
    simp only [chE, cond_false, a1, a2, a3, b1, b2, d1, d2, e1, e2]
    rfl
  · simp only [chE, cond_true]
    refine loopO_for (fun i => match i with
      | 0 => ((0 : Int), S.c0.volume, S.c0.left, S.c1.volume, S.c1.left, S.c2.volume, S.c2.left, S.c3.volume, S.c3.left)
      | 1 => ((1 : Int), envV (chS (Int.tmod (bt S) 4 == 0) (chL (Int.tmod (bt S) 2 == 0) S.c0)).on (chS (Int.tmod (bt S) 4 == 0) (chL (Int.tmod (bt S) 2 == 0) S.c0)), envL (chS (Int.tmod (bt S) 4 == 0) (chL (Int.tmod (bt S) 2 == 0) S.c0)).on (chS (Int.tmod (bt S) 4 == 0) (chL (Int.tmod (bt S) 2 == 0) S.c0)), S.c1.volume, S.c1.left, S.c2.volume, S.c2.left, S.c3.volume, S.c3.left)
      | 2 => ((2 : Int), envV (chS (Int.tmod (bt S) 4 == 0) (chL (Int.tmod (bt S) 2 == 0) S.c0)).on (chS (Int.tmod (bt S) 4 == 0) (chL (Int.tmod (bt S) 2 == 0) S.c0)), envL (chS (Int.tmod (bt S) 4 == 0) (chL (Int.tmod (bt S) 2 == 0) S.c0)).on (chS (Int.tmod (bt S) 4 == 0) (chL (Int.tmod (bt S) 2 == 0) S.c0)), envV (chL (Int.tmod (bt S) 2 == 0) S.c1).on (chL (Int.tmod (bt S) 2 == 0) S.c1), envL (chL (Int.tmod (bt S) 2 == 0) S.c1).on (chL (Int.tmod (bt S) 2 == 0) S.c1), S.c2.volume, S.c2.left, S.c3.volume, S.c3.left)
      | 3 => ((3 : Int), envV (chS (Int.tmod (bt S) 4 == 0) (chL (Int.tmod (bt S) 2 == 0) S.c0)).on (chS (Int.tmod (bt S) 4 == 0) (chL (Int.tmod (bt S) 2 == 0) S.c0)), envL (chS (Int.tmod (bt S) 4 == 0) (chL (Int.tmod (bt S) 2 == 0) S.c0)).on (chS (Int.tmod (bt S) 4 == 0) (chL (Int.tmod (bt S) 2 == 0) S.c0)), envV (chL (Int.tmod (bt S) 2 == 0) S.c1).on (chL (Int.tmod (bt S) 2 == 0) S.c1), envL (chL (Int.tmod (bt S) 2 == 0) S.c1).on (chL (Int.tmod (bt S) 2 == 0) S.c1), S.c2.volume, S.c2.left, S.c3.volume, S.c3.left)
      | _ => ((4 : Int), envV (chS (Int.tmod (bt S) 4 == 0) (chL (Int.tmod (bt S) 2 == 0) S.c0)).on (chS (Int.tmod (bt S) 4 == 0) (chL (Int.tmod (bt S) 2 == 0) S.c0)), envL (chS (Int.tmod (bt S) 4 == 0) (chL (Int.tmod (bt S) 2 == 0) S.c0)).on (chS (Int.tmod (bt S) 4 == 0) (chL (Int.tmod (bt S) 2 == 0) S.c0)), envV (chL (Int.tmod (bt S) 2 == 0) S.c1).on (chL (Int.tmod (bt S) 2 == 0) S.c1), envL (chL (Int.tmod (bt S) 2 == 0) S.c1).on (chL (Int.tmod (bt S) 2 == 0) S.c1), S.c2.volume, S.c2.left, envV (chL (Int.tmod (bt S) 2 == 0) S.c3).on (chL (Int.tmod (bt S) 2 == 0) S.c3), envL (chL (Int.tmod (bt S) 2 == 0) S.c3).on (chL (Int.tmod (bt S) 2 == 0) S.c3))) 4 ?_ ?_
    rotate_left
    · show some (Sum.inr (Q_1.mk _ _ _ _ _ _ _ _ _ _ _ _ _ _ _ _ _ _ _)) = some (Sum.inr (Q_1.mk _ _ _ _ _ _ _ _ _ _ _ _ _ _ _ _ _ _ _))
      simp only [a3, d1, d2]
      rfl
    intro i hi
    obtain rfl | rfl | rfl | rfl : i = 0 ∨ i = 1 ∨ i = 2 ∨ i = 3 := by omega
    · show cond (Int.tmod (bt S) 8 == 0) _ _ = _
      rw [he]
      have := env_r (chS (Int.tmod (bt S) 4 == 0) (chL (Int.tmod (bt S) 2 == 0) S.c0)) (by rw [a4]; exact h.c0.t) (by rw [a1]; exact h.c0.v) (fun v l => (Sum.inl ((1 : Int), v, l, S.c1.volume, S.c1.left, S.c2.volume, S.c2.left, S.c3.volume, S.c3.left) : (Int × Int × Int × Int × Int × Int × Int × Int × Int) ⊕ O_rbeat))
      rw [a1, a2, a4, a5] at this
      exact this
    · show cond (Int.tmod (bt S) 8 == 0) _ _ = _
      rw [he]
      have := env_r (chL (Int.tmod (bt S) 2 == 0) S.c1) (by rw [b3]; exact h.c1.t) (by rw [b1]; exact h.c1.v) (fun v l => (Sum.inl ((2 : Int), envV (chS (Int.tmod (bt S) 4 == 0) (chL (Int.tmod (bt S) 2 == 0) S.c0)).on (chS (Int.tmod (bt S) 4 == 0) (chL (Int.tmod (bt S) 2 == 0) S.c0)), envL (chS (Int.tmod (bt S) 4 == 0) (chL (Int.tmod (bt S) 2 == 0) S.c0)).on (chS (Int.tmod (bt S) 4 == 0) (chL (Int.tmod (bt S) 2 == 0) S.c0)), v, l, S.c2.volume, S.c2.left, S.c3.volume, S.c3.left) : (Int × Int × Int × Int × Int × Int × Int × Int × Int) ⊕ O_rbeat))
      rw [b1, b2, b3, b4] at this
      exact this
    · show cond (Int.tmod (bt S) 8 == 0) _ _ = _
      rw [he]
      rfl
    · show cond (Int.tmod (bt S) 8 == 0) _ _ = _
      rw [he]
      have := env_r (chL (Int.tmod (bt S) 2 == 0) S.c3) (by rw [e3]; exact h.c3.t) (by rw [e1]; exact h.c3.v) (fun v l => (Sum.inl ((4 : Int), envV (chS (Int.tmod (bt S) 4 == 0) (chL (Int.tmod (bt S) 2 == 0) S.c0)).on (chS (Int.tmod (bt S) 4 == 0) (chL (Int.tmod (bt S) 2 == 0) S.c0)), envL (chS (Int.tmod (bt S) 4 == 0) (chL (Int.tmod (bt S) 2 == 0) S.c0)).on (chS (Int.tmod (bt S) 4 == 0) (chL (Int.tmod (bt S) 2 == 0) S.c0)), envV (chL (Int.tmod (bt S) 2 == 0) S.c1).on (chL (Int.tmod (bt S) 2 == 0) S.c1), envL (chL (Int.tmod (bt S) 2 == 0) S.c1).on (chL (Int.tmod (bt S) 2 == 0) S.c1), S.c2.volume, S.c2.left, v, l) : (Int × Int × Int × Int × Int × Int × Int × Int × Int) ⊕ O_rbeat))
      rw [e1, e2, e3, e4] at this
      exact this
end Go.Proofs.Ytccmpceifheejaa
