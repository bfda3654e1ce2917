/-
  The channels' waves go on: the program at once, the document cycle by cycle.
-/
import Derived.Test.YtccmpceifheejaaCc
namespace Go.Proofs.Ytccmpceifheejaa
open Go.Vc
set_option linter.unusedVariables false
set_option linter.unusedSimpArgs false
structure COk (m : Int) (c : Ch) : Prop where
  w : c.on = true → 0 < c.wait ∧ c.wait ≤ 2147483648
  a : 0 ≤ c.at' ∧ c.at' < m
  f : 0 ≤ c.freq ∧ c.freq < 2048
  v : 0 ≤ c.volume ∧ c.volume ≤ 15
  s : 0 ≤ c.start ∧ c.start ≤ 15
  d : 0 ≤ c.duty ∧ c.duty < 4
  b : 0 ≤ c.sweepBy ∧ c.sweepBy < 8
  t : 0 ≤ c.step
structure GOk (S : PS) : Prop where
  c0 : COk 8 S.c0
  c1 : COk 8 S.c1
  c2 : COk 64 S.c2
  c3 : COk 8 S.c3
  lf : 0 ≤ S.lfsr ∧ S.lfsr < 32768
  dv : 0 ≤ S.div ∧ S.div < 8
  sh : 0 ≤ S.shift ∧ S.shift < 16
theorem GOk.wok {S : PS} (h : GOk S) : WOk S := ⟨fun k => (h.c0.w k).1, fun k => (h.c1.w k).1, fun k => (h.c2.w k).1, fun k => (h.c3.w k).1, h.c0.f, h.c1.f, h.c2.f, h.dv, h.sh⟩
theorem runc_ok {y m n : Int} {c : Ch} (h : COk m c) (hy : 0 < y ∧ y ≤ 2147483648) (hm : 0 < m) (hn : 0 ≤ n) : COk m (runc y m n c) := by
  unfold runc
  by_cases hon : c.on = true
  · rw [if_pos hon]
    have hw := h.w hon
    by_cases h1 : n < c.wait
    · rw [if_pos h1]
      exact ⟨fun _ => ⟨by show 0 < c.wait - n; omega, by show c.wait - n ≤ _; omega⟩, h.a, h.f, h.v, h.s, h.d, h.b, h.t⟩
    · rw [if_neg h1]
      have e1 := Int.emod_lt_of_pos (n - c.wait) hy.1
      have e2 := Int.emod_nonneg (n - c.wait) (Int.ne_of_gt hy.1)
      exact ⟨fun _ => ⟨by show 0 < y - _; omega, by show y - _ ≤ _; omega⟩, ⟨Int.emod_nonneg _ (Int.ne_of_gt hm), Int.emod_lt_of_pos _ hm⟩, h.f, h.v, h.s, h.d, h.b, h.t⟩
  · rw [if_neg hon]; exact h
theorem play_gok {S : PS} (h : GOk S) {n : Int} (hn : 0 ≤ n) : GOk (play S n) where
  c0 := runc_ok h.c0 (by unfold cyc0; have := h.c0.f; omega) (by decide) hn
  c1 := runc_ok h.c1 (by unfold cyc0; have := h.c1.f; omega) (by decide) hn
  c2 := runc_ok h.c2 (by unfold cyc2; have := h.c2.f; omega) (by decide) hn
  c3 := by
    have hr := cyc3_range h.dv h.sh
    refine ⟨fun k => ⟨nwait_pos hr.1 k, ?_⟩, h.c3.a, h.c3.f, h.c3.v, h.c3.s, h.c3.d, h.c3.b, h.c3.t⟩
    show nwait _ n S.c3 ≤ _
    have hw := h.c3.w k
    unfold nwait
    rw [if_pos (show S.c3.on = true from k)]
    split
    · omega
    · have e2 := Int.emod_nonneg (n - S.c3.wait) (Int.ne_of_gt hr.1)
      omega
  lf := clks_range h.lf.1 h.lf.2 _
  dv := h.dv
  sh := h.sh
theorem wait_on {c : Ch} {y m n : Int} (hon : c.on = true) (h : ¬ n < c.wait) : (runc y m n c).wait = y - (n - c.wait) % y ∧ (runc y m n c).at' = (c.at' + (1 + (n - c.wait) / y)) % m := by
  unfold runc; rw [if_pos hon, if_neg h]; exact ⟨rfl, rfl⟩
theorem wait_lo {c : Ch} {y m n : Int} (hon : c.on = true) (h : n < c.wait) : (runc y m n c).wait = c.wait - n ∧ (runc y m n c).at' = c.at' := by
  unfold runc; rw [if_pos hon, if_pos h]; exact ⟨rfl, rfl⟩
theorem wait_off {c : Ch} {y m n : Int} (hon : c.on = false) : (runc y m n c).wait = c.wait ∧ (runc y m n c).at' = c.at' := by
  unfold runc; rw [if_neg (by rw [hon]; decide)]; exact ⟨rfl, rfl⟩
theorem reck {y m n w a : Int} (hy : 0 < y ∧ y ≤ 2147483648) (hw : 0 < w ∧ w ≤ 2147483648) (hn : w ≤ n) (hn1 : n ≤ 2147483648) (ha : 0 ≤ a ∧ a < 64) :
    IntKind.wrap .i64 (y - (Int.tmod (IntKind.wrap .i64 (n - w)) y)) = y - (n - w) % y ∧ IntKind.wrap .i64 (1 + (IntKind.wrap .i64 (Int.tdiv (IntKind.wrap .i64 (n - w)) y))) = 1 + (n - w) / y ∧
    Int.tmod (IntKind.wrap .i64 (a + (1 + (n - w) / y))) m = (a + (1 + (n - w) / y)) % m ∧ 0 ≤ (n - w) / y ∧ (n - w) / y ≤ 2147483648 := by
  have e0 : 0 ≤ n - w := by omega
  have e1 := Int.emod_lt_of_pos (n - w) hy.1
  have e2 := Int.emod_nonneg (n - w) (Int.ne_of_gt hy.1)
  have e3 : 0 ≤ (n - w) / y := Int.ediv_nonneg e0 (by omega)
  have e4 : (n - w) / y ≤ n - w := Int.ediv_le_self _ e0
  rw [wrap_i64 (x := n - w) (by omega) (by omega), tmod_nn e0, tdiv_nn e0, wrap_i64 (x := (n - w) / y) (by omega) (by omega), wrap_i64 (x := y - (n - w) % y) (by omega) (by omega), wrap_i64 (x := 1 + (n - w) / y) (by omega) (by omega),
    wrap_i64 (x := a + (1 + (n - w) / y)) (by omega) (by omega), tmod_nn (by omega)]
  exact ⟨rfl, rfl, rfl, e3, by omega⟩
theorem freq16 {f : Int} (h : 0 ≤ f ∧ f < 2048) : IntKind.wrap .i64 (16 * IntKind.wrap .i64 (2048 - f)) = 16 * (2048 - f) := by
  rw [wrap_i64 (x := 2048 - f) (by omega) (by omega), wrap_i64 (by omega) (by omega)]
theorem freq8 {f : Int} (h : 0 ≤ f ∧ f < 2048) : IntKind.wrap .i64 (8 * IntKind.wrap .i64 (2048 - f)) = 8 * (2048 - f) := by
  rw [wrap_i64 (x := 2048 - f) (by omega) (by omega), wrap_i64 (by omega) (by omega)]
set_option maxHeartbeats 4000000 in
theorem play_eq {S : PS} (h : GOk S) {n : Int} (hn : 0 ≤ n) (hn1 : n ≤ 2147483648) : k_play S n = some (r_play (play S n)) := by
  unfold k_play pA f_play
  rw [cand (by decide) (by decide), cand (by decide) (by decide)]
  refine loopO_for (fun i => match i with
    | 0 => Q_0.mk 0 S.c0.wait S.c0.at' S.c1.wait S.c1.at' S.c2.wait S.c2.at' S.c3.wait S.c3.at' S.lfsr
    | 1 => Q_0.mk 1 (play S n).c0.wait (play S n).c0.at' S.c1.wait S.c1.at' S.c2.wait S.c2.at' S.c3.wait S.c3.at' S.lfsr
    | 2 => Q_0.mk 2 (play S n).c0.wait (play S n).c0.at' (play S n).c1.wait (play S n).c1.at' S.c2.wait S.c2.at' S.c3.wait S.c3.at' S.lfsr
    | 3 => Q_0.mk 3 (play S n).c0.wait (play S n).c0.at' (play S n).c1.wait (play S n).c1.at' (play S n).c2.wait (play S n).c2.at' S.c3.wait S.c3.at' S.lfsr
    | _ => Q_0.mk 4 (play S n).c0.wait (play S n).c0.at' (play S n).c1.wait (play S n).c1.at' (play S n).c2.wait (play S n).c2.at' (play S n).c3.wait S.c3.at' (play S n).lfsr) 4 ?_ ?_
  rotate_left
  · rfl
  intro i hi
  obtain rfl | rfl | rfl | rfl : i = 0 ∨ i = 1 ∨ i = 2 ∨ i = 3 := by omega
  · show cond (!S.c0.on) _ _ = _
    cases hon : S.c0.on
    · obtain ⟨e1, e2⟩ := wait_off (y := cyc0 S.c0) (m := 8) (n := n) hon
      rw [show (play S n).c0.wait = S.c0.wait from e1, show (play S n).c0.at' = S.c0.at' from e2]
      rfl
    · show cond (decide (n < S.c0.wait)) _ _ = _
      have hw := h.c0.w hon
      by_cases hl : n < S.c0.wait
      · obtain ⟨e1, e2⟩ := wait_lo (y := cyc0 S.c0) (m := 8) hon hl
        rw [cpos hl, show (play S n).c0.wait = S.c0.wait - n from e1, show (play S n).c0.at' = S.c0.at' from e2, wrap_i64 (x := S.c0.wait - n) (by omega) (by omega)]
        rfl
      · obtain ⟨e1, e2⟩ := wait_on (y := cyc0 S.c0) (m := 8) hon hl
        have hy : 0 < cyc0 S.c0 ∧ cyc0 S.c0 ≤ 2147483648 := by unfold cyc0; have := h.c0.f; omega
        obtain ⟨r1, r2, r3, _⟩ := reck (m := 8) hy hw (by omega) hn1 ⟨h.c0.a.1, by have := h.c0.a.2; omega⟩
        rw [cneg hl, cyc_0, freq16 h.c0.f, show 16 * (2048 - S.c0.freq) = cyc0 S.c0 from rfl, bind_some', cnot, cne (by omega), Let_eq, cnot, cne (by omega), r1, r2]
        show some (Sum.inl (Q_0.mk _ _ _ _ _ _ _ _ _ _)) = _
        rw [r3, show (play S n).c0.wait = _ from e1, show (play S n).c0.at' = _ from e2]
        rfl
  · show cond (!S.c1.on) _ _ = _
    cases hon : S.c1.on
    · obtain ⟨e1, e2⟩ := wait_off (y := cyc0 S.c1) (m := 8) (n := n) hon
      rw [show (play S n).c1.wait = S.c1.wait from e1, show (play S n).c1.at' = S.c1.at' from e2]
      rfl
    · show cond (decide (n < S.c1.wait)) _ _ = _
      have hw := h.c1.w hon
      by_cases hl : n < S.c1.wait
      · obtain ⟨e1, e2⟩ := wait_lo (y := cyc0 S.c1) (m := 8) hon hl
        rw [cpos hl, show (play S n).c1.wait = S.c1.wait - n from e1, show (play S n).c1.at' = S.c1.at' from e2, wrap_i64 (x := S.c1.wait - n) (by omega) (by omega)]
        rfl
      · obtain ⟨e1, e2⟩ := wait_on (y := cyc0 S.c1) (m := 8) hon hl
        have hy : 0 < cyc0 S.c1 ∧ cyc0 S.c1 ≤ 2147483648 := by unfold cyc0; have := h.c1.f; omega
        obtain ⟨r1, r2, r3, _⟩ := reck (m := 8) hy hw (by omega) hn1 ⟨h.c1.a.1, by have := h.c1.a.2; omega⟩
        rw [cneg hl, cyc_1, freq16 h.c1.f, show 16 * (2048 - S.c1.freq) = cyc0 S.c1 from rfl, bind_some', cnot, cne (by omega), Let_eq, cnot, cne (by omega), r1, r2]
        show some (Sum.inl (Q_0.mk _ _ _ _ _ _ _ _ _ _)) = _
        rw [r3, show (play S n).c1.wait = _ from e1, show (play S n).c1.at' = _ from e2]
        rfl
  · show cond (!S.c2.on) _ _ = _
    cases hon : S.c2.on
    · obtain ⟨e1, e2⟩ := wait_off (y := cyc2 S.c2) (m := 64) (n := n) hon
      rw [show (play S n).c2.wait = S.c2.wait from e1, show (play S n).c2.at' = S.c2.at' from e2]
      rfl
    · show cond (decide (n < S.c2.wait)) _ _ = _
      have hw := h.c2.w hon
      by_cases hl : n < S.c2.wait
      · obtain ⟨e1, e2⟩ := wait_lo (y := cyc2 S.c2) (m := 64) hon hl
        rw [cpos hl, show (play S n).c2.wait = S.c2.wait - n from e1, show (play S n).c2.at' = S.c2.at' from e2, wrap_i64 (x := S.c2.wait - n) (by omega) (by omega)]
        rfl
      · obtain ⟨e1, e2⟩ := wait_on (y := cyc2 S.c2) (m := 64) hon hl
        have hy : 0 < cyc2 S.c2 ∧ cyc2 S.c2 ≤ 2147483648 := by unfold cyc2; have := h.c2.f; omega
        obtain ⟨r1, r2, r3, _⟩ := reck (m := 64) hy hw (by omega) hn1 ⟨h.c2.a.1, h.c2.a.2⟩
        rw [cneg hl, cyc_2, freq8 h.c2.f, show 8 * (2048 - S.c2.freq) = cyc2 S.c2 from rfl, bind_some', cnot, cne (by omega), Let_eq, cnot, cne (by omega), r1, r2]
        show some (Sum.inl (Q_0.mk _ _ _ _ _ _ _ _ _ _)) = _
        rw [r3, show (play S n).c2.wait = _ from e1, show (play S n).c2.at' = _ from e2]
        rfl
  · show cond (!S.c3.on) _ _ = _
    cases hon : S.c3.on
    · have e1 : (play S n).c3.wait = S.c3.wait := by show nwait _ _ _ = _; unfold nwait; rw [if_neg (by rw [hon]; decide)]
      have e2 : (play S n).lfsr = S.lfsr := by show clks _ (nsteps _ _ _) _ = _; unfold nsteps; rw [if_neg (by rw [hon]; decide)]; rfl
      rw [e1, e2]
      rfl
    · show cond (decide (n < S.c3.wait)) _ _ = _
      have hw := h.c3.w hon
      by_cases hl : n < S.c3.wait
      · have e1 : (play S n).c3.wait = S.c3.wait - n := by show nwait _ _ _ = _; unfold nwait; rw [if_pos hon, if_pos hl]
        have e2 : (play S n).lfsr = S.lfsr := by show clks _ (nsteps _ _ _) _ = _; unfold nsteps; rw [if_pos hon, if_pos hl]; rfl
        rw [cpos hl, e1, e2, wrap_i64 (x := S.c3.wait - n) (by omega) (by omega)]
        rfl
      · have hy := cyc3_range h.dv h.sh
        have e1 : (play S n).c3.wait = cyc3 S.shift S.div - (n - S.c3.wait) % cyc3 S.shift S.div := by show nwait _ _ _ = _; unfold nwait; rw [if_pos hon, if_neg hl]
        obtain ⟨r1, r2, r3, q0, q1⟩ := reck (m := 64) (a := 0) (y := cyc3 S.shift S.div) ⟨hy.1, by omega⟩ hw (by omega) hn1 ⟨by decide, by decide⟩
        rw [cneg hl, cyc_3 h.dv h.sh, bind_some', cnot, cne (by omega), Let_eq, cnot, cne (by omega), r1, r2]
        have e2 : (play S n).lfsr = clks S.narrow (1 + (n - S.c3.wait) / cyc3 S.shift S.div).toNat S.lfsr := by show clks _ (nsteps _ _ _) _ = _; unfold nsteps; rw [if_pos hon, if_neg hl]
        rw [e1, e2]
        refine loopO_for (fun k => ((k : Int), clks S.narrow k S.lfsr)) (1 + (n - S.c3.wait) / cyc3 S.shift S.div).toNat (fun k hk => ?_) ?_
        · show cond (decide ((k : Int) < 1 + (n - S.c3.wait) / cyc3 S.shift S.div)) _ _ = _
          rw [cpos (by omega), clk_v (clks_range h.lf.1 h.lf.2 k), bind_some', wrap_i64 (x := (k : Int) + 1) (by omega) (by omega)]
          rfl
        · show cond (decide ((((1 + (n - S.c3.wait) / cyc3 S.shift S.div).toNat : Nat) : Int) < 1 + (n - S.c3.wait) / cyc3 S.shift S.div)) _ _ = _
          rw [cneg (by omega)]
          rfl
end Go.Proofs.Ytccmpceifheejaa
