/-
  What a side gives: the document.
-/
import Derived.Test.YtccmpceifheejaaSd
namespace Go.Proofs.Ytccmpceifheejaa
open Go.Vc
set_option linter.unusedVariables false
set_option linter.unusedSimpArgs false
set_option maxHeartbeats 4000000
theorem ceval {α : Type} {b : Bool} {x y r : α} (hb : b = true) (h : x = r) : cond b x y = r := by subst hb; exact h
theorem cevalF {α : Type} {b : Bool} {x y r : α} (hb : b = false) (h : y = r) : cond b x y = r := by subst hb; exact h
theorem ff_r {α : Type} {b2 : Bool} {s n : Int} (hs : -2000 ≤ s ∧ s ≤ 2000) (hn : -128 ≤ n ∧ n ≤ 127) (F : Int → α) :
    cond b2 (Let ((IntKind.wrap .i64 (IntKind.wrap .i64 (s + IntKind.wrap .i64 (2 * n)) + (IntKind.wrap .i64 (2 * n)))) : Int) fun s9 => some (F s9)) (some (F (IntKind.wrap .i64 (s + (IntKind.wrap .i64 (2 * n)))))) = some (F (fA true b2 s n)) := by
  rw [Let_eq, wrap_i64 (x := 2 * n) (by omega) (by omega), wrap_i64 (x := s + 2 * n) (by omega) (by omega), wrap_i64 (x := s + 2 * n + 2 * n) (by omega) (by omega), show s + 2 * n + 2 * n = s + 4 * n by omega]
  cases b2 <;> rfl
theorem rside0_eq {U : US} (h : UOk U) : k_rside U 0 = some (side0 U) := by
  have r1 := ad_range (b := btm U.mix 8) (s := 0) (m := 0) ⟨Int.le_refl 0, Int.le_refl 0⟩ (oSq_range h.g.c0) (by decide)
  have r2 := ad_range (b := btm U.mix 9) r1 (oSq_range h.g.c1) (by decide)
  have r3 := ad_range (b := btm U.mix 10) (x := 0) r2 ⟨by decide, by decide⟩ (by decide)
  have r4 := ad_range (b := btm U.mix 11) r3 (oNz_range h.g) (by decide)
  have r5 := gA_range (m := U.mix) (j := 0) r4
  have r6 := shA_range (d := U.dir) r5
  have r7 := fA_range (b := btm U.dir 8) (b2 := btm U.dir 2) r6 h.a0
  have r8 := fA_range (b := btm U.dir 12) (b2 := btm U.dir 3) r7 h.a1
  unfold k_rside rA f_rside side0
  cases U.ma
  · rfl
  refine (bind_of _ (rOut_eq U rfl h.g h.p)).trans ?_
  refine loopO_for (fun i => match i with
    | 0 => ((0 : Int), (0 : Int))
    | 1 => ((ad (btm U.mix 8) 0 (oSq U.ps.c0)), (1 : Int))
    | 2 => ((ad (btm U.mix 9) (ad (btm U.mix 8) 0 (oSq U.ps.c0)) (oSq U.ps.c1)), (2 : Int))
    | 3 => ((ad (btm U.mix 10) (ad (btm U.mix 9) (ad (btm U.mix 8) 0 (oSq U.ps.c0)) (oSq U.ps.c1)) 0), (3 : Int))
    | _ => ((ad (btm U.mix 11) (ad (btm U.mix 10) (ad (btm U.mix 9) (ad (btm U.mix 8) 0 (oSq U.ps.c0)) (oSq U.ps.c1)) 0) (oNz U.ps)), (4 : Int))) 4 ?_ ?_
  · intro i hi
    obtain rfl | rfl | rfl | rfl : i = 0 ∨ i = 1 ∨ i = 2 ∨ i = 3 := by omega
    · refine ceval (by rfl) ?_
      refine (bind_of _ (br h.m 8 (by decide) rfl)).trans ?_
      show cond (btm U.mix 8) _ _ = _
      cases (btm U.mix 8) <;> rfl
    · refine ceval (by rfl) ?_
      refine (bind_of _ (br h.m 9 (by decide) rfl)).trans ?_
      show cond (btm U.mix 9) _ _ = _
      cases (btm U.mix 9) <;> rfl
    · refine ceval (by rfl) ?_
      refine (bind_of _ (br h.m 10 (by decide) rfl)).trans ?_
      show cond (btm U.mix 10) _ _ = _
      cases (btm U.mix 10) <;> rfl
    · refine ceval (by rfl) ?_
      refine (bind_of _ (br h.m 11 (by decide) rfl)).trans ?_
      show cond (btm U.mix 11) _ _ = _
      cases (btm U.mix 11) <;> rfl
  · show cond (decide (0 ≤ (IntKind.wrap .i64 (4 * (0 : Int))))) _ none = _
    rw [cpos (by decide)]
    have e := gain_r (s := (ad (btm U.mix 11) (ad (btm U.mix 10) (ad (btm U.mix 9) (ad (btm U.mix 8) 0 (oSq U.ps.c0)) (oSq U.ps.c1)) 0) (oNz U.ps))) r4 h.m 0 (by decide)
    obtain ⟨q1, q2, q3, q4⟩ := sh_r (g := gA (ad (btm U.mix 11) (ad (btm U.mix 10) (ad (btm U.mix 9) (ad (btm U.mix 8) 0 (oSq U.ps.c0)) (oSq U.ps.c1)) 0) (oNz U.ps)) U.mix 0) r5 h.d
    show cond (decide (0 ≤ (Int.tmod U.dir 4)) && decide ((Int.tmod U.dir 4) < ((4 : Nat) : Int))) _ _ = _
    rw [cand q1 q2]
    show cond (!(ixL ([4, 2, 1, 1] : List Int) (Int.tmod U.dir 4) == 0)) _ _ = _
    rw [cnot, cne q3]
    refine (congrArg (fun z => loopO _ z) (show (IntKind.wrap .i64 (Int.tdiv (IntKind.wrap .i64 ((ad (btm U.mix 11) (ad (btm U.mix 10) (ad (btm U.mix 9) (ad (btm U.mix 8) 0 (oSq U.ps.c0)) (oSq U.ps.c1)) 0) (oNz U.ps)) * (IntKind.wrap .i64 ((IntKind.wrap .i64 (Int.tmod (Int.fdiv U.mix (2 ^ 0)) 8)) + 1)))) (ixL ([4, 2, 1, 1] : List Int) (Int.tmod U.dir 4))), (0 : Int)) = ((shA (gA (ad (btm U.mix 11) (ad (btm U.mix 10) (ad (btm U.mix 9) (ad (btm U.mix 8) 0 (oSq U.ps.c0)) (oSq U.ps.c1)) 0) (oNz U.ps)) U.mix 0) U.dir), (0 : Int)) from by rw [e, q4])).trans ?_
    refine loopO_for (fun i => match i with
      | 0 => ((shA (gA (ad (btm U.mix 11) (ad (btm U.mix 10) (ad (btm U.mix 9) (ad (btm U.mix 8) 0 (oSq U.ps.c0)) (oSq U.ps.c1)) 0) (oNz U.ps)) U.mix 0) U.dir), (0 : Int))
      | 1 => ((fA (btm U.dir 8) (btm U.dir 2) (shA (gA (ad (btm U.mix 11) (ad (btm U.mix 10) (ad (btm U.mix 9) (ad (btm U.mix 8) 0 (oSq U.ps.c0)) (oSq U.ps.c1)) 0) (oNz U.ps)) U.mix 0) U.dir) U.n0), (1 : Int))
      | _ => ((fA (btm U.dir 12) (btm U.dir 3) (fA (btm U.dir 8) (btm U.dir 2) (shA (gA (ad (btm U.mix 11) (ad (btm U.mix 10) (ad (btm U.mix 9) (ad (btm U.mix 8) 0 (oSq U.ps.c0)) (oSq U.ps.c1)) 0) (oNz U.ps)) U.mix 0) U.dir) U.n0) U.n1), (2 : Int))) 2 ?_ ?_
    · intro i hi
      obtain rfl | rfl : i = 0 ∨ i = 1 := by omega
      · refine ceval (by rfl) ?_
        refine (bind_of _ (br h.d 8 (by decide) rfl)).trans ?_
        show cond (btm U.dir 8) _ _ = some (Sum.inl ((fA (btm U.dir 8) (btm U.dir 2) (shA (gA (ad (btm U.mix 11) (ad (btm U.mix 10) (ad (btm U.mix 9) (ad (btm U.mix 8) 0 (oSq U.ps.c0)) (oSq U.ps.c1)) 0) (oNz U.ps)) U.mix 0) U.dir) U.n0), (1 : Int)))
        cases (btm U.dir 8)
        · rfl
        · refine ceval (by rfl) (ceval (by rfl) (ceval (by rfl) ?_))
          rw [Let_eq]
          refine (bind_of _ (br h.d 2 (by decide) rfl)).trans ?_
          exact ff_r ⟨by omega, by omega⟩ h.a0 (fun v => (Sum.inl (v, (1 : Int)) : (Int × Int) ⊕ ((Int × Int) ⊕ O_rside)))
      · refine ceval (by rfl) ?_
        refine (bind_of _ (br h.d 12 (by decide) rfl)).trans ?_
        show cond (btm U.dir 12) _ _ = some (Sum.inl ((fA (btm U.dir 12) (btm U.dir 3) (fA (btm U.dir 8) (btm U.dir 2) (shA (gA (ad (btm U.mix 11) (ad (btm U.mix 10) (ad (btm U.mix 9) (ad (btm U.mix 8) 0 (oSq U.ps.c0)) (oSq U.ps.c1)) 0) (oNz U.ps)) U.mix 0) U.dir) U.n0) U.n1), (2 : Int)))
        have r7' := r7
        generalize (fA (btm U.dir 8) (btm U.dir 2) (shA (gA (ad (btm U.mix 11) (ad (btm U.mix 10) (ad (btm U.mix 9) (ad (btm U.mix 8) 0 (oSq U.ps.c0)) (oSq U.ps.c1)) 0) (oNz U.ps)) U.mix 0) U.dir) U.n0) = z at r7' ⊢
        cases (btm U.dir 12)
        · rfl
        · refine ceval (by rfl) (ceval (by rfl) (cevalF (by rfl) ?_))
          rw [Let_eq]
          refine (bind_of _ (br h.d 3 (by decide) rfl)).trans ?_
          exact ff_r ⟨by omega, by omega⟩ h.a1 (fun v => (Sum.inl (v, (2 : Int)) : (Int × Int) ⊕ ((Int × Int) ⊕ O_rside)))
    · exact cl_r ⟨by omega, by omega⟩ h.b
theorem rside1_eq {U : US} (h : UOk U) : k_rside U 1 = some (side1 U) := by
  have r1 := ad_range (b := btm U.mix 12) (s := 0) (m := 0) ⟨Int.le_refl 0, Int.le_refl 0⟩ (oSq_range h.g.c0) (by decide)
  have r2 := ad_range (b := btm U.mix 13) r1 (oSq_range h.g.c1) (by decide)
  have r3 := ad_range (b := btm U.mix 14) (x := 0) r2 ⟨by decide, by decide⟩ (by decide)
  have r4 := ad_range (b := btm U.mix 15) r3 (oNz_range h.g) (by decide)
  have r5 := gA_range (m := U.mix) (j := 4) r4
  have r6 := shA_range (d := U.dir) r5
  have r7 := fA_range (b := btm U.dir 9) (b2 := btm U.dir 2) r6 h.a0
  have r8 := fA_range (b := btm U.dir 13) (b2 := btm U.dir 3) r7 h.a1
  unfold k_rside rA f_rside side1
  cases U.ma
  · rfl
  refine (bind_of _ (rOut_eq U rfl h.g h.p)).trans ?_
  refine loopO_for (fun i => match i with
    | 0 => ((0 : Int), (0 : Int))
    | 1 => ((ad (btm U.mix 12) 0 (oSq U.ps.c0)), (1 : Int))
    | 2 => ((ad (btm U.mix 13) (ad (btm U.mix 12) 0 (oSq U.ps.c0)) (oSq U.ps.c1)), (2 : Int))
    | 3 => ((ad (btm U.mix 14) (ad (btm U.mix 13) (ad (btm U.mix 12) 0 (oSq U.ps.c0)) (oSq U.ps.c1)) 0), (3 : Int))
    | _ => ((ad (btm U.mix 15) (ad (btm U.mix 14) (ad (btm U.mix 13) (ad (btm U.mix 12) 0 (oSq U.ps.c0)) (oSq U.ps.c1)) 0) (oNz U.ps)), (4 : Int))) 4 ?_ ?_
  · intro i hi
    obtain rfl | rfl | rfl | rfl : i = 0 ∨ i = 1 ∨ i = 2 ∨ i = 3 := by omega
    · refine ceval (by rfl) ?_
      refine (bind_of _ (br h.m 12 (by decide) rfl)).trans ?_
      show cond (btm U.mix 12) _ _ = _
      cases (btm U.mix 12) <;> rfl
    · refine ceval (by rfl) ?_
      refine (bind_of _ (br h.m 13 (by decide) rfl)).trans ?_
      show cond (btm U.mix 13) _ _ = _
      cases (btm U.mix 13) <;> rfl
    · refine ceval (by rfl) ?_
      refine (bind_of _ (br h.m 14 (by decide) rfl)).trans ?_
      show cond (btm U.mix 14) _ _ = _
      cases (btm U.mix 14) <;> rfl
    · refine ceval (by rfl) ?_
      refine (bind_of _ (br h.m 15 (by decide) rfl)).trans ?_
      show cond (btm U.mix 15) _ _ = _
      cases (btm U.mix 15) <;> rfl
  · show cond (decide (0 ≤ (IntKind.wrap .i64 (4 * (1 : Int))))) _ none = _
    rw [cpos (by decide)]
    have e := gain_r (s := (ad (btm U.mix 15) (ad (btm U.mix 14) (ad (btm U.mix 13) (ad (btm U.mix 12) 0 (oSq U.ps.c0)) (oSq U.ps.c1)) 0) (oNz U.ps))) r4 h.m 4 (by decide)
    obtain ⟨q1, q2, q3, q4⟩ := sh_r (g := gA (ad (btm U.mix 15) (ad (btm U.mix 14) (ad (btm U.mix 13) (ad (btm U.mix 12) 0 (oSq U.ps.c0)) (oSq U.ps.c1)) 0) (oNz U.ps)) U.mix 4) r5 h.d
    show cond (decide (0 ≤ (Int.tmod U.dir 4)) && decide ((Int.tmod U.dir 4) < ((4 : Nat) : Int))) _ _ = _
    rw [cand q1 q2]
    show cond (!(ixL ([4, 2, 1, 1] : List Int) (Int.tmod U.dir 4) == 0)) _ _ = _
    rw [cnot, cne q3]
    refine (congrArg (fun z => loopO _ z) (show (IntKind.wrap .i64 (Int.tdiv (IntKind.wrap .i64 ((ad (btm U.mix 15) (ad (btm U.mix 14) (ad (btm U.mix 13) (ad (btm U.mix 12) 0 (oSq U.ps.c0)) (oSq U.ps.c1)) 0) (oNz U.ps)) * (IntKind.wrap .i64 ((IntKind.wrap .i64 (Int.tmod (Int.fdiv U.mix (2 ^ 4)) 8)) + 1)))) (ixL ([4, 2, 1, 1] : List Int) (Int.tmod U.dir 4))), (0 : Int)) = ((shA (gA (ad (btm U.mix 15) (ad (btm U.mix 14) (ad (btm U.mix 13) (ad (btm U.mix 12) 0 (oSq U.ps.c0)) (oSq U.ps.c1)) 0) (oNz U.ps)) U.mix 4) U.dir), (0 : Int)) from by rw [e, q4])).trans ?_
    refine loopO_for (fun i => match i with
      | 0 => ((shA (gA (ad (btm U.mix 15) (ad (btm U.mix 14) (ad (btm U.mix 13) (ad (btm U.mix 12) 0 (oSq U.ps.c0)) (oSq U.ps.c1)) 0) (oNz U.ps)) U.mix 4) U.dir), (0 : Int))
      | 1 => ((fA (btm U.dir 9) (btm U.dir 2) (shA (gA (ad (btm U.mix 15) (ad (btm U.mix 14) (ad (btm U.mix 13) (ad (btm U.mix 12) 0 (oSq U.ps.c0)) (oSq U.ps.c1)) 0) (oNz U.ps)) U.mix 4) U.dir) U.n0), (1 : Int))
      | _ => ((fA (btm U.dir 13) (btm U.dir 3) (fA (btm U.dir 9) (btm U.dir 2) (shA (gA (ad (btm U.mix 15) (ad (btm U.mix 14) (ad (btm U.mix 13) (ad (btm U.mix 12) 0 (oSq U.ps.c0)) (oSq U.ps.c1)) 0) (oNz U.ps)) U.mix 4) U.dir) U.n0) U.n1), (2 : Int))) 2 ?_ ?_
    · intro i hi
      obtain rfl | rfl : i = 0 ∨ i = 1 := by omega
      · refine ceval (by rfl) ?_
        refine (bind_of _ (br h.d 9 (by decide) rfl)).trans ?_
        show cond (btm U.dir 9) _ _ = some (Sum.inl ((fA (btm U.dir 9) (btm U.dir 2) (shA (gA (ad (btm U.mix 15) (ad (btm U.mix 14) (ad (btm U.mix 13) (ad (btm U.mix 12) 0 (oSq U.ps.c0)) (oSq U.ps.c1)) 0) (oNz U.ps)) U.mix 4) U.dir) U.n0), (1 : Int)))
        cases (btm U.dir 9)
        · rfl
        · refine ceval (by rfl) (ceval (by rfl) (ceval (by rfl) ?_))
          rw [Let_eq]
          refine (bind_of _ (br h.d 2 (by decide) rfl)).trans ?_
          exact ff_r ⟨by omega, by omega⟩ h.a0 (fun v => (Sum.inl (v, (1 : Int)) : (Int × Int) ⊕ ((Int × Int) ⊕ O_rside)))
      · refine ceval (by rfl) ?_
        refine (bind_of _ (br h.d 13 (by decide) rfl)).trans ?_
        show cond (btm U.dir 13) _ _ = some (Sum.inl ((fA (btm U.dir 13) (btm U.dir 3) (fA (btm U.dir 9) (btm U.dir 2) (shA (gA (ad (btm U.mix 15) (ad (btm U.mix 14) (ad (btm U.mix 13) (ad (btm U.mix 12) 0 (oSq U.ps.c0)) (oSq U.ps.c1)) 0) (oNz U.ps)) U.mix 4) U.dir) U.n0) U.n1), (2 : Int)))
        have r7' := r7
        generalize (fA (btm U.dir 9) (btm U.dir 2) (shA (gA (ad (btm U.mix 15) (ad (btm U.mix 14) (ad (btm U.mix 13) (ad (btm U.mix 12) 0 (oSq U.ps.c0)) (oSq U.ps.c1)) 0) (oNz U.ps)) U.mix 4) U.dir) U.n0) = z at r7' ⊢
        cases (btm U.dir 13)
        · rfl
        · refine ceval (by rfl) (ceval (by rfl) (cevalF (by rfl) ?_))
          rw [Let_eq]
          refine (bind_of _ (br h.d 3 (by decide) rfl)).trans ?_
          exact ff_r ⟨by omega, by omega⟩ h.a1 (fun v => (Sum.inl (v, (2 : Int)) : (Int × Int) ⊕ ((Int × Int) ⊕ O_rside)))
    · exact cl_r ⟨by omega, by omega⟩ h.b
end Go.Proofs.Ytccmpceifheejaa
