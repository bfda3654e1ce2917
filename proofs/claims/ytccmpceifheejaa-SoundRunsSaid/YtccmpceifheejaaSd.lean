/-
  What a side gives: the program and the document.
-/
import Derived.Test.YtccmpceifheejaaSl
namespace Go.Proofs.Ytccmpceifheejaa
open Go.Vc
set_option linter.unusedVariables false
set_option linter.unusedSimpArgs false
set_option maxHeartbeats 4000000
structure UOk (U : US) : Prop where
  g : GOk U.ps
  p : POk U.ps
  m : 0 ≤ U.mix ∧ U.mix < 65536
  d : 0 ≤ U.dir ∧ U.dir < 65536
  b : 0 ≤ U.bias ∧ U.bias ≤ 1023
  a0 : -128 ≤ U.n0 ∧ U.n0 ≤ 127
  a1 : -128 ≤ U.n1 ∧ U.n1 ≤ 127
theorem oSq_range {m : Int} {c : Ch} (h : COk m c) : 0 ≤ oSq c ∧ oSq c ≤ 15 := by
  unfold oSq
  cases c.on
  · exact (by decide : (0 : Int) ≤ 0 ∧ (0 : Int) ≤ 15)
  cases (decide (c.at' < ixL ([1, 2, 4, 6] : List Int) c.duty))
  · exact (by decide : (0 : Int) ≤ 0 ∧ (0 : Int) ≤ 15)
  · exact h.v
theorem oNz_range {S : PS} (h : GOk S) : 0 ≤ oNz S ∧ oNz S ≤ 15 := by
  unfold oNz
  cases S.c3.on
  · exact (by decide : (0 : Int) ≤ 0 ∧ (0 : Int) ≤ 15)
  cases (S.lfsr % 2 == 0)
  · exact (by decide : (0 : Int) ≤ 0 ∧ (0 : Int) ≤ 15)
  · exact h.c3.v
def side0 (U : US) : Int := cond (!U.ma) 0 (clA (fA (btm U.dir 12) (btm U.dir 3) (fA (btm U.dir 8) (btm U.dir 2) (shA (gA (ad (btm U.mix 11) (ad (btm U.mix 10) (ad (btm U.mix 9) (ad (btm U.mix 8) 0 (oSq U.ps.c0)) (oSq U.ps.c1)) 0) (oNz U.ps)) U.mix 0) U.dir) U.n0) U.n1) U.bias)
theorem side0_eq {U : US} (h : UOk U) : k_side U 0 = some (side0 U) := by
  have r1 := ad_range (b := btm U.mix 8) (s := 0) (m := 0) ⟨Int.le_refl 0, Int.le_refl 0⟩ (oSq_range h.g.c0) (by decide)
  have r2 := ad_range (b := btm U.mix 9) r1 (oSq_range h.g.c1) (by decide)
  have r3 := ad_range (b := btm U.mix 10) (x := 0) r2 ⟨by decide, by decide⟩ (by decide)
  have r4 := ad_range (b := btm U.mix 11) r3 (oNz_range h.g) (by decide)
  have r5 := gA_range (m := U.mix) (j := 0) r4
  have r6 := shA_range (d := U.dir) r5
  have r7 := fA_range (b := btm U.dir 8) (b2 := btm U.dir 2) r6 h.a0
  have r8 := fA_range (b := btm U.dir 12) (b2 := btm U.dir 3) r7 h.a1
  unfold k_side uA f_side side0
  cases U.ma
  · rfl
  refine (bind_of _ (Out_eq h.g h.p)).trans ?_
  refine loopO_for (fun i => match i with
    | 0 => ((0 : Int), (0 : Int))
    | 1 => ((ad (btm U.mix 8) 0 (oSq U.ps.c0)), (1 : Int))
    | 2 => ((ad (btm U.mix 9) (ad (btm U.mix 8) 0 (oSq U.ps.c0)) (oSq U.ps.c1)), (2 : Int))
    | 3 => ((ad (btm U.mix 10) (ad (btm U.mix 9) (ad (btm U.mix 8) 0 (oSq U.ps.c0)) (oSq U.ps.c1)) 0), (3 : Int))
    | _ => ((ad (btm U.mix 11) (ad (btm U.mix 10) (ad (btm U.mix 9) (ad (btm U.mix 8) 0 (oSq U.ps.c0)) (oSq U.ps.c1)) 0) (oNz U.ps)), (4 : Int))) 4 ?_ ?_
  · intro i hi
    obtain rfl | rfl | rfl | rfl : i = 0 ∨ i = 1 ∨ i = 2 ∨ i = 3 := by omega
    · show cond (bits .and .u16 (Int.fdiv U.mix (2 ^ 8)) 1 == 1) _ _ = _
      rw [bp h.m 8 (by decide)]
      cases (btm U.mix 8) <;> rfl
    · show cond (bits .and .u16 (Int.fdiv U.mix (2 ^ 9)) 1 == 1) _ _ = _
      rw [bp h.m 9 (by decide)]
      cases (btm U.mix 9) <;> rfl
    · show cond (bits .and .u16 (Int.fdiv U.mix (2 ^ 10)) 1 == 1) _ _ = _
      rw [bp h.m 10 (by decide)]
      cases (btm U.mix 10) <;> rfl
    · show cond (bits .and .u16 (Int.fdiv U.mix (2 ^ 11)) 1 == 1) _ _ = _
      rw [bp h.m 11 (by decide)]
      cases (btm U.mix 11) <;> rfl
  · show cond (decide (0 ≤ (IntKind.wrap .i64 (4 * (0 : Int))))) _ none = _
    rw [cpos (by decide), Let_eq]
    obtain ⟨q1, q2, q3, q4⟩ := sh_p (g := gA (ad (btm U.mix 11) (ad (btm U.mix 10) (ad (btm U.mix 9) (ad (btm U.mix 8) 0 (oSq U.ps.c0)) (oSq U.ps.c1)) 0) (oNz U.ps)) U.mix 0) h.d
    show cond (decide (0 ≤ (bits .and .u16 U.dir 3)) && decide ((bits .and .u16 U.dir 3) < ((4 : Nat) : Int))) _ _ = _
    rw [cand q1 q2, cpos q3]
    have e := gain_p (s := (ad (btm U.mix 11) (ad (btm U.mix 10) (ad (btm U.mix 9) (ad (btm U.mix 8) 0 (oSq U.ps.c0)) (oSq U.ps.c1)) 0) (oNz U.ps))) r4 h.m 0 (by decide)
    refine (congrArg (fun z => loopO _ z) (show (Int.fdiv (IntKind.wrap .i64 ((ad (btm U.mix 11) (ad (btm U.mix 10) (ad (btm U.mix 9) (ad (btm U.mix 8) 0 (oSq U.ps.c0)) (oSq U.ps.c1)) 0) (oNz U.ps)) * (IntKind.wrap .i64 ((IntKind.wrap .i64 (bits .and .u16 (Int.fdiv U.mix (2 ^ 0)) 7)) + 1)))) (2 ^ (min (ixL ([2, 1, 0, 0] : List Int) (bits .and .u16 U.dir 3)).toNat 64)), (0 : Int)) = ((shA (gA (ad (btm U.mix 11) (ad (btm U.mix 10) (ad (btm U.mix 9) (ad (btm U.mix 8) 0 (oSq U.ps.c0)) (oSq U.ps.c1)) 0) (oNz U.ps)) U.mix 0) U.dir), (0 : Int)) from by rw [e, q4])).trans ?_
    refine loopO_for (fun i => match i with
      | 0 => ((shA (gA (ad (btm U.mix 11) (ad (btm U.mix 10) (ad (btm U.mix 9) (ad (btm U.mix 8) 0 (oSq U.ps.c0)) (oSq U.ps.c1)) 0) (oNz U.ps)) U.mix 0) U.dir), (0 : Int))
      | 1 => ((fA (btm U.dir 8) (btm U.dir 2) (shA (gA (ad (btm U.mix 11) (ad (btm U.mix 10) (ad (btm U.mix 9) (ad (btm U.mix 8) 0 (oSq U.ps.c0)) (oSq U.ps.c1)) 0) (oNz U.ps)) U.mix 0) U.dir) U.n0), (1 : Int))
      | _ => ((fA (btm U.dir 12) (btm U.dir 3) (fA (btm U.dir 8) (btm U.dir 2) (shA (gA (ad (btm U.mix 11) (ad (btm U.mix 10) (ad (btm U.mix 9) (ad (btm U.mix 8) 0 (oSq U.ps.c0)) (oSq U.ps.c1)) 0) (oNz U.ps)) U.mix 0) U.dir) U.n0) U.n1), (2 : Int))) 2 ?_ ?_
    · intro i hi
      obtain rfl | rfl : i = 0 ∨ i = 1 := by omega
      · show cond (bits .and .u16 (Int.fdiv U.dir (2 ^ 8)) 1 == 1) _ _ = _
        rw [bp h.d 8 (by decide)]
        have := ff_p (b := btm U.dir 8) (b2 := btm U.dir 2) (s := (shA (gA (ad (btm U.mix 11) (ad (btm U.mix 10) (ad (btm U.mix 9) (ad (btm U.mix 8) 0 (oSq U.ps.c0)) (oSq U.ps.c1)) 0) (oNz U.ps)) U.mix 0) U.dir)) (n := U.n0) ⟨by omega, by omega⟩ h.a0 (fun v => (Sum.inl (v, (1 : Int)) : (Int × Int) ⊕ ((Int × Int) ⊕ O_side)))
        refine Eq.trans ?_ this
        rw [← bp h.d 2 (by decide)]
        cases (btm U.dir 8)
        · rfl
        · rfl
      · show cond (bits .and .u16 (Int.fdiv U.dir (2 ^ 12)) 1 == 1) _ _ = _
        rw [bp h.d 12 (by decide)]
        have := ff_p (b := btm U.dir 12) (b2 := btm U.dir 3) (s := (fA (btm U.dir 8) (btm U.dir 2) (shA (gA (ad (btm U.mix 11) (ad (btm U.mix 10) (ad (btm U.mix 9) (ad (btm U.mix 8) 0 (oSq U.ps.c0)) (oSq U.ps.c1)) 0) (oNz U.ps)) U.mix 0) U.dir) U.n0)) (n := U.n1) ⟨by omega, by omega⟩ h.a1 (fun v => (Sum.inl (v, (2 : Int)) : (Int × Int) ⊕ ((Int × Int) ⊕ O_side)))
        refine Eq.trans ?_ this
        rw [← bp h.d 3 (by decide)]
        cases (btm U.dir 12)
        · rfl
        · rfl
    · exact congrArg (fun z => some (Sum.inr (Sum.inr z) : (Int × Int) ⊕ ((Int × Int) ⊕ O_side))) (cl_p ⟨by omega, by omega⟩ h.b)
def side1 (U : US) : Int := cond (!U.ma) 0 (clA (fA (btm U.dir 13) (btm U.dir 3) (fA (btm U.dir 9) (btm U.dir 2) (shA (gA (ad (btm U.mix 15) (ad (btm U.mix 14) (ad (btm U.mix 13) (ad (btm U.mix 12) 0 (oSq U.ps.c0)) (oSq U.ps.c1)) 0) (oNz U.ps)) U.mix 4) U.dir) U.n0) U.n1) U.bias)
theorem side1_eq {U : US} (h : UOk U) : k_side U 1 = some (side1 U) := by
  have r1 := ad_range (b := btm U.mix 12) (s := 0) (m := 0) ⟨Int.le_refl 0, Int.le_refl 0⟩ (oSq_range h.g.c0) (by decide)
  have r2 := ad_range (b := btm U.mix 13) r1 (oSq_range h.g.c1) (by decide)
  have r3 := ad_range (b := btm U.mix 14) (x := 0) r2 ⟨by decide, by decide⟩ (by decide)
  have r4 := ad_range (b := btm U.mix 15) r3 (oNz_range h.g) (by decide)
  have r5 := gA_range (m := U.mix) (j := 4) r4
  have r6 := shA_range (d := U.dir) r5
  have r7 := fA_range (b := btm U.dir 9) (b2 := btm U.dir 2) r6 h.a0
  have r8 := fA_range (b := btm U.dir 13) (b2 := btm U.dir 3) r7 h.a1
  unfold k_side uA f_side side1
  cases U.ma
  · rfl
  refine (bind_of _ (Out_eq h.g h.p)).trans ?_
  refine loopO_for (fun i => match i with
    | 0 => ((0 : Int), (0 : Int))
    | 1 => ((ad (btm U.mix 12) 0 (oSq U.ps.c0)), (1 : Int))
    | 2 => ((ad (btm U.mix 13) (ad (btm U.mix 12) 0 (oSq U.ps.c0)) (oSq U.ps.c1)), (2 : Int))
    | 3 => ((ad (btm U.mix 14) (ad (btm U.mix 13) (ad (btm U.mix 12) 0 (oSq U.ps.c0)) (oSq U.ps.c1)) 0), (3 : Int))
    | _ => ((ad (btm U.mix 15) (ad (btm U.mix 14) (ad (btm U.mix 13) (ad (btm U.mix 12) 0 (oSq U.ps.c0)) (oSq U.ps.c1)) 0) (oNz U.ps)), (4 : Int))) 4 ?_ ?_
  · intro i hi
    obtain rfl | rfl | rfl | rfl : i = 0 ∨ i = 1 ∨ i = 2 ∨ i = 3 := by omega
    · show cond (bits .and .u16 (Int.fdiv U.mix (2 ^ 12)) 1 == 1) _ _ = _
      rw [bp h.m 12 (by decide)]
      cases (btm U.mix 12) <;> rfl
    · show cond (bits .and .u16 (Int.fdiv U.mix (2 ^ 13)) 1 == 1) _ _ = _
      rw [bp h.m 13 (by decide)]
      cases (btm U.mix 13) <;> rfl
    · show cond (bits .and .u16 (Int.fdiv U.mix (2 ^ 14)) 1 == 1) _ _ = _
      rw [bp h.m 14 (by decide)]
      cases (btm U.mix 14) <;> rfl
    · show cond (bits .and .u16 (Int.fdiv U.mix (2 ^ 15)) 1 == 1) _ _ = _
      rw [bp h.m 15 (by decide)]
      cases (btm U.mix 15) <;> rfl
  · show cond (decide (0 ≤ (IntKind.wrap .i64 (4 * (1 : Int))))) _ none = _
    rw [cpos (by decide), Let_eq]
    obtain ⟨q1, q2, q3, q4⟩ := sh_p (g := gA (ad (btm U.mix 15) (ad (btm U.mix 14) (ad (btm U.mix 13) (ad (btm U.mix 12) 0 (oSq U.ps.c0)) (oSq U.ps.c1)) 0) (oNz U.ps)) U.mix 4) h.d
    show cond (decide (0 ≤ (bits .and .u16 U.dir 3)) && decide ((bits .and .u16 U.dir 3) < ((4 : Nat) : Int))) _ _ = _
    rw [cand q1 q2, cpos q3]
    have e := gain_p (s := (ad (btm U.mix 15) (ad (btm U.mix 14) (ad (btm U.mix 13) (ad (btm U.mix 12) 0 (oSq U.ps.c0)) (oSq U.ps.c1)) 0) (oNz U.ps))) r4 h.m 4 (by decide)
    refine (congrArg (fun z => loopO _ z) (show (Int.fdiv (IntKind.wrap .i64 ((ad (btm U.mix 15) (ad (btm U.mix 14) (ad (btm U.mix 13) (ad (btm U.mix 12) 0 (oSq U.ps.c0)) (oSq U.ps.c1)) 0) (oNz U.ps)) * (IntKind.wrap .i64 ((IntKind.wrap .i64 (bits .and .u16 (Int.fdiv U.mix (2 ^ 4)) 7)) + 1)))) (2 ^ (min (ixL ([2, 1, 0, 0] : List Int) (bits .and .u16 U.dir 3)).toNat 64)), (0 : Int)) = ((shA (gA (ad (btm U.mix 15) (ad (btm U.mix 14) (ad (btm U.mix 13) (ad (btm U.mix 12) 0 (oSq U.ps.c0)) (oSq U.ps.c1)) 0) (oNz U.ps)) U.mix 4) U.dir), (0 : Int)) from by rw [e, q4])).trans ?_
    refine loopO_for (fun i => match i with
      | 0 => ((shA (gA (ad (btm U.mix 15) (ad (btm U.mix 14) (ad (btm U.mix 13) (ad (btm U.mix 12) 0 (oSq U.ps.c0)) (oSq U.ps.c1)) 0) (oNz U.ps)) U.mix 4) U.dir), (0 : Int))
      | 1 => ((fA (btm U.dir 9) (btm U.dir 2) (shA (gA (ad (btm U.mix 15) (ad (btm U.mix 14) (ad (btm U.mix 13) (ad (btm U.mix 12) 0 (oSq U.ps.c0)) (oSq U.ps.c1)) 0) (oNz U.ps)) U.mix 4) U.dir) U.n0), (1 : Int))
      | _ => ((fA (btm U.dir 13) (btm U.dir 3) (fA (btm U.dir 9) (btm U.dir 2) (shA (gA (ad (btm U.mix 15) (ad (btm U.mix 14) (ad (btm U.mix 13) (ad (btm U.mix 12) 0 (oSq U.ps.c0)) (oSq U.ps.c1)) 0) (oNz U.ps)) U.mix 4) U.dir) U.n0) U.n1), (2 : Int))) 2 ?_ ?_
    · intro i hi
      obtain rfl | rfl : i = 0 ∨ i = 1 := by omega
      · show cond (bits .and .u16 (Int.fdiv U.dir (2 ^ 9)) 1 == 1) _ _ = _
        rw [bp h.d 9 (by decide)]
        have := ff_p (b := btm U.dir 9) (b2 := btm U.dir 2) (s := (shA (gA (ad (btm U.mix 15) (ad (btm U.mix 14) (ad (btm U.mix 13) (ad (btm U.mix 12) 0 (oSq U.ps.c0)) (oSq U.ps.c1)) 0) (oNz U.ps)) U.mix 4) U.dir)) (n := U.n0) ⟨by omega, by omega⟩ h.a0 (fun v => (Sum.inl (v, (1 : Int)) : (Int × Int) ⊕ ((Int × Int) ⊕ O_side)))
        refine Eq.trans ?_ this
        rw [← bp h.d 2 (by decide)]
        cases (btm U.dir 9)
        · rfl
        · rfl
      · show cond (bits .and .u16 (Int.fdiv U.dir (2 ^ 13)) 1 == 1) _ _ = _
        rw [bp h.d 13 (by decide)]
        have := ff_p (b := btm U.dir 13) (b2 := btm U.dir 3) (s := (fA (btm U.dir 9) (btm U.dir 2) (shA (gA (ad (btm U.mix 15) (ad (btm U.mix 14) (ad (btm U.mix 13) (ad (btm U.mix 12) 0 (oSq U.ps.c0)) (oSq U.ps.c1)) 0) (oNz U.ps)) U.mix 4) U.dir) U.n0)) (n := U.n1) ⟨by omega, by omega⟩ h.a1 (fun v => (Sum.inl (v, (2 : Int)) : (Int × Int) ⊕ ((Int × Int) ⊕ O_side)))
        refine Eq.trans ?_ this
        rw [← bp h.d 3 (by decide)]
        cases (btm U.dir 13)
        · rfl
        · rfl
    · exact congrArg (fun z => some (Sum.inr (Sum.inr z) : (Int × Int) ⊕ ((Int × Int) ⊕ O_side))) (cl_p ⟨by omega, by omega⟩ h.b)
end Go.Proofs.Ytccmpceifheejaa
