/-
  Roots; the first law's hand-made run; BiosNumbers, BiosRight.
-/
import Derived.Test.YtnobglfjinehfaaBioA
namespace Go.Proofs.Ytnobglfjinehfaa
open Go.Vc
set_option linter.unusedVariables false
set_option linter.unusedSimpArgs false

theorem sq_le {a b : Int} (h0 : 0 ≤ a) (h : a ≤ b) : a * a ≤ b * b := Int.mul_le_mul h h h0 (by omega)
theorem sq_add (a b : Int) : (a + b) * (a + b) = a * a + 2 * (a * b) + b * b := by
  rw [Int.add_mul, Int.mul_add, Int.mul_add, Int.mul_comm b a]; omega
theorem root_uniq {x a b : Int} (ha : 0 ≤ a) (hb : 0 ≤ b) (h1 : a * a ≤ x) (h2 : x < (a + 1) * (a + 1)) (h3 : b * b ≤ x) (h4 : x < (b + 1) * (b + 1)) : a = b := by
  rcases Int.lt_trichotomy a b with h | h | h
  · have := sq_le (a := a + 1) (b := b) (by omega) (by omega); omega
  · exact h
  · have := sq_le (a := b + 1) (b := a) (by omega) (by omega); omega
theorem Sqrt_spec {x : Int} (h0 : 0 ≤ x) (h1 : x < 4294967296) : ∃ r : Int, f_Sqrt x = some r ∧ (0 ≤ r ∧ r ≤ 65535 ∧ r * r ≤ x ∧ x < (r + 1) * (r + 1)) := by
  unfold f_Sqrt
  refine loopO_ex (fun r : Int => 0 ≤ r ∧ r ≤ 65535 ∧ r * r ≤ x ∧ x < (r + 1) * (r + 1)) (fun (n : Nat) (s : Int × Int × Int) =>
    (∃ (k : Nat) (R P : Int), n = k + 1 ∧ P = ((2 ^ k : Nat) : Int) ∧ s = (x - R * R, R * (2 * P), P * P) ∧ 0 ≤ R ∧ R * R ≤ x ∧ x < (R + 2 * P) * (R + 2 * P) ∧ R + 2 * P ≤ 65536) ∨
    (∃ (R y : Int), n = 0 ∧ s = (y, R, 0) ∧ 0 ≤ R ∧ R ≤ 65535 ∧ R * R ≤ x ∧ x < (R + 1) * (R + 1))) ?_ 16 _ (.inl ⟨15, 0, 32768, rfl, by decide, by simp, by decide, by omega, by omega, by decide⟩)
  rintro n s (⟨k, R, P, rfl, hP, rfl, hR, hx, hx2, hb⟩ | ⟨R, y, rfl, rfl, hR, hb, hx, hx2⟩)
  · left
    have hP1 : 1 ≤ P := by have := Nat.one_le_two_pow (n := k); omega
    have a1 := sq_add R P
    have a2 := sq_add R (2 * P)
    have a3 : R * (2 * P) = 2 * (R * P) := by rw [← Int.mul_assoc, Int.mul_comm R 2, Int.mul_assoc]
    have a4 : 2 * P * (2 * P) = 4 * (P * P) := by rw [Int.mul_assoc, ← Int.mul_assoc P 2 P, Int.mul_comm P 2, Int.mul_assoc]; omega
    have a5 := sq_le (a := R + P) (b := 65535) (by omega) (by omega)
    have a6 : 0 ≤ R * R := Int.mul_nonneg hR hR
    have a7 : 0 ≤ R * P := Int.mul_nonneg hR (by omega)
    have a8 : 1 ≤ P * P := by have := sq_le (a := 1) (b := P) (by omega) hP1; omega
    have a9 : (R + P) * P = R * P + P * P := Int.add_mul _ _ _
    show ∃ s' m, cond (decide (P * P > 0)) (cond (decide (x - R * R ≥ IntKind.wrap .u32 (R * (2 * P) + P * P))) (Let _ _) _) _ = _ ∧ _
    rw [cpos (by omega), wrap_u32 (x := R * (2 * P) + P * P) (by omega) (by omega), a3]
    have e3 : Int.fdiv (2 * (R * P)) 2 = R * P := by rw [fdiv_pos (by decide)]; omega
    by_cases hc : x - R * R ≥ 2 * (R * P) + P * P
    · rw [cpos hc, Let_eq, Let_eq, e3, wrap_u32 (x := x - R * R - (2 * (R * P) + P * P)) (by omega) (by omega), wrap_u32 (x := R * P + P * P) (by omega) (by omega)]
      refine ⟨_, k, rfl, by omega, ?_⟩
      cases k with
      | zero =>
        have hP2 : P = 1 := by rw [hP]; rfl
        subst hP2
        right
        exact ⟨R + 1, _, rfl, by rw [show Int.fdiv (1 * 1) 4 = 0 by decide, show R * 1 + 1 * 1 = R + 1 by omega], by omega, by omega, by omega, by rw [show R + 1 + 1 = R + 2 * 1 by omega]; omega⟩
      | succ k =>
        left
        obtain ⟨P', hP'⟩ : ∃ P' : Int, P' = ((2 ^ k : Nat) : Int) := ⟨_, rfl⟩
        have hPP : P = 2 * P' := by rw [hP, hP', Nat.pow_succ]; omega
        have b1 : P * P = 4 * (P' * P') := by rw [hPP, Int.mul_assoc, ← Int.mul_assoc P' 2 P', Int.mul_comm P' 2, Int.mul_assoc]; omega
        refine ⟨k, R + P, P', rfl, hP', ?_, by omega, by omega, by rw [show R + P + 2 * P' = R + 2 * P by omega]; omega, by omega⟩
        have b2 : Int.fdiv (P * P) 4 = P' * P' := by rw [fdiv_pos (by decide), b1]; omega
        rw [b2, ← hPP, a9, a1, show x - R * R - (2 * (R * P) + P * P) = x - (R * R + 2 * (R * P) + P * P) by omega]
    · rw [cneg hc, e3]
      refine ⟨_, k, rfl, by omega, ?_⟩
      cases k with
      | zero =>
        have hP2 : P = 1 := by rw [hP]; rfl
        subst hP2
        right
        exact ⟨R, _, rfl, by rw [show Int.fdiv (1 * 1) 4 = 0 by decide, show R * 1 = R by omega], by omega, by omega, by omega, by omega⟩
      | succ k =>
        left
        obtain ⟨P', hP'⟩ : ∃ P' : Int, P' = ((2 ^ k : Nat) : Int) := ⟨_, rfl⟩
        have hPP : P = 2 * P' := by rw [hP, hP', Nat.pow_succ]; omega
        have b1 : P * P = 4 * (P' * P') := by rw [hPP, Int.mul_assoc, ← Int.mul_assoc P' 2 P', Int.mul_comm P' 2, Int.mul_assoc]; omega
        refine ⟨k, R, P', rfl, hP', ?_, by omega, by omega, by rw [← hPP]; omega, by omega⟩
        have b2 : Int.fdiv (P * P) 4 = P' * P' := by rw [fdiv_pos (by decide), b1]; omega
        rw [b2, ← hPP]
  · right
    refine ⟨R, ?_, hR, hb, hx, hx2⟩
    show cond (decide ((0 : Int) > 0)) _ _ = _
    rw [cneg (by decide)]
theorem rSqrt_spec {x : Int} (h0 : 0 ≤ x) (h1 : x < 4294967296) : ∃ r : Int, f_rSqrt x = some r ∧ (0 ≤ r ∧ r ≤ 65535 ∧ r * r ≤ x ∧ x < (r + 1) * (r + 1)) := by
  unfold f_rSqrt
  refine loopO_ex (fun r : Int => 0 ≤ r ∧ r ≤ 65535 ∧ r * r ≤ x ∧ x < (r + 1) * (r + 1)) (fun (n : Nat) (s : Int × Int) => ∃ l h : Int, s = (l, h) ∧ n = (h - l).toNat ∧ 0 ≤ l ∧ l < h ∧ h ≤ 65536 ∧ l * l ≤ x ∧ x < h * h) ?_ 65536 _ ⟨0, 65536, rfl, by decide, by decide, by decide, by decide, by omega, by omega⟩
  rintro n s ⟨l, h, rfl, rfl, hl, hlh, hh, hx, hx2⟩
  by_cases hc : h - l > 1
  · left
    have hm : Int.tdiv (l + h) 2 = (l + h) / 2 := tdiv_nn (by omega)
    obtain ⟨m, hm2⟩ : ∃ m, m = (l + h) / 2 := ⟨_, rfl⟩
    have hmb : l < m ∧ m < h := by omega
    have hs := sq_le (a := m) (b := 65536) (by omega) (by omega)
    have hs0 : 0 ≤ m * m := Int.mul_nonneg (by omega) (by omega)
    show ∃ s' m', cond (decide (IntKind.wrap .u64 (h - l) > 1)) (Let _ _) _ = _ ∧ _
    have u1 : IntKind.wrap .u64 (h - l) = h - l := by rw [wr_u64]; omega
    have u2 : IntKind.wrap .u64 (l + h) = l + h := by rw [wr_u64]; omega
    have u3 : IntKind.wrap .u64 m = m := by rw [wr_u64]; omega
    have u4 : IntKind.wrap .u64 (m * m) = m * m := by rw [wr_u64]; omega
    have u5 : IntKind.wrap .u64 x = x := by rw [wr_u64]; omega
    rw [u1, cpos hc, Let_eq, u2, hm, ← hm2, u3, u4, u5]
    by_cases hd : m * m ≤ x
    · rw [cpos hd]
      exact ⟨_, (h - m).toNat, rfl, by omega, m, h, rfl, rfl, by omega, by omega, by omega, hd, hx2⟩
    · rw [cneg hd]
      exact ⟨_, (m - l).toNat, rfl, by omega, l, m, rfl, rfl, by omega, by omega, by omega, hx, by omega⟩
  · right
    have e : h = l + 1 := by omega
    subst e
    refine ⟨l, ?_, hl, by omega, hx, hx2⟩
    show cond (decide (IntKind.wrap .u64 (l + 1 - l) > 1)) _ _ = _
    have u1 : IntKind.wrap .u64 (l + 1 - l) = 1 := by rw [wr_u64]; omega
    rw [u1, cneg (by decide), wrap_u32 (by omega) (by omega)]
end Go.Proofs.Ytnobglfjinehfaa
