/-
  The disk and the document's disk, as plain functions: the parts.
-/
import Derived.Test.YthfjmoamjncdbaaG
import Derived.Test.YthfjmoamjncdbaaPure
namespace Go.Proofs.Ythfjmoamjncdbaa
open Go.Vc
set_option linter.unusedVariables false
set_option linter.unusedSimpArgs false

theorem wrap_u64 {x : Int} (h0 : 0 ≤ x) (h1 : x < 18446744073709551616) : IntKind.wrap .u64 x = x := by
  have e1 : (IntKind.u64.bits) = 64 := rfl
  simp only [IntKind.wrap, IntKind.bits, IntKind.signed, Bool.false_and, Bool.false_eq_true, if_false]
  omega
theorem andu64 {a m : Int} (k : Nat) (hm : m = ((2 ^ k - 1 : Nat) : Int)) (hk : k ≤ 64) (h0 : 0 ≤ a) (h1 : a < 18446744073709551616) : bits .and .u64 a m = a % ((2 ^ k : Nat) : Int) := by
  have hp : 2 ^ k ≤ 2 ^ 64 := Nat.pow_le_pow_right (by decide) hk
  have hp0 : 0 < 2 ^ k := Nat.pow_pos (by decide)
  obtain ⟨A, rfl⟩ := Int.eq_ofNat_of_zero_le h0
  subst hm
  rw [u64_and_nat A _ (by omega) (by omega), Nat.and_two_pow_sub_one_eq_mod]
  omega
theorem Mul_one {n : Int} (h0 : 0 ≤ n) (h1 : n ≤ 8192) : f_Mul 1 n = some (0, n) := by
  have e1 : bits .and .u64 1 4294967295 = 1 := by rw [andu64 32 (by decide) (by decide) (by decide) (by decide)]; rfl
  have e2 : bits .and .u64 n 4294967295 = n := by rw [andu64 32 (by decide) (by decide) h0 (by omega)]; omega
  have e3 : Int.fdiv n 4294967296 = 0 := by rw [fdiv_pos (by decide)]; omega
  have e4 : Int.fdiv 1 4294967296 = 0 := by decide
  have e5 : IntKind.wrap .u64 n = n := wrap_u64 h0 (by omega)
  have e6 : bits .and .u64 0 4294967295 = 0 := by rw [andu64 32 (by decide) (by decide) (by decide) (by decide)]; rfl
  have e7 : IntKind.wrap .u64 0 = 0 := by decide
  have e8 : Int.fdiv 0 4294967296 = 0 := by decide
  unfold f_Mul f_Mul64
  simp only [Let_eq, e1, e2, e3, e4, Int.one_mul, Int.zero_mul, Int.mul_zero, e5, e6, e7, e8, Int.zero_add, Int.add_zero, Option.bind_some]

theorem sRepeat_eq (z : ByteArray) {n : Int} (h1 : 1 ≤ n) (h2 : n ≤ 8192) : f_sRepeat [z] n = some (List.replicate n.toNat z) := by
  unfold f_sRepeat
  have e1 : IntKind.wrap .u64 (([z].length : Nat) : Int) = 1 := (show IntKind.wrap .u64 1 = 1 by decide)
  have e2 : IntKind.wrap .u64 n = n := wrap_u64 (by omega) (by omega)
  have e3 : IntKind.wrap .i64 n = n := wrap_i64 (by omega) (by omega)
  rw [cneg (by omega), e1, e2, Mul_one (by omega) h2, bind_some']
  show cond (decide ((0 : Int) > 0)) _ _ = _
  rw [cneg (by omega)]
  show cond (decide (n > 9223372036854775807)) _ _ = _
  rw [cneg (by omega)]
  show cond (decide (0 ≤ IntKind.wrap .i64 n) && decide (IntKind.wrap .i64 n ≤ IntKind.wrap .i64 n) && decide (IntKind.wrap .i64 n ≤ 1099511627776)) _ _ = _
  rw [e3, cand3 (by omega) (by omega) (by omega)]
  obtain ⟨m, rfl⟩ := Int.eq_ofNat_of_zero_le (show 0 ≤ n by omega)
  have hlen : (List.replicate ((m : Int)).toNat ((ByteArray.mk #[]) : ByteArray)).length = m := by simp
  refine loopO_inv (fun k (s : Int × List ByteArray) => ∃ (a : Nat) (I : List ByteArray), s = ((a : Int), I) ∧ k = m - a ∧ 1 ≤ a ∧ a ≤ m ∧ I.length = m ∧ I.take a = List.replicate a z) ?_ (m - 1) _ ?_
  · rintro k s ⟨a, I, rfl, rfl, ha1, ham, hI, ht⟩
    by_cases hd : a < m
    · left
      have hl : ((I.drop 0).take ((a : Int).toNat - 0)) = List.replicate a z := by
        rw [List.drop_zero, Nat.sub_zero, Int.toNat_natCast]; exact ht
      have hl2 : (((List.replicate a z).take (m - a)).length : Nat) = min (m - a) a := by simp
      refine ⟨(((a + min (m - a) a : Nat) : Int), copyL I a (m - a) (List.replicate a z)), m - (a + min (m - a) a), ?_, by omega, a + min (m - a) a, _, rfl, rfl, by omega, by omega, by rw [copyL_length]; exact hI, ?_⟩
      · show cond (decide ((a : Int) < _)) _ _ = _
        rw [hlen, cpos (by omega), cand (by omega) (by omega), cand (by omega) (by omega), cand (by omega) (by omega), cand (by omega) (by omega), hl]
        rw [Int.toNat_natCast, hl2, wrap_i64 (by omega) (by omega)]
        simp
      · rw [copyL_eq (by omega), ht]
        have e : (List.replicate a z ++ (List.replicate a z).take (m - a)) = List.replicate (a + min (m - a) a) z := by
          rw [List.take_replicate, List.replicate_append_replicate]
        rw [e, List.take_append_of_le_length (by simp), List.take_of_length_le (by simp)]
    · right
      have : a = m := by omega
      subst this
      show cond (decide ((a : Int) < _)) _ _ = _
      rw [hlen, cneg (by omega)]
      rw [List.take_of_length_le (by omega)] at ht
      rw [ht]; simp
  · refine ⟨1, copyL (List.replicate m ((ByteArray.mk #[]) : ByteArray)) 0 m [z], ?_, rfl, by omega, by omega, by simp, ?_⟩
    · rw [hlen]
      simp
      omega
    · rw [copyL_eq (by simp)]
      simp
      cases m with
      | zero => omega
      | succ m => simp
end Go.Proofs.Ythfjmoamjncdbaa
