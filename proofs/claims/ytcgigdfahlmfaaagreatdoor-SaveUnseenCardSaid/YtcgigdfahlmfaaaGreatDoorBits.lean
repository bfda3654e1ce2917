/-
  Masks.
-/
import Derived.Test.YtcgigdfahlmfaaaGreatDoorLib
import Derived.Laws.BitsAllLaws
namespace Go.Vc
open Go
theorem and8 {a m : Int} (k : Nat) (hm : m = ((2 ^ k - 1 : Nat) : Int)) (hk : k ≤ 8) (h0 : 0 ≤ a) (h1 : a < 256) : bits .and .u8 a m = a % ((2 ^ k : Nat) : Int) := by
  have hp : 2 ^ k ≤ 2 ^ 8 := Nat.pow_le_pow_right (by decide) hk
  have hp0 : 0 < 2 ^ k := Nat.pow_pos (by decide)
  obtain ⟨A, rfl⟩ := Int.eq_ofNat_of_zero_le h0
  subst hm
  rw [u8_and_nat A _ (by omega) (by omega), Nat.and_two_pow_sub_one_eq_mod]
  omega
theorem and32 {a m : Int} (k : Nat) (hm : m = ((2 ^ k - 1 : Nat) : Int)) (hk : k ≤ 32) (h0 : 0 ≤ a) (h1 : a < 4294967296) : bits .and .u32 a m = a % ((2 ^ k : Nat) : Int) := by
  have hp : 2 ^ k ≤ 2 ^ 32 := Nat.pow_le_pow_right (by decide) hk
  have hp0 : 0 < 2 ^ k := Nat.pow_pos (by decide)
  obtain ⟨A, rfl⟩ := Int.eq_ofNat_of_zero_le h0
  subst hm
  rw [u32_and_nat A _ (by omega) (by omega), Nat.and_two_pow_sub_one_eq_mod]
  omega
theorem or64 {a b : Int} (k : Nat) (hb0 : 0 ≤ b) (hb : b < ((2 ^ k : Nat) : Int)) (ha0 : 0 ≤ a) (ha1 : a + b < 9223372036854775808) (ha : a % ((2 ^ k : Nat) : Int) = 0) : bits .or .i64 a b = a + b := by
  obtain ⟨A, rfl⟩ := Int.eq_ofNat_of_zero_le ha0
  obtain ⟨B, rfl⟩ := Int.eq_ofNat_of_zero_le hb0
  show IntKind.i64.wrap ((BitVec.ofInt 64 (A : Int) ||| BitVec.ofInt 64 (B : Int)).toNat : Int) = _
  have e : ∀ n : Nat, (n : Int) < 9223372036854775808 → (BitVec.ofInt 64 (n : Int)).toNat = n := by
    intro n hn
    rw [BitVec.ofInt_natCast, BitVec.toNat_ofNat]; exact Nat.mod_eq_of_lt (by omega)
  rw [BitVec.toNat_or, e A (by omega), e B (by omega), nat_join k A B (by omega) (by omega)]
  rw [wrap_i64 (by omega) (by omega)]; omega
theorem fdiv_pos {a b : Int} (hb : 0 < b) : Int.fdiv a b = a / b := Int.fdiv_eq_ediv_of_nonneg _ (by omega)
theorem tdiv_nn {a b : Int} (ha : 0 ≤ a) : Int.tdiv a b = a / b := Int.tdiv_eq_ediv_of_nonneg ha
theorem tmod_nn {a b : Int} (ha : 0 ≤ a) : Int.tmod a b = a % b := Int.tmod_eq_emod_of_nonneg ha
end Go.Vc
