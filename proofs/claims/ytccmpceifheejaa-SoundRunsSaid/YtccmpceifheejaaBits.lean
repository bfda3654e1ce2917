/-
  Masks.
-/
import Derived.Test.YtccmpceifheejaaLib
import Derived.Laws.BitsAllLaws
namespace Go.Vc
open Go
theorem and16 {a m : Int} (k : Nat) (hm : m = ((2 ^ k - 1 : Nat) : Int)) (hk : k ≤ 16) (h0 : 0 ≤ a) (h1 : a < 65536) : bits .and .u16 a m = a % ((2 ^ k : Nat) : Int) := by
  have hp : 2 ^ k ≤ 2 ^ 16 := Nat.pow_le_pow_right (by decide) hk
  have hp0 : 0 < 2 ^ k := Nat.pow_pos (by decide)
  obtain ⟨A, rfl⟩ := Int.eq_ofNat_of_zero_le h0
  subst hm
  rw [u16_and_nat A _ (by omega) (by omega), Nat.and_two_pow_sub_one_eq_mod]
  omega
theorem and64 {a m : Int} (k : Nat) (hm : m = ((2 ^ k - 1 : Nat) : Int)) (hk : k < 64) : bits .and .i64 a m = a % ((2 ^ k : Nat) : Int) := by
  have hp : 2 ^ k ≤ 2 ^ 63 := Nat.pow_le_pow_right (by decide) (by omega)
  have hp0 : 0 < 2 ^ k := Nat.pow_pos (by decide)
  subst hm
  show IntKind.i64.wrap ((BitVec.ofInt 64 a &&& BitVec.ofInt 64 ((2 ^ k - 1 : Nat) : Int)).toNat : Int) = _
  have e1 : (BitVec.ofInt 64 ((2 ^ k - 1 : Nat) : Int)).toNat = 2 ^ k - 1 := by
    rw [BitVec.ofInt_natCast, BitVec.toNat_ofNat]; exact Nat.mod_eq_of_lt (by omega)
  have e2 : (BitVec.ofInt 64 a).toNat = (a % 18446744073709551616).toNat := by
    rw [BitVec.toNat_ofInt]; rfl
  rw [BitVec.toNat_and, e1, e2, Nat.and_two_pow_sub_one_eq_mod]
  have hd : ((2 ^ k : Nat) : Int) ∣ 18446744073709551616 := by
    refine ⟨((2 ^ (64 - k) : Nat) : Int), ?_⟩
    have : 2 ^ k * 2 ^ (64 - k) = 2 ^ 64 := by rw [← Nat.pow_add]; congr 1; omega
    have h2 : ((2 ^ k : Nat) : Int) * ((2 ^ (64 - k) : Nat) : Int) = ((2 ^ 64 : Nat) : Int) := by rw [← this]; simp
    rw [h2]; rfl
  have h3 : (((a % 18446744073709551616).toNat % 2 ^ k : Nat) : Int) = a % ((2 ^ k : Nat) : Int) := by
    rw [Int.natCast_emod, Int.toNat_of_nonneg (by omega)]
    exact Int.emod_emod_of_dvd a hd
  rw [h3]
  have h4 : a % ((2 ^ k : Nat) : Int) < ((2 ^ k : Nat) : Int) := Int.emod_lt_of_pos _ (by omega)
  have h5 : 0 ≤ a % ((2 ^ k : Nat) : Int) := Int.emod_nonneg _ (by omega)
  exact wrap_i64 (by omega) (by omega)
theorem or64 {a b : Int} (k : Nat) (hb0 : 0 ≤ b) (hb : b < ((2 ^ k : Nat) : Int)) (ha0 : 0 ≤ a) (ha1 : a + b < 9223372036854775808) (ha : a % ((2 ^ k : Nat) : Int) = 0) : bits .or .i64 a b = a + b := by
  obtain ⟨A, rfl⟩ := Int.eq_ofNat_of_zero_le ha0
  obtain ⟨B, rfl⟩ := Int.eq_ofNat_of_zero_le hb0
  show IntKind.i64.wrap ((BitVec.ofInt 64 (A : Int) ||| BitVec.ofInt 64 (B : Int)).toNat : Int) = _
  have e : ∀ n : Nat, (n : Int) < 9223372036854775808 → (BitVec.ofInt 64 (n : Int)).toNat = n := by
    intro n hn
    rw [BitVec.ofInt_natCast, BitVec.toNat_ofNat]; exact Nat.mod_eq_of_lt (by omega)
  rw [BitVec.toNat_or, e A (by omega), e B (by omega), nat_join k A B (by omega) (by omega)]
  rw [wrap_i64 (by omega) (by omega)]; omega
theorem fdiv_pos {a b : Int} (hb : 0 < b) : Int.fdiv a b = a / b := Int.fdiv_eq_ediv_of_nonneg _ (by omega)
theorem tdiv_nn {a b : Int} (ha : 0 ≤ a) : Int.tdiv a b = a / b := Int.tdiv_eq_ediv_of_nonneg ha
theorem tmod_nn {a b : Int} (ha : 0 ≤ a) : Int.tmod a b = a % b := Int.tmod_eq_emod_of_nonneg ha
end Go.Vc
