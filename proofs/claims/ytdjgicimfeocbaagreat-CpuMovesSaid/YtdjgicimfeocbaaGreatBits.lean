/-
  Masks.
-/
import Derived.Test.YtdjgicimfeocbaaGreatLib
import Derived.Laws.BitsAllLaws
namespace Go.Vc
open Go

theorem and16 {a m : Int} (k : Nat) (hm : m = ((2 ^ k - 1 : Nat) : Int)) (hk : k ≤ 16) (h0 : 0 ≤ a) (h1 : a < 65536) : bits .and .u16 a m = a % ((2 ^ k : Nat) : Int) := by
  have hp : 2 ^ k ≤ 2 ^ 16 := Nat.pow_le_pow_right (by decide) hk
  have hp0 : 0 < 2 ^ k := Nat.pow_pos (by decide)
  obtain ⟨A, rfl⟩ := Int.eq_ofNat_of_zero_le h0
  subst hm
  rw [u16_and_nat A _ (by omega) (by omega), Nat.and_two_pow_sub_one_eq_mod]
  omega
theorem and8 {a m : Int} (k : Nat) (hm : m = ((2 ^ k - 1 : Nat) : Int)) (hk : k ≤ 8) (h0 : 0 ≤ a) (h1 : a < 256) : bits .and .u8 a m = a % ((2 ^ k : Nat) : Int) := by
  have hp : 2 ^ k ≤ 2 ^ 8 := Nat.pow_le_pow_right (by decide) hk
  have hp0 : 0 < 2 ^ k := Nat.pow_pos (by decide)
  obtain ⟨A, rfl⟩ := Int.eq_ofNat_of_zero_le h0
  subst hm
  rw [u8_and_nat A _ (by omega) (by omega), Nat.and_two_pow_sub_one_eq_mod]
  omega
theorem and32 {a m : Int} (k : Nat) (hm : m = ((2 ^ k - 1 : Nat) : Int)) (hk : k ≤ 32) (h0 : 0 ≤ a) (h1 : a < 4294967296) : bits .and .u32 a m = a % ((2 ^ k : Nat) : Int) := by
  have hp : 2 ^ k ≤ 2 ^ 32 := Nat.pow_le_pow_right (by decide) hk
  have hp0 : 0 < 2 ^ k := Nat.pow_pos (by decide)
  obtain ⟨A, rfl⟩ := Int.eq_ofNat_of_zero_le h0
  subst hm
  rw [u32_and_nat A _ (by omega) (by omega), Nat.and_two_pow_sub_one_eq_mod]
  omega
theorem and64 {a m : Int} (k : Nat) (hm : m = ((2 ^ k - 1 : Nat) : Int)) (hk : k < 64) : bits .and .i64 a m = a % ((2 ^ k : Nat) : Int) := by
  have hp : 2 ^ k ≤ 2 ^ 63 := Nat.pow_le_pow_right (by decide) (by omega)
  have hp0 : 0 < 2 ^ k := Nat.pow_pos (by decide)
  subst hm
  show IntKind.i64.wrap ((BitVec.ofInt 64 a &&& BitVec.ofInt 64 ((2 ^ k - 1 : Nat) : Int)).toNat : Int) = _
  have e1 : (BitVec.ofInt 64 ((2 ^ k - 1 : Nat) : Int)).toNat = 2 ^ k - 1 := by
    rw [BitVec.ofInt_natCast, BitVec.toNat_ofNat]; exact Nat.mod_eq_of_lt (by omega)
  have e2 : (BitVec.ofInt 64 a).toNat = (a % 18446744073709551616).toNat := by
    rw [BitVec.toNat_ofInt]; rfl
  rw [BitVec.toNat_and, e1, e2, Nat.and_two_pow_sub_one_eq_mod]
  have hd : ((2 ^ k : Nat) : Int) ∣ 18446744073709551616 := by
    refine ⟨((2 ^ (64 - k) : Nat) : Int), ?_⟩
    have : 2 ^ k * 2 ^ (64 - k) = 2 ^ 64 := by rw [← Nat.pow_add]; congr 1; omega
    have h2 : ((2 ^ k : Nat) : Int) * ((2 ^ (64 - k) : Nat) : Int) = ((2 ^ 64 : Nat) : Int) := by rw [← this]; simp
    rw [h2]; rfl
  have h3 : (((a % 18446744073709551616).toNat % 2 ^ k : Nat) : Int) = a % ((2 ^ k : Nat) : Int) := by
    rw [Int.natCast_emod, Int.toNat_of_nonneg (by omega)]
    exact Int.emod_emod_of_dvd a hd
  rw [h3]
  have h4 : a % ((2 ^ k : Nat) : Int) < ((2 ^ k : Nat) : Int) := Int.emod_lt_of_pos _ (by omega)
  have h5 : 0 ≤ a % ((2 ^ k : Nat) : Int) := Int.emod_nonneg _ (by omega)
  exact wrap_i64 (by omega) (by omega)
/-- An or of parts that don't meet. -/
theorem or64 {a b : Int} (k : Nat) (hb0 : 0 ≤ b) (hb : b < ((2 ^ k : Nat) : Int)) (ha0 : 0 ≤ a) (ha1 : a + b < 9223372036854775808) (ha : a % ((2 ^ k : Nat) : Int) = 0) : bits .or .i64 a b = a + b := by
  obtain ⟨A, rfl⟩ := Int.eq_ofNat_of_zero_le ha0
  obtain ⟨B, rfl⟩ := Int.eq_ofNat_of_zero_le hb0
  show IntKind.i64.wrap ((BitVec.ofInt 64 (A : Int) ||| BitVec.ofInt 64 (B : Int)).toNat : Int) = _
  have e : ∀ n : Nat, (n : Int) < 9223372036854775808 → (BitVec.ofInt 64 (n : Int)).toNat = n := by
    intro n hn
    rw [BitVec.ofInt_natCast, BitVec.toNat_ofNat]; exact Nat.mod_eq_of_lt (by omega)
  rw [BitVec.toNat_or, e A (by omega), e B (by omega), nat_join k A B (by omega) (by omega)]
  rw [wrap_i64 (by omega) (by omega)]; omega
theorem or16 {a b : Int} (k : Nat) (hk : k ≤ 16) (ha0 : 0 ≤ a) (ha : a < ((2 ^ k : Nat) : Int)) (hb0 : 0 ≤ b) (hb1 : b < 65536) (hb : b % ((2 ^ k : Nat) : Int) = 0) : bits .or .u16 a b = a + b := by
  have hp : 2 ^ k ≤ 2 ^ 16 := Nat.pow_le_pow_right (by decide) hk
  obtain ⟨A, rfl⟩ := Int.eq_ofNat_of_zero_le ha0
  obtain ⟨B, rfl⟩ := Int.eq_ofNat_of_zero_le hb0
  rw [u16_or_nat A B (by omega) (by omega), Nat.or_comm, nat_join k B A (by omega) (by omega)]
  omega
/-- A mask that is not at the bottom. -/
theorem nat_and_high (x i j : Nat) : x &&& ((2 ^ j - 1) * 2 ^ i) = x / 2 ^ i % 2 ^ j * 2 ^ i := by
  apply Nat.eq_of_testBit_eq
  intro n
  rw [Nat.testBit_and, ← Nat.shiftLeft_eq, ← Nat.shiftLeft_eq, Nat.testBit_shiftLeft, Nat.testBit_shiftLeft, Nat.testBit_two_pow_sub_one, Nat.testBit_mod_two_pow, ← Nat.shiftRight_eq_div_pow, Nat.testBit_shiftRight]
  by_cases h : n ≥ i
  · have : i + (n - i) = n := by omega
    rw [this]
    by_cases h2 : n - i < j <;> simp [h, h2]
  · simp [h]
theorem andHigh64 {a m : Int} (i j : Nat) (hm : m = (((2 ^ j - 1) * 2 ^ i : Nat) : Int)) (hm1 : m < 9223372036854775808) (h0 : 0 ≤ a) (h1 : a < 9223372036854775808) : bits .and .i64 a m = a / ((2 ^ i : Nat) : Int) % ((2 ^ j : Nat) : Int) * ((2 ^ i : Nat) : Int) := by
  obtain ⟨A, rfl⟩ := Int.eq_ofNat_of_zero_le h0
  subst hm
  show IntKind.i64.wrap ((BitVec.ofInt 64 (A : Int) &&& BitVec.ofInt 64 (((2 ^ j - 1) * 2 ^ i : Nat) : Int)).toNat : Int) = _
  have e : ∀ n : Nat, (n : Int) < 9223372036854775808 → (BitVec.ofInt 64 (n : Int)).toNat = n := by
    intro n hn
    rw [BitVec.ofInt_natCast, BitVec.toNat_ofNat]; exact Nat.mod_eq_of_lt (by omega)
  rw [BitVec.toNat_and, e A h1, e _ hm1]
  have hle : A &&& ((2 ^ j - 1) * 2 ^ i) ≤ A := Nat.and_le_left
  rw [wrap_i64 (by omega) (by omega), nat_and_high]
  simp
theorem fdiv_pos {a b : Int} (hb : 0 < b) : Int.fdiv a b = a / b := Int.fdiv_eq_ediv_of_nonneg _ (by omega)
theorem tdiv_nn {a b : Int} (ha : 0 ≤ a) : Int.tdiv a b = a / b := Int.tdiv_eq_ediv_of_nonneg ha
theorem tmod_nn {a b : Int} (ha : 0 ≤ a) : Int.tmod a b = a % b := Int.tmod_eq_emod_of_nonneg ha
end Go.Vc
