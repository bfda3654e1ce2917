/-
  Masks of 32 bits.
-/
import Derived.Test.YtdjgicimfeocbaaGreatWrap
namespace Go.Vc
open Go
theorem andHigh32 {a m : Int} (i j : Nat) (hm : m = (((2 ^ j - 1) * 2 ^ i : Nat) : Int)) (hm1 : m < 4294967296) (h0 : 0 ≤ a) (h1 : a < 4294967296) : bits .and .u32 a m = a / ((2 ^ i : Nat) : Int) % ((2 ^ j : Nat) : Int) * ((2 ^ i : Nat) : Int) := by
  obtain ⟨A, rfl⟩ := Int.eq_ofNat_of_zero_le h0
  subst hm
  rw [u32_and_nat A _ (by omega) (by omega), nat_and_high]
  simp
theorem andNot3 {a : Int} (h0 : 0 ≤ a) (h1 : a < 4294967296) : bits .andNot .u32 a 3 = a - a % 4 := by
  have e : bits .andNot .u32 a 3 = bits .and .u32 a 4294967292 := by
    show IntKind.wrap .u32 ((BitVec.ofInt 32 a &&& ~~~ BitVec.ofInt 32 3).toNat : Int) = IntKind.wrap .u32 ((BitVec.ofInt 32 a &&& BitVec.ofInt 32 4294967292).toNat : Int)
    rw [show ~~~ BitVec.ofInt 32 3 = BitVec.ofInt 32 4294967292 from by decide]
  rw [e, andHigh32 2 30 (by decide) (by decide) h0 h1]
  simp only [show ((2 ^ 2 : Nat) : Int) = 4 by decide, show ((2 ^ 30 : Nat) : Int) = 1073741824 by decide]
  omega
theorem andNot1 {a : Int} (h0 : 0 ≤ a) (h1 : a < 4294967296) : bits .andNot .u32 a 1 = a - a % 2 := by
  have e : bits .andNot .u32 a 1 = bits .and .u32 a 4294967294 := by
    show IntKind.wrap .u32 ((BitVec.ofInt 32 a &&& ~~~ BitVec.ofInt 32 1).toNat : Int) = IntKind.wrap .u32 ((BitVec.ofInt 32 a &&& BitVec.ofInt 32 4294967294).toNat : Int)
    rw [show ~~~ BitVec.ofInt 32 1 = BitVec.ofInt 32 4294967294 from by decide]
  rw [e, andHigh32 1 31 (by decide) (by decide) h0 h1]
  simp only [show ((2 ^ 1 : Nat) : Int) = 2 by decide, show ((2 ^ 31 : Nat) : Int) = 2147483648 by decide]
  omega
end Go.Vc
