/-
  Counting bits.
-/
import Derived.Test.YtdjgicimfeocbaaGreatVc
namespace Go.Proofs.YtdjgicimfeocbaaGreat

/-- How many bits are set below i. -/
def pc (l : Nat) : Nat → Nat
  | 0 => 0
  | i + 1 => pc l i + l / 2 ^ i % 2
theorem bits_fact : ∀ a < 64, ∀ b < 128, a + b ≠ 0 → pc ((128 * a + b) &&& (128 * a + b - 1)) 13 + 1 = pc (128 * a + b) 13 ∧ (128 * a + b) &&& (128 * a + b - 1) < 128 * a + b := by decide +kernel
end Go.Proofs.YtdjgicimfeocbaaGreat
