/-
  Numbers of fixed width as remainders, for omega.
-/
import Derived.Test.YtdjgicimfeocbaaGreatPure
namespace Go.Vc
open Go
set_option linter.unusedVariables false
set_option linter.unusedSimpArgs false
theorem wr_u8 (x : Int) : IntKind.wrap .u8 x = x % 256 := by
  simp only [IntKind.wrap, IntKind.bits, IntKind.signed, Bool.false_and, Bool.false_eq_true, if_false, show (2 : Int) ^ 8 = 256 by decide]
theorem wr_u16 (x : Int) : IntKind.wrap .u16 x = x % 65536 := by
  simp only [IntKind.wrap, IntKind.bits, IntKind.signed, Bool.false_and, Bool.false_eq_true, if_false, show (2 : Int) ^ 16 = 65536 by decide]
theorem wr_u32 (x : Int) : IntKind.wrap .u32 x = x % 4294967296 := by
  simp only [IntKind.wrap, IntKind.bits, IntKind.signed, Bool.false_and, Bool.false_eq_true, if_false, show (2 : Int) ^ 32 = 4294967296 by decide]
theorem wr_u64 (x : Int) : IntKind.wrap .u64 x = x % 18446744073709551616 := by
  simp only [IntKind.wrap, IntKind.bits, IntKind.signed, Bool.false_and, Bool.false_eq_true, if_false, show (2 : Int) ^ 64 = 18446744073709551616 by decide]
theorem wr_i8 (x : Int) : IntKind.wrap .i8 x = (x + 128) % 256 - 128 := by
  simp only [IntKind.wrap, IntKind.bits, IntKind.signed, show (2 : Int) ^ 8 = 256 by decide, show (2 : Int) ^ (8 - 1) = 128 by decide, Bool.true_and, decide_eq_true_eq]
  split <;> omega
theorem wr_i16 (x : Int) : IntKind.wrap .i16 x = (x + 32768) % 65536 - 32768 := by
  simp only [IntKind.wrap, IntKind.bits, IntKind.signed, show (2 : Int) ^ 16 = 65536 by decide, show (2 : Int) ^ (16 - 1) = 32768 by decide, Bool.true_and, decide_eq_true_eq]
  split <;> omega
theorem wr_i32 (x : Int) : IntKind.wrap .i32 x = (x + 2147483648) % 4294967296 - 2147483648 := by
  simp only [IntKind.wrap, IntKind.bits, IntKind.signed, show (2 : Int) ^ 32 = 4294967296 by decide, show (2 : Int) ^ (32 - 1) = 2147483648 by decide, Bool.true_and, decide_eq_true_eq]
  split <;> omega
theorem wr_i64 (x : Int) : IntKind.wrap .i64 x = (x + 9223372036854775808) % 18446744073709551616 - 9223372036854775808 := by
  simp only [IntKind.wrap, IntKind.bits, IntKind.signed, show (2 : Int) ^ 64 = 18446744073709551616 by decide, show (2 : Int) ^ (64 - 1) = 9223372036854775808 by decide, Bool.true_and, decide_eq_true_eq]
  split <;> omega
/-- Two loops that go side by side. -/
theorem loopO_sim {σ τ ρ ρ' : Type} {f : σ → Option (σ ⊕ ρ)} {g : τ → Option (τ ⊕ ρ')} (Q : ρ → ρ' → Prop) (R : Nat → σ → τ → Prop)
    (h : ∀ n s t, R n s t → (∃ s' t' m, f s = some (.inl s') ∧ g t = some (.inl t') ∧ m < n ∧ R m s' t') ∨ ∃ r r', f s = some (.inr r) ∧ g t = some (.inr r') ∧ Q r r') :
    ∀ (n : Nat) (s : σ) (t : τ), R n s t → ∃ r r', loopO f s = some r ∧ loopO g t = some r' ∧ Q r r' := by
  intro n
  induction n using Nat.strongRecOn with
  | _ n ih =>
    intro s t hs
    rw [loopO_eq f, loopO_eq g]
    rcases h n s t hs with ⟨s', t', m, e1, e2, hm, hi⟩ | ⟨r, r', e1, e2, hq⟩
    · rw [e1, e2]; exact ih m hm s' t' hi
    · rw [e1, e2]; exact ⟨r, r', rfl, rfl, hq⟩
end Go.Vc
