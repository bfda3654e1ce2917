/-
  ThumbFields: what Decode gives lies in its ranges.
-/
import Derived.Test.YtigpcfocaipicaaG0
import Derived.Test.YtigpcfocaipicaaPure
import Derived.Test.YtigpcfocaipicaaBits
import Derived.Laws.BitsAllLaws
namespace Go.Proofs.Ytigpcfocaipicaa
open Go.Vc
set_option linter.unusedVariables false

def ok {α : Type} (o : Option α) (P : α → Prop) : Prop := ∃ r, o = some r ∧ P r
theorem ok_some {α : Type} {x : α} {P : α → Prop} (h : P x) : ok (some x) P := ⟨x, rfl, h⟩
theorem ok_bind {α β : Type} {o : Option α} {f : α → Option β} {Q : α → Prop} {P : β → Prop} (h : ok o Q) (k : ∀ x, Q x → ok (f x) P) : ok (o.bind f) P := by
  obtain ⟨x, rfl, hx⟩ := h; exact k x hx
theorem ok_cond {α : Type} {b : Bool} {x y : Option α} {P : α → Prop} (h1 : b = true → ok x P) (h2 : b = false → ok y P) : ok (cond b x y) P := by
  cases b
  · exact h2 rfl
  · exact h1 rfl
theorem ok_let {α β : Type} {v : α} {f : α → Option β} {P : β → Prop} (h : ok (f v) P) : ok (Let v f) P := h
theorem pow_cast (k : Nat) : (2 : Int) ^ k = ((2 ^ k : Nat) : Int) := by rw [Int.natCast_pow]; rfl
theorem fdiv_cast (q m : Nat) : Int.fdiv (q : Int) (m : Int) = ((q / m : Nat) : Int) := by rw [Int.fdiv_eq_ediv_of_nonneg _ (by omega)]; rfl
theorem field_eq (q k n : Nat) (hq : q < 65536) (hk : k ≤ 16) (hn : n ≤ 16) : f_field (q : Int) (k : Int) (n : Int) = some ((q / 2 ^ k % 2 ^ n : Nat) : Int) := by
  have h1 : q / 2 ^ k ≤ q := Nat.div_le_self _ _
  have h2 : 2 ^ n ≤ 2 ^ 16 := Nat.pow_le_pow_right (by decide) hn
  have h3 : 0 < 2 ^ n := Nat.pow_pos (by decide)
  have h4 : q / 2 ^ k % 2 ^ n < 2 ^ n := Nat.mod_lt _ h3
  unfold f_field
  rw [cpos (by omega), cpos (by omega), Let_eq, Int.toNat_natCast, Int.toNat_natCast, show min k 32 = k by omega, show min n 32 = n by omega, pow_cast, pow_cast, fdiv_cast, Int.one_mul]
  generalize q / 2 ^ k = y at h1 h4 ⊢
  rw [wrap_u32 (x := ((2 ^ n : Nat) : Int)) (by omega) (by omega), wrap_u32 (by omega) (by omega),
    and32 n (by omega) (by omega) (by omega) (by omega), show ((y : Nat) : Int) % ((2 ^ n : Nat) : Int) = ((y % 2 ^ n : Nat) : Int) from rfl]
  generalize y % 2 ^ n = z at h4 ⊢
  rw [wrap_i64 (by omega) (by omega)]
theorem bit_eq (q k : Nat) (hq : q < 65536) (hk : k ≤ 16) : f_bit (q : Int) (k : Int) = some (decide (q / 2 ^ k % 2 = 1)) := by
  have h1 : q / 2 ^ k ≤ q := Nat.div_le_self _ _
  unfold f_bit
  rw [cpos (by omega), Let_eq, Int.toNat_natCast, show min k 32 = k by omega, pow_cast, fdiv_cast]
  generalize q / 2 ^ k = y at h1 ⊢
  rw [and32 1 (by decide) (by decide) (by omega) (by omega)]
  congr 1
  have e : ((y : Nat) : Int) % ((2 ^ 1 : Nat) : Int) = ((y % 2 : Nat) : Int) := rfl
  rw [e]
  by_cases h : y % 2 = 1
  · rw [h]; rfl
  · rw [decide_eq_false h, beq_eq_false_iff_ne.2 (by omega)]
end Go.Proofs.Ytigpcfocaipicaa
