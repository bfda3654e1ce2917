/-
  ThumbFields: what is decoded lies in its ranges.
-/
import Derived.Test.YtigpcfocaipicaaG1
import Derived.Test.YtigpcfocaipicaaFields
namespace Go.Proofs.Ytigpcfocaipicaa
open Go.Vc
set_option linter.unusedVariables false

def Good : (Int × Int × Int × Bool × Int × Int × Int × Int × Int × Bool × Int × Int × Bool × Bool × Bool × Bool × Bool × Bool × Bool × Bool × Int × Bool × Bool × Bool) → Prop
  | (x0, x1, x2, x3, x4, x5, x6, x7, x8, x9, x10, x11, x12, x13, x14, x15, x16, x17, x18, x19, x20, x21, x22, x23) =>
    (0 ≤ x0 ∧ x0 ≤ 13) ∧ (x1 = 14 ∨ x0 = 9 ∧ 0 ≤ x1 ∧ x1 < 14) ∧ (0 ≤ x2 ∧ x2 ≤ 15) ∧ (0 ≤ x4 ∧ x4 ≤ 15) ∧ (0 ≤ x5 ∧ x5 ≤ 15) ∧ (0 ≤ x6 ∧ x6 ≤ 15) ∧ (0 ≤ x7 ∧ x7 ≤ 15) ∧ (0 ≤ x11 ∧ x11 < 32) ∧ (0 ≤ x20 ∧ x20 < 65536) ∧ x19 = false ∧ x22 = false ∧ x15 = false ∧ x21 = false ∧ (x18 = false ∨ x0 = 8)
theorem field_in (q : Nat) (hq : q < 65536) (k n : Nat) (hk : k ≤ 16) (hn : n ≤ 16) : ∃ a : Int, f_field (q : Int) (k : Int) (n : Int) = some a ∧ 0 ≤ a ∧ a < ((2 ^ n : Nat) : Int) :=
  ⟨_, field_eq q k n hq hk hn, Int.natCast_nonneg _, Int.ofNat_lt.2 (Nat.mod_lt _ (Nat.pow_pos (by decide)))⟩
theorem bit_in (q : Nat) (hq : q < 65536) (k : Nat) (hk : k ≤ 16) : ∃ a : Bool, f_bit (q : Int) (k : Int) = some a := ⟨_, bit_eq q k hq hk⟩
theorem shifts_ok (q : Nat) (hq : q < 65536) : ok (f_shifts (q : Int)) Good := by
  obtain ⟨a, ha, a0, a1⟩ : ∃ a : Int, f_field (q : Int) 11 2 = some a ∧ 0 ≤ a ∧ a < 4 := field_in q hq 11 2 (by decide) (by decide)
  obtain ⟨b, hb, b0, b1⟩ : ∃ a : Int, f_field (q : Int) 0 3 = some a ∧ 0 ≤ a ∧ a < 8 := field_in q hq 0 3 (by decide) (by decide)
  obtain ⟨c, hc, c0, c1⟩ : ∃ a : Int, f_field (q : Int) 3 3 = some a ∧ 0 ≤ a ∧ a < 8 := field_in q hq 3 3 (by decide) (by decide)
  obtain ⟨d, hd, d0, d1⟩ : ∃ a : Int, f_field (q : Int) 6 5 = some a ∧ 0 ≤ a ∧ a < 32 := field_in q hq 6 5 (by decide) (by decide)
  obtain ⟨e, he, e0, e1⟩ : ∃ a : Int, f_field (q : Int) 6 3 = some a ∧ 0 ≤ a ∧ a < 8 := field_in q hq 6 3 (by decide) (by decide)
  obtain ⟨u, hu⟩ : ∃ a : Bool, f_bit (q : Int) 9 = some a := bit_in q hq 9 (by decide)
  obtain ⟨v, hv⟩ : ∃ a : Bool, f_bit (q : Int) 10 = some a := bit_in q hq 10 (by decide)
  unfold f_shifts f_op
  simp only [ha, hb, hc, hd, he, hu, hv, bind_some']
  repeat' (first | refine ok_cond (fun _ => ?_) (fun _ => ?_) | (refine ok_some ?_; simp only [Good]; simp; omega))
theorem high_ok (q : Nat) (hq : q < 65536) (a b : Int) (ha : 0 ≤ a ∧ a ≤ 15) (hb : 0 ≤ b ∧ b ≤ 15) : ok (f_high (q : Int) a b) Good := by
  obtain ⟨c, hc, c0, c1⟩ : ∃ a : Int, f_field (q : Int) 8 2 = some a ∧ 0 ≤ a ∧ a < 4 := field_in q hq 8 2 (by decide) (by decide)
  unfold f_high
  simp only [hc, bind_some']
  repeat' (first | refine ok_cond (fun _ => ?_) (fun _ => ?_) | (refine ok_some ?_; simp only [Good]; simp; omega))
end Go.Proofs.Ytigpcfocaipicaa
