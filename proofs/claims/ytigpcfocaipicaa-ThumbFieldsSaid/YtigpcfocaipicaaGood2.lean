/-
  ThumbFields: what is decoded lies in its ranges, second part.
-/
import Derived.Test.YtigpcfocaipicaaG
import Derived.Test.YtigpcfocaipicaaGood
import Derived.Test.YtigpcfocaipicaaRead
namespace Go.Proofs.Ytigpcfocaipicaa
open Go.Vc
set_option linter.unusedVariables false

theorem ok_true {P : Bool → Prop} (h : ∀ b, P b) {o : Option Bool} (k : ∃ b, o = some b) : ok o P := by obtain ⟨b, rfl⟩ := k; exact ⟨b, rfl, h b⟩
theorem memory_ok (q : Nat) (hq : q < 65536) : ok (f_memory (q : Int)) Good := by
  obtain ⟨b, hb, b0, b1⟩ : ∃ a : Int, f_field (q : Int) 0 3 = some a ∧ 0 ≤ a ∧ a < 8 := field_in q hq 0 3 (by decide) (by decide)
  obtain ⟨c, hc, c0, c1⟩ : ∃ a : Int, f_field (q : Int) 3 3 = some a ∧ 0 ≤ a ∧ a < 8 := field_in q hq 3 3 (by decide) (by decide)
  obtain ⟨d, hd, d0, d1⟩ : ∃ a : Int, f_field (q : Int) 6 5 = some a ∧ 0 ≤ a ∧ a < 32 := field_in q hq 6 5 (by decide) (by decide)
  obtain ⟨e, he, e0, e1⟩ : ∃ a : Int, f_field (q : Int) 6 3 = some a ∧ 0 ≤ a ∧ a < 8 := field_in q hq 6 3 (by decide) (by decide)
  obtain ⟨g, hg, g0, g1⟩ : ∃ a : Int, f_field (q : Int) 8 3 = some a ∧ 0 ≤ a ∧ a < 8 := field_in q hq 8 3 (by decide) (by decide)
  obtain ⟨m, hm, m0, m1⟩ : ∃ a : Int, f_field (q : Int) 10 2 = some a ∧ 0 ≤ a ∧ a < 4 := field_in q hq 10 2 (by decide) (by decide)
  obtain ⟨u, hu⟩ : ∃ a : Bool, f_bit (q : Int) 9 = some a := bit_in q hq 9 (by decide)
  obtain ⟨v, hv⟩ : ∃ a : Bool, f_bit (q : Int) 10 = some a := bit_in q hq 10 (by decide)
  obtain ⟨x, hx⟩ : ∃ a : Bool, f_bit (q : Int) 11 = some a := bit_in q hq 11 (by decide)
  obtain ⟨y, hy⟩ : ∃ a : Bool, f_bit (q : Int) 12 = some a := bit_in q hq 12 (by decide)
  have hi : 0 ≤ ixL ([1, 2, 1, 3] : List Int) m ∧ ixL ([1, 2, 1, 3] : List Int) m ≤ 15 := by
    obtain rfl | rfl | rfl | rfl : m = 0 ∨ m = 1 ∨ m = 2 ∨ m = 3 := by omega
    all_goals decide
  unfold f_memory
  simp only [hb, hc, hd, he, hg, hm, hu, hv, hx, hy, bind_some']
  rw [cand (x := some _) m0 (by omega)]
  generalize ixL ([1, 2, 1, 3] : List Int) m = z at hi ⊢
  refine ok_cond (fun _ => ?_) (fun _ => ?_)
  · repeat' (first | refine ok_cond (fun _ => ?_) (fun _ => ?_) | (refine ok_some ?_; simp only [Good]; simp <;> omega))
  · refine ok_bind (Q := fun _ => True) (ok_true (fun _ => trivial) ?_) fun s _ => ?_
    · cases (Int.fdiv (q : Int) 4096 == 6) <;> exact ⟨_, rfl⟩
    repeat' (first | refine ok_cond (fun _ => ?_) (fun _ => ?_) | (refine ok_some ?_; simp only [Good]; simp <;> omega))
theorem i64_or_nat (a b : Nat) (ha : a < 65536) (hb : b < 65536) : bits .or .i64 (a : Int) (b : Int) = ((a ||| b : Nat) : Int) := by
  have hx : a ||| b < 2 ^ 16 := Nat.or_lt_two_pow (by omega) (by omega)
  show IntKind.i64.wrap ((BitVec.ofInt 64 (a : Int) ||| BitVec.ofInt 64 (b : Int)).toNat : Int) = _
  have h : ∀ x : Nat, x < 65536 → (BitVec.ofInt 64 (x : Int)).toNat = x := fun x hx => by
    rw [BitVec.ofInt_natCast, BitVec.toNat_ofNat, Nat.mod_eq_of_lt (by omega)]
  rw [BitVec.toNat_or, h a ha, h b hb, wrap_i64 (by omega) (by omega)]
theorem or_lt16 (a b : Nat) (ha : a < 65536) (hb : b < 65536) : 0 ≤ bits .or .i64 (a : Int) (b : Int) ∧ bits .or .i64 (a : Int) (b : Int) < 65536 := by
  have h : a ||| b < 2 ^ 16 := Nat.or_lt_two_pow (by omega) (by omega)
  rw [i64_or_nat a b ha hb]
  omega
set_option maxRecDepth 100000 in
theorem stack_ok (q : Nat) (hq : q < 65536) : ok (f_stack (q : Int)) Good := by
  obtain ⟨b, hb, b0, b1⟩ : ∃ a : Int, f_field (q : Int) 8 1 = some a ∧ 0 ≤ a ∧ a < 2 := field_in q hq 8 1 (by decide) (by decide)
  obtain ⟨u, hu⟩ : ∃ a : Bool, f_bit (q : Int) 7 = some a := bit_in q hq 7 (by decide)
  have e : bits .and .u32 (q : Int) 255 = ((q % 256 : Nat) : Int) := by rw [and32 8 (by decide) (by decide) (by omega) (by omega)]; rfl
  have w1 : IntKind.wrap .i64 (bits .and .u32 (q : Int) 255) = ((q % 256 : Nat) : Int) := by rw [e, wrap_i64 (by omega) (by omega)]
  obtain ⟨b, rfl⟩ := Int.eq_ofNat_of_zero_le b0
  have h1 := or_lt16 (q % 256) (b * 16384) (by omega) (by omega)
  have h2 := or_lt16 (q % 256) (b * 32768) (by omega) (by omega)
  have w2 : IntKind.wrap .i64 ((b : Int) * 16384) = ((b * 16384 : Nat) : Int) := by rw [wrap_i64 (by omega) (by omega)]; omega
  have w3 : IntKind.wrap .i64 ((b : Int) * 32768) = ((b * 32768 : Nat) : Int) := by rw [wrap_i64 (by omega) (by omega)]; omega
  unfold f_stack
  simp only [hb, hu, bind_some', w1, w2, w3]
  generalize bits .or .i64 ((q % 256 : Nat) : Int) ((b * 16384 : Nat) : Int) = r1 at h1 ⊢
  generalize bits .or .i64 ((q % 256 : Nat) : Int) ((b * 32768 : Nat) : Int) = r2 at h2 ⊢
  repeat' (first | refine ok_cond (fun _ => ?_) (fun _ => ?_) | (refine ok_some ?_; simp only [Good]; simp <;> omega))
theorem or_hi : ∀ (a : Fin 8) (b : Fin 2), 0 ≤ bits .or .i64 ((a.val : Nat) : Int) (IntKind.wrap .i64 (((b.val : Nat) : Int) * 8)) ∧ bits .or .i64 ((a.val : Nat) : Int) (IntKind.wrap .i64 (((b.val : Nat) : Int) * 8)) ≤ 15 := by decide
theorem fourth_ok (q : Nat) (hq : q < 65536) : ok (f_fourth (q : Int)) Good := by
  obtain ⟨b, hb, b0, b1⟩ : ∃ a : Int, f_field (q : Int) 0 3 = some a ∧ 0 ≤ a ∧ a < 8 := field_in q hq 0 3 (by decide) (by decide)
  obtain ⟨c, hc, c0, c1⟩ : ∃ a : Int, f_field (q : Int) 3 3 = some a ∧ 0 ≤ a ∧ a < 8 := field_in q hq 3 3 (by decide) (by decide)
  obtain ⟨d, hd, d0, d1⟩ : ∃ a : Int, f_field (q : Int) 3 4 = some a ∧ 0 ≤ a ∧ a < 16 := field_in q hq 3 4 (by decide) (by decide)
  obtain ⟨e, he, e0, e1⟩ : ∃ a : Int, f_field (q : Int) 6 4 = some a ∧ 0 ≤ a ∧ a < 16 := field_in q hq 6 4 (by decide) (by decide)
  obtain ⟨g, hg, g0, g1⟩ : ∃ a : Int, f_field (q : Int) 8 3 = some a ∧ 0 ≤ a ∧ a < 8 := field_in q hq 8 3 (by decide) (by decide)
  obtain ⟨m, hm, m0, m1⟩ : ∃ a : Int, f_field (q : Int) 7 1 = some a ∧ 0 ≤ a ∧ a < 2 := field_in q hq 7 1 (by decide) (by decide)
  obtain ⟨u, hu⟩ : ∃ a : Bool, f_bit (q : Int) 11 = some a := bit_in q hq 11 (by decide)
  obtain ⟨v, hv⟩ : ∃ a : Bool, f_bit (q : Int) 10 = some a := bit_in q hq 10 (by decide)
  have ho : 0 ≤ bits .or .i64 b (IntKind.wrap .i64 (m * 8)) ∧ bits .or .i64 b (IntKind.wrap .i64 (m * 8)) ≤ 15 := by
    obtain ⟨b, rfl⟩ := Int.eq_ofNat_of_zero_le b0
    obtain ⟨m, rfl⟩ := Int.eq_ofNat_of_zero_le m0
    exact or_hi ⟨b, by omega⟩ ⟨m, by omega⟩
  unfold f_fourth
  simp only [hb, hc, hd, he, hg, hm, hu, hv, bind_some']
  refine ok_cond (fun _ => ?_) (fun _ => ok_cond (fun _ => ?_) (fun _ => ?_))
  · refine ok_some ?_; simp only [Good]; simp <;> omega
  · exact ok_bind (high_ok q hq _ _ ho ⟨d0, by omega⟩) fun x hx => ok_some hx
  · obtain rfl | rfl | rfl | rfl | rfl | rfl | rfl | rfl | rfl | rfl | rfl | rfl | rfl | rfl | rfl | rfl : e = 0 ∨ e = 1 ∨ e = 2 ∨ e = 3 ∨ e = 4 ∨ e = 5 ∨ e = 6 ∨ e = 7 ∨ e = 8 ∨ e = 9 ∨ e = 10 ∨ e = 11 ∨ e = 12 ∨ e = 13 ∨ e = 14 ∨ e = 15 := by omega
    all_goals exact ⟨_, rfl, by simp only [Good]; simp <;> omega⟩
end Go.Proofs.Ytigpcfocaipicaa
