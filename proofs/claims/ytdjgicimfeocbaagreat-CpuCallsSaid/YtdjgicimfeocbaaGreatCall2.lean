/-
  CpuCalls: the steps.
-/
import Derived.Test.YtdjgicimfeocbaaGreatCall
namespace Go.Proofs.YtdjgicimfeocbaaGreat
open Go.Vc
set_option linter.unusedVariables false
set_option linter.unusedSimpArgs false

theorem and_not1 {a : Int} (h0 : 0 ≤ a) (h1 : a < 4294967296) : bits .andNot .u32 a 1 = a - a % 2 := andNot1 h0 h1
/-- Bit 5 cleared and set again. -/
theorem t_again {c : Int} (c0 : 0 ≤ c) (c1 : c < 4294967296) (h : W c = 2) : bits .or .u32 (bits .andNot .u32 c 32) 32 = c := by
  have h5 : c / 32 % 2 = 1 := by
    unfold W at h
    by_cases e : c / 32 % 2 = 1
    · exact e
    · rw [if_neg e] at h; cases h
  obtain ⟨S, rfl⟩ := Int.eq_ofNat_of_zero_le c0
  have h1 : S < 4294967296 := by omega
  have e := u32_andNot_nat S 32 h1 (by decide)
  have lt : S &&& (4294967295 - 32) < 4294967296 := Nat.lt_of_le_of_lt Nat.and_le_left h1
  have e2 := u32_or_nat (S &&& (4294967295 - 32)) 32 lt (by decide)
  have e' : bits .andNot .u32 (S : Int) 32 = ((S &&& (4294967295 - 32) : Nat) : Int) := e
  have e2' : bits .or .u32 ((S &&& (4294967295 - 32) : Nat) : Int) 32 = (((S &&& (4294967295 - 32)) ||| 32 : Nat) : Int) := e2
  rw [e', e2']
  congr 1
  have b5 : S.testBit 5 = true := by rw [Nat.testBit_eq_decide_div_mod_eq, decide_eq_true_eq]; omega
  apply Nat.eq_of_testBit_eq
  intro i
  rw [Nat.testBit_or, Nat.testBit_and]
  by_cases hi : i < 32
  · have key : ∀ j, j < 32 → (4294967295 - 32 : Nat).testBit j = !(decide (j = 5)) ∧ (32 : Nat).testBit j = decide (j = 5) := by decide
    rw [(key i hi).1, (key i hi).2]
    by_cases h6 : i = 5
    · subst h6; rw [b5]; rfl
    · rw [decide_eq_false h6]; simp
  · have z : S.testBit i = false := Nat.testBit_lt_two_pow (Nat.lt_of_lt_of_le h1 (show 2 ^ 32 ≤ 2 ^ i from Nat.pow_le_pow_right (by decide) (by omega)))
    have z2 : (32 : Nat).testBit i = false := Nat.testBit_lt_two_pow (Nat.lt_of_lt_of_le (by decide) (show 2 ^ 32 ≤ 2 ^ i from Nat.pow_le_pow_right (by decide) (by omega)))
    rw [z, z2]; rfl
section
variable {p0 p1 : Int} {mv : Bool} {r o h s : Nat → Int} {c : Int} {m : Nat → Int} {log : List E51}
theorem link_far {af mv : Bool} {k cd im b e : Int} (hb : r 14 = b) (he : r 15 = e) (b0 : 0 ≤ b) (b1 : b < 1000000) (i0 : 0 ≤ im) (i1 : im < 1000000) (hev : (b + im) % 2 = 0) (e0 : 2 ≤ e) (e1 : e < 1000000) (e2 : e % 2 = 0) :
    f_link p0 p1 af mv r o h s c m log k cd 1 false 0 0 0 0 im false 0 0 false false false false false false false false 0 false false false = some (true, rup (rup r 14 (e - 1)) 15 (b + im)) := by
  unfold f_link
  rw [cne (by decide), show (15 : Int) = ((15 : Nat) : Int) from rfl, show (14 : Int) = ((14 : Nat) : Int) from rfl, Get_eq 14 (by decide), bind_some', Get_eq 15 (by decide), bind_some', Set_eq 14 (by decide), bind_some', show ((15 : Nat) : Int) = (15 : Int) from rfl, put_15, bind_some', hb, he, wrap_u32 (x := b + im) (by omega) (by omega), wrap_u32 (x := e - 2) (by omega) (by omega), and_not1 (by omega) (by omega), hev]
  have o1 : bits .or .u32 (e - 2) 1 = e - 1 := by
    have key := or32 (a := 1) (b := e - 2) 1 (by decide) (by decide) (by decide) (by omega) (by omega) (by show (e - 2) % 2 = 0; omega)
    obtain ⟨E, hE⟩ := Int.eq_ofNat_of_zero_le (show 0 ≤ e - 2 by omega)
    have c1 := u32_or_nat E 1 (by omega) (by decide)
    have c2 := u32_or_nat 1 E (by decide) (by omega)
    have c1' : bits .or .u32 (E : Int) 1 = ((E ||| 1 : Nat) : Int) := c1
    have c2' : bits .or .u32 1 (E : Int) = ((1 ||| E : Nat) : Int) := c2
    rw [hE] at key ⊢
    rw [c2', Nat.or_comm] at key
    rw [c1', key]; omega
  rw [o1, show b + im - 0 = b + im by omega]
theorem bx_arm {af mv : Bool} {k cd b : Int} (hb : r 14 = b) (b0 : 0 ≤ b) (b1 : b < 1000000) (b2 : b % 4 = 0) :
    f_bx p0 p1 af mv r o h s 31 m log k cd 0 false 0 0 0 14 0 false 0 0 false false false false false false false false 0 false false false = some (true, rup r 15 b, o, h, 31) := by
  unfold f_bx f_Status
  rw [show (14 : Int) = ((14 : Nat) : Int) from rfl, Get_eq 14 (by decide), bind_some', bind_some', hb, and32 1 (by decide) (by decide) (by omega) (by omega), show b % ((2 ^ 1 : Nat) : Int) = 0 by show b % 2 = 0; omega, show bits .or .u32 (bits .andNot .u32 31 32) (IntKind.wrap .u32 (0 * 32)) = 31 by decide, SetStatus_same, bind_some']
  dsimp only
  rw [put_15, bind_some', and_not1 (by omega) (by omega), show b - b % 2 = b by omega]
theorem bx_thumb {af mv : Bool} {k cd b : Int} (c0 : 0 ≤ c) (c1 : c < 4294967296) (hW : W c = 2) (hb : r 14 = b) (b0 : 0 ≤ b) (b1 : b < 1000000) (b2 : b % 2 = 1) :
    f_bx p0 p1 af mv r o h s c m log k cd 0 false 0 0 0 14 0 false 0 0 false false false false false false false false 0 false false false = some (true, rup r 15 (b - 1), o, h, c) := by
  unfold f_bx f_Status
  rw [show (14 : Int) = ((14 : Nat) : Int) from rfl, Get_eq 14 (by decide), bind_some', bind_some', hb, and32 1 (by decide) (by decide) (by omega) (by omega), show b % ((2 ^ 1 : Nat) : Int) = 1 by show b % 2 = 1; omega, show IntKind.wrap .u32 ((1 : Int) * 32) = 32 by decide, t_again c0 c1 hW, SetStatus_slot rfl, bind_some']
  dsimp only
  rw [put_15, bind_some', and_not1 (by omega) (by omega), show b - b % 2 = b - 1 by omega]
theorem data_flags {k : Nat} (hk : k < 15) (c0 : 0 ≤ c) (c1 : c < 4294967296) (r0 : 0 ≤ r k) (r1 : r k < 4294967296) :
    ∃ c2 : Int, (∀ log, f_data p0 p1 false false r o h s c m log 1 14 4 true (k : Int) (k : Int) 0 0 1 true 0 0 false false false false false false false false 0 false false false = some (false, rup r k ((r k + 1) % 4294967296), o, h, c2, log)) ∧ 0 ≤ c2 ∧ c2 < 4294967296 ∧ c2 % 268435456 = c % 268435456 := by
  obtain ⟨f1, f2, f3, f4, e⟩ := Do_add (a := r k) (b := 1) (n := flN c) (z := flZ c) (c := flC c) (v := flV c) (sh := flC c) r0 r1 (by decide) (by decide)
  obtain ⟨c2, ec, d0, d1, d2⟩ := With_ex c0 c1 f1 f2 f3 f4
  refine ⟨c2, fun log => ?_, d0, d1, d2⟩
  unfold f_data f_Status
  rw [bind_some', BFlags_eq c0 c1, bind_some']
  dsimp only
  rw [cfalse rfl, bind_some']
  have ho : ∀ fl, f_operand p0 p1 false false r o h s c m log 1 14 4 true (k : Int) (k : Int) 0 0 1 true 0 0 false false false false false false false false 0 false false false fl = some (1, fl) := by
    intro fl
    unfold f_operand
    rw [ctrue rfl, Turned0 (by decide) (by decide), bind_some']
  have hs : f_slot c = f_slot c2 := slot_mod c0 c1 d0 d1 (by omega)
  rw [ho, bind_some']
  dsimp only
  rw [Get_eq k (by omega), bind_some', cfalse rfl, bind_some', cfalse rfl, bind_some', e, bind_some']
  dsimp only
  rw [show f_Keeps 4 = some false from keeps4, bind_some', cnot, ctrue rfl, cne (by omega), bind_some', ec, bind_some', SetStatus_slot hs, bind_some']
  dsimp only
  rw [cnot, cfalse rfl]
  unfold f_put
  rw [Set_eq k (by omega), bind_some', cne (by omega), bind_some']
/-- The same but for some registers. -/
def But (r r' : Nat → Int) (p : Nat → Prop) : Prop := ∀ i, ¬ p i → r' i = r i
theorem dec_bl : f_aDecode 3942645761 = some (9, 14, 0, false, 0, 0, 0, 0, 4, false, 0, 0, false, false, 0, true) := by kernel_rfl
theorem dec_bx : f_aDecode 3778019102 = some (5, 14, 0, false, 0, 0, 0, 14, 0, false, 0, 0, false, false, 0, false) := by kernel_rfl
theorem dec_a1 : f_aDecode 3800109057 = some (1, 14, 4, false, 1, 1, 0, 0, 1, true, 0, 0, false, false, 0, false) := by kernel_rfl
theorem dec_a2 : f_aDecode 3800178689 = some (1, 14, 4, false, 2, 2, 0, 0, 1, true, 0, 0, false, false, 0, false) := by kernel_rfl
theorem dec_t0 : f_tDecode (IntKind.wrap .u16 61440) = some (13, 14, 0, false, 0, 0, 0, 0, 0, false, 0, 0, false, false, false, false, false, 0, false) := by kernel_rfl
theorem dec_t1 : f_tDecode (IntKind.wrap .u16 63492) = some (13, 14, 1, false, 0, 0, 0, 0, 8, false, 0, 0, false, false, false, false, false, 0, false) := by kernel_rfl
theorem dec_ta1 : f_tDecode (IntKind.wrap .u16 12545) = some (1, 14, 4, true, 1, 1, 0, 0, 1, true, 0, 0, false, false, false, false, false, 0, false) := by kernel_rfl
theorem dec_ta2 : f_tDecode (IntKind.wrap .u16 12801) = some (1, 14, 4, true, 2, 2, 0, 0, 1, true, 0, 0, false, false, false, false, false, 0, false) := by kernel_rfl
theorem dec_tbx : f_tDecode (IntKind.wrap .u16 18288) = some (5, 14, 0, false, 0, 0, 0, 14, 0, false, 0, 0, false, false, false, false, false, 0, false) := by kernel_rfl
end
end Go.Proofs.YtdjgicimfeocbaaGreat
