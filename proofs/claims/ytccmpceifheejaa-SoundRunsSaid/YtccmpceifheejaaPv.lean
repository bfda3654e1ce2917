/-
  The noise's bits, and how long a step of a wave is.
-/
import Derived.Test.YtccmpceifheejaaPu
import Derived.Test.YtccmpceifheejaaBits
import Derived.Test.YtccmpceifheejaaPure
namespace Go.Proofs.Ytccmpceifheejaa
open Go.Vc
set_option linter.unusedVariables false
set_option linter.unusedSimpArgs false
def chk6 (A : Nat) : Bool := (A &&& 18446744073709551551 == A - A / 64 % 2 * 64) && ((A &&& 18446744073709551551) ||| 64 == A - A / 64 % 2 * 64 + 64)
set_option maxRecDepth 100000 in
theorem chk6_all : (List.range 32768).all chk6 = true := by decide +kernel
theorem chk6_ok (A : Nat) (h : A < 32768) : A &&& 18446744073709551551 = A - A / 64 % 2 * 64 ∧ (A &&& 18446744073709551551) ||| 64 = A - A / 64 % 2 * 64 + 64 := by
  have := List.all_eq_true.1 chk6_all A (List.mem_range.2 h)
  simpa [chk6] using this
theorem ofI (x : Nat) (h : x < 9223372036854775808) : (BitVec.ofInt 64 (x : Int)).toNat = x := by
  rw [BitVec.ofInt_natCast, BitVec.toNat_ofNat, Nat.mod_eq_of_lt (by omega)]
theorem or64c (a b : Int) : bits .or .i64 a b = bits .or .i64 b a := by
  show IntKind.i64.wrap ((BitVec.ofInt 64 a ||| BitVec.ofInt 64 b).toNat : Int) = IntKind.i64.wrap ((BitVec.ofInt 64 b ||| BitVec.ofInt 64 a).toNat : Int)
  rw [BitVec.or_comm]
theorem xor64 (a b : Nat) (ha : a < 65536) (hb : b < 65536) : bits .xor .i64 (a : Int) (b : Int) = ((a ^^^ b : Nat) : Int) := by
  have hx : a ^^^ b < 2 ^ 16 := Nat.xor_lt_two_pow (by omega) (by omega)
  show IntKind.i64.wrap ((BitVec.ofInt 64 (a : Int) ^^^ BitVec.ofInt 64 (b : Int)).toNat : Int) = _
  rw [BitVec.toNat_xor, ofI a (by omega), ofI b (by omega), wrap_i64 (by omega) (by omega)]
theorem fb_eq {l : Int} (h0 : 0 ≤ l) (h1 : l < 32768) : bits .and .i64 (bits .xor .i64 l (Int.fdiv l 2)) 1 = fb l := by
  obtain ⟨A, rfl⟩ := Int.eq_ofNat_of_zero_le h0
  rw [fdiv_pos (by decide), show ((A : Int) / 2) = ((A / 2 : Nat) : Int) by omega, xor64 A (A / 2) (by omega) (by omega), and64 1 (by decide) (by decide)]
  have : (A ^^^ A / 2) % 2 = (A + A / 2) % 2 := by
    have h := Nat.xor_mod_two_pow (a := A) (b := A / 2) (n := 1)
    rw [Nat.pow_one] at h
    rw [h]
    rcases Nat.mod_two_eq_zero_or_one A with q | q <;> rcases Nat.mod_two_eq_zero_or_one (A / 2) with q' | q' <;> rw [q, q'] <;> simp <;> omega
  unfold fb
  have e : ((2 ^ 1 : Nat) : Int) = 2 := by decide
  rw [e]
  omega
theorem mask6 {a s : Int} (h0 : 0 ≤ a) (h1 : a < 32768) (hs : s = 0 ∨ s = 1) : bits .or .i64 (bits .andNot .i64 a 64) (s * 64) = a - a / 64 % 2 * 64 + s * 64 := by
  obtain ⟨A, rfl⟩ := Int.eq_ofNat_of_zero_le h0
  obtain ⟨q1, q2⟩ := chk6_ok A (by omega)
  have hle : A &&& 18446744073709551551 ≤ A := Nat.and_le_left
  have e : bits .andNot .i64 (A : Int) 64 = ((A &&& 18446744073709551551 : Nat) : Int) := by
    show IntKind.wrap .i64 ((BitVec.ofInt 64 (A : Int) &&& ~~~ BitVec.ofInt 64 64).toNat : Int) = _
    rw [show ~~~ BitVec.ofInt 64 64 = BitVec.ofNat 64 18446744073709551551 from by decide, BitVec.toNat_and, ofI A (by omega), BitVec.toNat_ofNat, show 18446744073709551551 % 2 ^ 64 = 18446744073709551551 by decide, wrap_i64 (by omega) (by omega)]
  rw [e]
  have e2 : bits .or .i64 (((A &&& 18446744073709551551 : Nat)) : Int) (s * 64) = ((((A &&& 18446744073709551551) ||| (s * 64).toNat : Nat)) : Int) := by
    have hb : (s * 64) = (((s * 64).toNat : Nat) : Int) := by omega
    have hor : (A &&& 18446744073709551551) ||| (s * 64).toNat < 2 ^ 16 := Nat.or_lt_two_pow (by omega) (by omega)
    rw [hb]
    show IntKind.i64.wrap ((BitVec.ofInt 64 _ ||| BitVec.ofInt 64 _).toNat : Int) = _
    rw [BitVec.toNat_or, ofI _ (by omega), ofI _ (by omega)]
    simp only [Int.toNat_natCast]
    rw [wrap_i64 (by omega) (by omega)]
  rw [e2]
  rcases hs with rfl | rfl
  · rw [show ((0 : Int) * 64).toNat = 0 from rfl, Nat.or_zero, q1]; omega
  · rw [show ((1 : Int) * 64).toNat = 64 from rfl, q2]; omega
theorem clk_p {l : Int} {nr : Bool} (h0 : 0 ≤ l) (h1 : l < 32768) : (Let ((bits .and .i64 (bits .xor .i64 l (Int.fdiv l 2)) 1) : Int) fun s2 => (cond nr (some (bits .or .i64 (bits .andNot .i64 (bits .or .i64 (Int.fdiv l 2) (IntKind.wrap .i64 (s2 * 16384))) 64) (IntKind.wrap .i64 (s2 * 64)))) (some (bits .or .i64 (Int.fdiv l 2) (IntKind.wrap .i64 (s2 * 16384)))))) = some (clk nr l) := by
  rw [Let_eq, fb_eq h0 h1, fdiv_pos (by decide)]
  have hf : fb l = 0 ∨ fb l = 1 := by unfold fb; omega
  rw [wrap_i64 (x := fb l * 16384) (by omega) (by omega), wrap_i64 (x := fb l * 64) (by omega) (by omega), or64c (l / 2), or64 (a := fb l * 16384) (b := l / 2) 14 (by omega) (by simp only [show ((2 ^ 14 : Nat) : Int) = 16384 by decide]; omega) (by omega) (by omega) (by simp only [show ((2 ^ 14 : Nat) : Int) = 16384 by decide]; omega)]
  rw [mask6 (by omega) (by omega) hf, Int.add_comm (fb l * 16384)]
  unfold clk
  cases nr <;> rfl
theorem clk_r {l : Int} {nr : Bool} (h0 : 0 ≤ l) (h1 : l < 32768) {a b c d : Int} : (Let ((Int.tmod (IntKind.wrap .i64 (l + (IntKind.wrap .i64 (Int.tdiv l 2)))) 2) : Int) fun s5 => (cond nr (some (a, b, c, d, (IntKind.wrap .i64 ((IntKind.wrap .i64 ((IntKind.wrap .i64 ((Int.tmod (IntKind.wrap .i64 (Int.tdiv l 2)) 16384) + (IntKind.wrap .i64 (s5 * 16384)))) - (IntKind.wrap .i64 ((Int.tmod (IntKind.wrap .i64 (Int.tdiv (IntKind.wrap .i64 ((Int.tmod (IntKind.wrap .i64 (Int.tdiv l 2)) 16384) + (IntKind.wrap .i64 (s5 * 16384)))) 64)) 2) * 64)))) + (IntKind.wrap .i64 (s5 * 64)))))) (some (a, b, c, d, (IntKind.wrap .i64 ((Int.tmod (IntKind.wrap .i64 (Int.tdiv l 2)) 16384) + (IntKind.wrap .i64 (s5 * 16384)))))))) = some (a, b, c, d, clk nr l) := by
  rw [Let_eq, tdiv_nn h0, wrap_i64 (x := l / 2) (by omega) (by omega), wrap_i64 (x := l + l / 2) (by omega) (by omega), tmod_nn (a := l + l / 2) (by omega), show (l + l / 2) % 2 = fb l from rfl]
  have hf : fb l = 0 ∨ fb l = 1 := by unfold fb; omega
  have h2 : 0 ≤ l / 2 ∧ l / 2 < 16384 := by omega
  rw [wrap_i64 (x := fb l * 16384) (by omega) (by omega), wrap_i64 (x := fb l * 64) (by omega) (by omega), tmod_nn (a := l / 2) (by omega), Int.emod_eq_of_lt (by omega) h2.2, wrap_i64 (x := l / 2 + fb l * 16384) (by omega) (by omega)]
  have h3 : 0 ≤ l / 2 + fb l * 16384 ∧ l / 2 + fb l * 16384 < 32768 := by omega
  unfold clk
  simp only
  generalize l / 2 + fb l * 16384 = a' at h3 ⊢
  generalize fb l = s at hf ⊢
  rw [tdiv_nn h3.1, wrap_i64 (x := a' / 64) (by omega) (by omega), tmod_nn (a := a' / 64) (by omega), wrap_i64 (x := a' / 64 % 2 * 64) (by omega) (by omega), wrap_i64 (x := a' - a' / 64 % 2 * 64) (by omega) (by omega), wrap_i64 (x := a' - a' / 64 % 2 * 64 + s * 64) (by omega) (by omega)]
  cases nr <;> rfl
theorem pow_sh {sh : Int} (h0 : 0 ≤ sh) (h1 : sh < 16) : (1 : Int) ≤ 2 ^ sh.toNat ∧ (2 : Int) ^ sh.toNat ≤ 32768 ∧ min sh.toNat 64 = sh.toNat := by
  obtain ⟨k, rfl⟩ := Int.eq_ofNat_of_zero_le h0
  simp only [Int.toNat_natCast]
  have h2 : (2 : Nat) ^ k ≤ 2 ^ 15 := Nat.pow_le_pow_right (by decide) (by omega)
  have h3 : 0 < (2 : Nat) ^ k := Nat.pow_pos (by decide)
  have e : ((2 : Int) ^ k) = (((2 : Nat) ^ k : Nat) : Int) := by simp
  rw [e]
  omega
theorem cyc3_range {sh dv : Int} (hd : 0 ≤ dv ∧ dv < 8) (hs : 0 ≤ sh ∧ sh < 16) : 0 < cyc3 sh dv ∧ cyc3 sh dv ≤ 14680064 := by
  obtain ⟨h1, h2, h3⟩ := pow_sh hs.1 hs.2
  refine ⟨cyc3_pos hd.1, ?_⟩
  unfold cyc3
  generalize (2 : Int) ^ sh.toNat = p at h1 h2 ⊢
  split
  · omega
  · obtain rfl | rfl | rfl | rfl | rfl | rfl | rfl | rfl : dv = 0 ∨ dv = 1 ∨ dv = 2 ∨ dv = 3 ∨ dv = 4 ∨ dv = 5 ∨ dv = 6 ∨ dv = 7 := by omega
    all_goals omega
theorem cyc3_v {sh dv : Int} (hd : 0 ≤ dv ∧ dv < 8) (hs : 0 ≤ sh ∧ sh < 16) : (cond (dv == 0) (cond ((decide (0 ≤ sh))) (Let ((IntKind.wrap .i64 ((IntKind.wrap .i64 ((4 : Int) * 8)) * 2 ^ (min sh.toNat 64))) : Int) fun s4_2 => (some s4_2)) none) (cond ((decide (0 ≤ sh))) (Let ((IntKind.wrap .i64 ((IntKind.wrap .i64 (4 * (IntKind.wrap .i64 (16 * dv)))) * 2 ^ (min sh.toNat 64))) : Int) fun s4_3 => (some s4_3)) none)) = some (cyc3 sh dv) := by
  have hr := cyc3_range hd hs
  obtain ⟨h1, h2, h3⟩ := pow_sh hs.1 hs.2
  unfold cyc3 at hr ⊢
  rw [h3, Let_eq, Let_eq, wrap_i64 (x := 16 * dv) (by omega) (by omega), wrap_i64 (x := 4 * (16 * dv)) (by omega) (by omega), wrap_i64 (x := 4 * 8) (by omega) (by omega)]
  by_cases h : dv = 0
  · rw [if_pos h] at hr ⊢
    rw [ceq h, cpos hs.1, show (4 : Int) * 8 = 32 by decide, wrap_i64 (by omega) (by omega)]
  · rw [if_neg h] at hr ⊢
    rw [cne h, cpos hs.1, show 4 * (16 * dv) = 64 * dv by omega, wrap_i64 (by omega) (by omega)]
theorem rcyc3_v {sh dv : Int} (hd : 0 ≤ dv ∧ dv < 8) (hs : 0 ≤ sh ∧ sh < 16) : (cond ((IntKind.wrap .i64 (64 * dv)) == 0) (cond ((decide (0 ≤ sh))) (Let ((IntKind.wrap .i64 ((32 : Int) * 2 ^ (min sh.toNat 64))) : Int) fun s4_2 => (some s4_2)) none) (cond ((decide (0 ≤ sh))) (Let ((IntKind.wrap .i64 ((IntKind.wrap .i64 (64 * dv)) * 2 ^ (min sh.toNat 64))) : Int) fun s4_3 => (some s4_3)) none)) = some (cyc3 sh dv) := by
  have hr := cyc3_range hd hs
  obtain ⟨h1, h2, h3⟩ := pow_sh hs.1 hs.2
  unfold cyc3 at hr ⊢
  rw [h3, Let_eq, Let_eq, wrap_i64 (x := 64 * dv) (by omega) (by omega)]
  by_cases h : dv = 0
  · rw [if_pos h] at hr ⊢
    rw [ceq (show 64 * dv = 0 by omega), cpos hs.1, wrap_i64 (by omega) (by omega)]
  · rw [if_neg h] at hr ⊢
    rw [cne (show 64 * dv ≠ 0 by omega), cpos hs.1, wrap_i64 (by omega) (by omega)]
def swv (on : Bool) (f sb si : Int) (sd : Bool) (sl : Int) : Bool × Int × Int :=
  cond (!on) (on, f, sl) (cond (si == 0) (on, f, sl) (cond (decide (IntKind.wrap .i64 (sl - 1) > 0)) (on, f, IntKind.wrap .i64 (sl - 1))
    (let g := cond sd (f - f / 2 ^ sb.toNat) (f + f / 2 ^ sb.toNat); cond (decide (g > 2047)) (false, f, si) (cond (decide (sb > 0)) (on, g, si) (on, f, si)))))
theorem sh_range {f sb : Int} (hf : 0 ≤ f ∧ f < 2048) (hb : 0 ≤ sb ∧ sb < 8) : Int.fdiv f (2 ^ (min sb.toNat 64)) = f / 2 ^ sb.toNat ∧ 0 ≤ f / 2 ^ sb.toNat ∧ f / 2 ^ sb.toNat ≤ f := by
  obtain ⟨h1, h2, h3⟩ := pow_sh hb.1 (by omega : sb < 16)
  rw [h3, fdiv_pos (by omega)]
  exact ⟨rfl, Int.ediv_nonneg hf.1 (by omega), Int.ediv_le_self _ hf.1⟩
theorem swv_p {on : Bool} {f sb si : Int} {sd : Bool} {sl : Int} (hf : 0 ≤ f ∧ f < 2048) (hb : 0 ≤ sb ∧ sb < 8) :
    (cond (!on) (some (on, f, sl)) (cond (si == 0) (some (on, f, sl)) (cond (decide ((IntKind.wrap .i64 (sl - 1)) > 0)) (some (on, f, (IntKind.wrap .i64 (sl - 1)))) (cond ((decide (0 ≤ sb))) (cond sd (Let ((IntKind.wrap .i64 (0 - (Int.fdiv f (2 ^ (min sb.toNat 64))))) : Int) fun s4 => (Let (decide ((IntKind.wrap .i64 (f + s4)) > 2047) : Bool) fun s58 => (cond s58 (some (false, f, si)) (cond (decide (sb > 0)) (some (on, (IntKind.wrap .i64 (f + s4)), si)) (some (on, f, si)))))) (Let ((IntKind.wrap .i64 (f + (Int.fdiv f (2 ^ (min sb.toNat 64))))) : Int) fun s5 => (cond (decide (s5 > 2047)) (some (false, f, si)) (cond (decide (sb > 0)) (some (on, s5, si)) (some (on, f, si)))))) none)))) = some (swv on f sb si sd sl) := by
  obtain ⟨e1, e2, e3⟩ := sh_range hf hb
  simp only [Let_eq, e1]
  rw [cpos hb.1, wrap_i64 (x := 0 - f / 2 ^ sb.toNat) (by omega) (by omega), wrap_i64 (x := f + (0 - f / 2 ^ sb.toNat)) (by omega) (by omega), wrap_i64 (x := f + f / 2 ^ sb.toNat) (by omega) (by omega), show f + (0 - f / 2 ^ sb.toNat) = f - f / 2 ^ sb.toNat by omega]
  unfold swv
  cases on
  · rfl
  cases (si == 0)
  rotate_left
  · rfl
  cases (decide (IntKind.wrap .i64 (sl - 1) > 0))
  rotate_left
  · rfl
  cases sd
  · simp only [cond_true, cond_false, Bool.not_true]
    cases (decide (f + f / 2 ^ sb.toNat > 2047)) <;> cases (decide (sb > 0)) <;> rfl
  · simp only [cond_true, cond_false, Bool.not_true]
    cases (decide (f - f / 2 ^ sb.toNat > 2047)) <;> cases (decide (sb > 0)) <;> rfl
theorem swv_r {on : Bool} {f sb si : Int} {sd : Bool} {sl : Int} (hf : 0 ≤ f ∧ f < 2048) (hb : 0 ≤ sb ∧ sb < 8) :
    (cond ((decide (0 ≤ (0 : Int)) && decide ((0 : Int) < ((4 : Nat) : Int)))) (cond (!on) (some (on, f, sl)) (cond (si == 0) (some (on, f, sl)) (cond (decide ((IntKind.wrap .i64 (sl - 1)) > 0)) (some (on, f, (IntKind.wrap .i64 (sl - 1)))) (cond ((decide (0 ≤ sb))) (Let ((IntKind.wrap .i64 (f + (Int.fdiv f (2 ^ (min sb.toNat 64))))) : Int) fun s3 => (cond sd (cond ((decide (0 ≤ sb))) (Let ((IntKind.wrap .i64 (f - (Int.fdiv f (2 ^ (min sb.toNat 64))))) : Int) fun s3_1 => (cond (decide (s3_1 > 2047)) (some (false, f, si)) (cond (decide (sb > 0)) (some (on, s3_1, si)) (some (on, f, si))))) none) (cond (decide (s3 > 2047)) (some (false, f, si)) (cond (decide (sb > 0)) (some (on, s3, si)) (some (on, f, si)))))) none)))) none) = some (swv on f sb si sd sl) := by
  obtain ⟨e1, e2, e3⟩ := sh_range hf hb
  simp only [Let_eq, e1]
  rw [cand (by decide) (by decide), cpos hb.1, cpos hb.1, wrap_i64 (x := f - f / 2 ^ sb.toNat) (by omega) (by omega), wrap_i64 (x := f + f / 2 ^ sb.toNat) (by omega) (by omega)]
  unfold swv
  cases on
  · rfl
  cases (si == 0)
  rotate_left
  · rfl
  cases (decide (IntKind.wrap .i64 (sl - 1) > 0))
  rotate_left
  · rfl
  cases sd
  · simp only [cond_true, cond_false, Bool.not_true]
    cases (decide (f + f / 2 ^ sb.toNat > 2047)) <;> cases (decide (sb > 0)) <;> rfl
  · simp only [cond_true, cond_false, Bool.not_true]
    cases (decide (f - f / 2 ^ sb.toNat > 2047)) <;> cases (decide (sb > 0)) <;> rfl
theorem swv_range {on : Bool} {f sb si : Int} {sd : Bool} {sl : Int} (hf : 0 ≤ f ∧ f < 2048) (hb : 0 ≤ sb ∧ sb < 8) : 0 ≤ (swv on f sb si sd sl).2.1 ∧ (swv on f sb si sd sl).2.1 < 2048 ∧ ((swv on f sb si sd sl).1 = true → on = true) := by
  obtain ⟨e1, e2, e3⟩ := sh_range hf hb
  cases on
  · exact ⟨hf.1, hf.2, fun h => h⟩
  refine (fun h : 0 ≤ (swv true f sb si sd sl).2.1 ∧ (swv true f sb si sd sl).2.1 < 2048 => ⟨h.1, h.2, fun _ => rfl⟩) ?_
  unfold swv
  cases (si == 0)
  rotate_left
  · exact hf
  cases (decide (IntKind.wrap .i64 (sl - 1) > 0))
  rotate_left
  · exact hf
  simp only [cond_true, cond_false, Bool.not_true]
  have hg : 0 ≤ (cond sd (f - f / 2 ^ sb.toNat) (f + f / 2 ^ sb.toNat) : Int) := by cases sd <;> simp only [cond_true, cond_false] <;> omega
  generalize (cond sd (f - f / 2 ^ sb.toNat) (f + f / 2 ^ sb.toNat) : Int) = g at hg ⊢
  by_cases h : g > 2047
  · rw [cpos h]; exact hf
  · rw [cneg h]
    cases (decide (sb > 0))
    · exact hf
    · exact ⟨hg, by show g < 2048; omega⟩
end Go.Proofs.Ytccmpceifheejaa
