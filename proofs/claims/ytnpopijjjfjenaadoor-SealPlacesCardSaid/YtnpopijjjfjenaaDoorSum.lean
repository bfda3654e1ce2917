/-
  Sums and numbers in bytes.
-/
import Derived.Test.YtnpopijjjfjenaaDoorApp
import Derived.Laws.BitsAllLaws
namespace Go.Proofs.YtnpopijjjfjenaaDoor
open Go.Vc
set_option linter.unusedVariables false

/-! ### the sum -/
def stepN (c : Nat) : Nat := (c / 2) ^^^ (if c % 2 = 1 then 3988292384 else 0)
def stepsN : Nat → Nat → Nat
  | 0, c => c
  | k + 1, c => stepN (stepsN k c)
def byteN (c : Nat) (b : UInt8) : Nat := stepsN 8 (c ^^^ b.toNat)
def crcN (c : Nat) (l : List UInt8) : Nat := l.foldl byteN c
def sumN (l : List UInt8) : Nat := 4294967295 ^^^ crcN 4294967295 l
theorem xor_lt {a b : Nat} (ha : a < 4294967296) (hb : b < 4294967296) : a ^^^ b < 4294967296 := Nat.xor_lt_two_pow (n := 32) ha hb
theorem stepN_lt {c : Nat} (h : c < 4294967296) : stepN c < 4294967296 := by
  unfold stepN
  exact xor_lt (by omega) (by split <;> decide)
theorem stepsN_lt {c : Nat} (h : c < 4294967296) : ∀ k, stepsN k c < 4294967296
  | 0 => h
  | k + 1 => stepN_lt (stepsN_lt h k)
theorem byteN_lt {c : Nat} (h : c < 4294967296) (b : UInt8) : byteN c b < 4294967296 := stepsN_lt (xor_lt h (by have := b.toNat_lt; omega)) 8
theorem crcN_lt (l : List UInt8) : ∀ c, c < 4294967296 → crcN c l < 4294967296 := by
  induction l with
  | nil => intro c h; exact h
  | cons b l ih => intro c h; exact ih _ (byteN_lt h b)
theorem crcN_snoc (c : Nat) (l : List UInt8) (b : UInt8) : crcN c (l ++ [b]) = byteN (crcN c l) b := by unfold crcN; rw [List.foldl_append]; rfl
theorem sumN_lt (l : List UInt8) : sumN l < 4294967296 := xor_lt (by decide) (crcN_lt l _ (by decide))
theorem xor32 (a b : Nat) (ha : a < 4294967296) (hb : b < 4294967296) : bits .xor .u32 (a : Int) (b : Int) = ((a ^^^ b : Nat) : Int) := by
  rw [u32_xor _ _ (by omega) (by omega) (by omega) (by omega), Int.toNat_natCast, Int.toNat_natCast]
theorem Sum_eq (l : List UInt8) (hl : l.length ≤ 140737488355328) : f_Sum (bs l) = some ((sumN l : Nat) : Int) := by
  unfold f_Sum
  rw [bs_size]
  refine loopO_for (fun i : Nat => (((crcN 4294967295 (l.take i) : Nat) : Int), (i : Int))) l.length (fun i hi => ?_) ?_
  · have hc := crcN_lt (l.take i) 4294967295 (by decide)
    have w1 : IntKind.wrap .i64 ((i : Int) + 1) = ((i + 1 : Nat) : Int) := by rw [wrap_i64 (by omega) (by omega)]; omega
    have hb := (l[i]).toNat_lt
    show cond (decide ((i : Int) < (l.length : Int))) (cond (decide (0 ≤ (i : Int)) && decide ((i : Int) < (l.length : Int))) _ none) _ = some (Sum.inl (((crcN 4294967295 (l.take (i + 1)) : Nat) : Int), ((i + 1 : Nat) : Int)))
    rw [cpos (by omega), cand (by omega) (by omega), w1, sbyte_get (by omega) (by omega), List.take_succ_eq_append_getElem hi, crcN_snoc]
    simp only [Int.toNat_natCast]
    rw [wrap_u32 (by omega) (by omega), xor32 _ _ hc (by omega), Let_eq]
    have hx : crcN 4294967295 (l.take i) ^^^ (l[i]).toNat < 4294967296 := xor_lt hc (by omega)
    show loopO _ (((crcN 4294967295 (l.take i) ^^^ (l[i]).toNat : Nat) : Int), (0 : Int)) = some (Sum.inl (((stepsN 8 (crcN 4294967295 (l.take i) ^^^ (l[i]).toNat) : Nat) : Int), ((i + 1 : Nat) : Int)))
    generalize crcN 4294967295 (l.take i) ^^^ (l[i]).toNat = x at hx
    refine loopO_for (fun k : Nat => (((stepsN k x : Nat) : Int), (k : Int))) 8 (fun k hk => ?_) ?_
    · have hs := stepsN_lt hx k
      have w2 : IntKind.wrap .i64 ((k : Int) + 1) = ((k + 1 : Nat) : Int) := by rw [wrap_i64 (by omega) (by omega)]; omega
      show cond (decide ((k : Int) < 8)) _ _ = some (Sum.inl (((stepN (stepsN k x) : Nat) : Int), ((k + 1 : Nat) : Int)))
      rw [cpos (by omega), Let_eq, w2]
      generalize stepsN k x = c at hs
      have h1 : bits .and .u32 (c : Int) 1 = ((c % 2 : Nat) : Int) := by rw [and32 1 (by decide) (by decide) (by omega) (by omega)]; rfl
      have h2 : Int.fdiv (c : Int) 2 = ((c / 2 : Nat) : Int) := by rw [Int.fdiv_eq_ediv_of_nonneg _ (by decide)]; rfl
      have h3 : bits .and .u32 3988292384 (IntKind.wrap .u32 (0 - ((c % 2 : Nat) : Int))) = (((if c % 2 = 1 then 3988292384 else 0 : Nat)) : Int) := by
        by_cases g : c % 2 = 1
        · rw [if_pos g, g]; decide
        · have g' : c % 2 = 0 := by omega
          rw [if_neg g, g']; decide
      rw [h1, h2, h3, xor32 _ _ (by omega) (by split <;> decide)]; rfl
    · show cond (decide (((8 : Nat) : Int) < 8)) _ _ = _
      rw [cneg (by decide)]
  · show cond (decide ((l.length : Int) < (l.length : Int))) _ _ = _
    have hc := crcN_lt (l.take l.length) 4294967295 (by decide)
    rw [cneg (by omega)]
    show some (Sum.inr (bits .xor .u32 4294967295 ((crcN 4294967295 (l.take l.length) : Nat) : Int))) = _
    have := xor32 4294967295 _ (by decide) hc
    rw [show ((4294967295 : Nat) : Int) = 4294967295 from rfl] at this
    rw [this, List.take_length]; rfl

/-! ### numbers -/
def fourL (n : Nat) : List UInt8 := [UInt8.ofNat n, UInt8.ofNat (n / 256), UInt8.ofNat (n / 65536), UInt8.ofNat (n / 16777216)]
theorem wrap_u8_nat (n : Nat) : IntKind.wrap .u8 (n : Int) = (((UInt8.ofNat n).toNat : Nat) : Int) := by
  have e1 : (2 : Int) ^ 8 = 256 := by decide
  simp only [IntKind.wrap, IntKind.bits, IntKind.signed, e1, Bool.false_and, Bool.false_eq_true, if_false]
  rw [UInt8.toNat_ofNat']; omega
theorem four_eq (n : Nat) : f_four (n : Int) = some (bs (fourL n)) := by
  unfold f_four
  have h1 : Int.fdiv (n : Int) 256 = ((n / 256 : Nat) : Int) := by rw [Int.fdiv_eq_ediv_of_nonneg _ (by decide)]; rfl
  have h2 : Int.fdiv (n : Int) 65536 = ((n / 65536 : Nat) : Int) := by rw [Int.fdiv_eq_ediv_of_nonneg _ (by decide)]; rfl
  have h3 : Int.fdiv (n : Int) 16777216 = ((n / 16777216 : Nat) : Int) := by rw [Int.fdiv_eq_ediv_of_nonneg _ (by decide)]; rfl
  rw [h1, h2, h3, wrap_u8_nat, wrap_u8_nat, wrap_u8_nat, wrap_u8_nat]
  exact (cbytes (l := fourL n)).trans (congrArg some (strOf_map (fourL n)))
theorem rFour_eq (n : Nat) (h : n < 4294967296) : f_rFour (n : Int) = some (bs (fourL n)) := by
  unfold f_rFour
  have e0 : ((n : Int), (0 : Int), ([] : List Int)) = (fun i : Nat => (((n / 256 ^ i : Nat) : Int), (i : Int), ((fourL n).take i).map fun b => (b.toNat : Int))) 0 := by simp
  rw [e0]
  refine loopO_for (fun i : Nat => (((n / 256 ^ i : Nat) : Int), (i : Int), ((fourL n).take i).map fun b => (b.toNat : Int))) 4 (fun i hi => ?_) ?_
  · have w1 : IntKind.wrap .i64 ((i : Int) + 1) = ((i + 1 : Nat) : Int) := by rw [wrap_i64 (by omega) (by omega)]; omega
    have hle : n / 256 ^ i ≤ n := Nat.div_le_self _ _
    have hd : Int.tdiv ((n / 256 ^ i : Nat) : Int) 256 = ((n / 256 ^ (i + 1) : Nat) : Int) := by
      rw [Int.tdiv_eq_ediv_of_nonneg (Int.natCast_nonneg _), Nat.pow_succ, ← Nat.div_div_eq_div_mul]; rfl
    have hle2 : n / 256 ^ (i + 1) ≤ n := Nat.div_le_self _ _
    have hm : IntKind.wrap .u8 (Int.tmod ((n / 256 ^ i : Nat) : Int) 256) = (((fourL n)[i]'(by simpa [fourL] using hi)).toNat : Int) := by
      rw [Int.tmod_eq_emod_of_nonneg (Int.natCast_nonneg _), show ((n / 256 ^ i : Nat) : Int) % 256 = ((n / 256 ^ i % 256 : Nat) : Int) from rfl, wrap_u8_nat]
      obtain rfl | rfl | rfl | rfl : i = 0 ∨ i = 1 ∨ i = 2 ∨ i = 3 := by omega
      · show (((UInt8.ofNat (n / 1 % 256)).toNat : Nat) : Int) = (((UInt8.ofNat n).toNat : Nat) : Int)
        simp [UInt8.toNat_ofNat']
      · show (((UInt8.ofNat (n / 256 % 256)).toNat : Nat) : Int) = (((UInt8.ofNat (n / 256)).toNat : Nat) : Int)
        simp [UInt8.toNat_ofNat']
      · show (((UInt8.ofNat (n / 65536 % 256)).toNat : Nat) : Int) = (((UInt8.ofNat (n / 65536)).toNat : Nat) : Int)
        simp [UInt8.toNat_ofNat']
      · show (((UInt8.ofNat (n / 16777216 % 256)).toNat : Nat) : Int) = (((UInt8.ofNat (n / 16777216)).toNat : Nat) : Int)
        simp [UInt8.toNat_ofNat']
    show cond (decide ((i : Int) < 4)) _ _ = _
    rw [cpos (by omega), w1, hd, hm, wrap_u32 (Int.natCast_nonneg _) (Int.lt_of_le_of_lt (Int.ofNat_le.2 hle2) (by omega)), cpos (by simp; omega), List.take_succ_eq_append_getElem (show i < (fourL n).length by simpa [fourL] using hi), List.map_append]; rfl
  · show cond (decide (((4 : Nat) : Int) < 4)) _ _ = _
    rw [cneg (by decide), List.take_of_length_le (show (fourL n).length ≤ 4 from Nat.le_refl _), cbytes, strOf_map]
def numL (l : List UInt8) : Nat := (l.getD 0 0).toNat + 256 * (l.getD 1 0).toNat + 65536 * (l.getD 2 0).toNat + 16777216 * (l.getD 3 0).toNat
theorem numL_lt (l : List UInt8) : numL l < 4294967296 := by
  unfold numL
  have h0 := (l.getD 0 0).toNat_lt
  have h1 := (l.getD 1 0).toNat_lt
  have h2 := (l.getD 2 0).toNat_lt
  have h3 := (l.getD 3 0).toNat_lt
  omega
theorem or32 (a b : Nat) (ha : a < 4294967296) (hb : b < 4294967296) : bits .or .u32 (a : Int) (b : Int) = ((a ||| b : Nat) : Int) := by
  rw [u32_or _ _ (by omega) (by omega) (by omega) (by omega), Int.toNat_natCast, Int.toNat_natCast]
theorem or_add (a b k : Nat) (ha : a < 2 ^ k) : a ||| (b * 2 ^ k) = a + b * 2 ^ k := by
  have := Nat.two_pow_add_eq_or_of_lt (b := a) (i := k) ha b
  rw [Nat.mul_comm b, Nat.or_comm, ← this, Nat.add_comm]
theorem num_eq (l : List UInt8) (hl : 4 ≤ l.length) : f_num (bs l) = some ((numL l : Nat) : Int) := by
  unfold f_num
  rw [bs_size, cand (by omega) (by omega), cand (by omega) (by omega), cand (by omega) (by omega), cand (by omega) (by omega), Let_eq, sbyte_bs, sbyte_bs, sbyte_bs, sbyte_bs]
  have h0 := (l.getD 0 0).toNat_lt
  have h1 := (l.getD 1 0).toNat_lt
  have h2 := (l.getD 2 0).toNat_lt
  have h3 := (l.getD 3 0).toNat_lt
  show some (bits .or .u32 (bits .or .u32 (bits .or .u32 (IntKind.wrap .u32 (((l.getD 0 0).toNat : Nat) : Int)) (IntKind.wrap .u32 ((IntKind.wrap .u32 (((l.getD 1 0).toNat : Nat) : Int)) * 256))) (IntKind.wrap .u32 ((IntKind.wrap .u32 (((l.getD 2 0).toNat : Nat) : Int)) * 65536))) (IntKind.wrap .u32 ((IntKind.wrap .u32 (((l.getD 3 0).toNat : Nat) : Int)) * 16777216))) = _
  unfold numL
  generalize (l.getD 0 0).toNat = a at *
  generalize (l.getD 1 0).toNat = b at *
  generalize (l.getD 2 0).toNat = c at *
  generalize (l.getD 3 0).toNat = d at *
  rw [wrap_u32 (x := (a : Int)) (by omega) (by omega), wrap_u32 (x := (b : Int)) (by omega) (by omega), wrap_u32 (x := (c : Int)) (by omega) (by omega), wrap_u32 (x := (d : Int)) (by omega) (by omega), wrap_u32 (x := (b : Int) * 256) (by omega) (by omega), wrap_u32 (x := (c : Int) * 65536) (by omega) (by omega), wrap_u32 (x := (d : Int) * 16777216) (by omega) (by omega)]
  rw [show (b : Int) * 256 = ((b * 2 ^ 8 : Nat) : Int) by omega, show (c : Int) * 65536 = ((c * 2 ^ 16 : Nat) : Int) by omega, show (d : Int) * 16777216 = ((d * 2 ^ 24 : Nat) : Int) by omega]
  rw [or32 _ _ (by omega) (by omega), or_add a b 8 (by omega), or32 _ _ (by omega) (by omega), or_add _ c 16 (by omega), or32 _ _ (by omega) (by omega), or_add _ d 24 (by omega)]
  congr 2; omega
theorem rNum_eq (l : List UInt8) (hl : 4 ≤ l.length) : f_rNum (bs l) = some ((numL l : Nat) : Int) := by
  unfold f_rNum
  rw [bs_size]
  have h0 := (l.getD 0 0).toNat_lt
  have h1 := (l.getD 1 0).toNat_lt
  have h2 := (l.getD 2 0).toNat_lt
  have h3 := (l.getD 3 0).toNat_lt
  let S : Nat → Nat := fun i => match i with | 0 => 0 | 1 => (l.getD 3 0).toNat | 2 => 256 * (l.getD 3 0).toNat + (l.getD 2 0).toNat | 3 => 65536 * (l.getD 3 0).toNat + 256 * (l.getD 2 0).toNat + (l.getD 1 0).toNat | _ => numL l
  refine loopO_for (fun i : Nat => ((S i : Int), 3 - (i : Int))) 4 (fun i hi => ?_) ?_
  · show cond (decide (3 - (i : Int) ≥ 0)) (cond (decide (0 ≤ 3 - (i : Int)) && decide (3 - (i : Int) < (l.length : Int))) (Let (IntKind.wrap .u32 (IntKind.wrap .u32 ((S i : Int) * 256) + IntKind.wrap .u32 (sbyte (bs l) (3 - (i : Int))))) _) none) _ = some (Sum.inl ((S (i + 1) : Int), 3 - ((i + 1 : Nat) : Int)))
    rw [cpos (by omega), cand (by omega) (by omega), Let_eq, sbyte_bs, wrap_i64 (by omega) (by omega)]
    have hg : ∀ k : Nat, ((l.getD k 0).toNat : Int) < 256 := fun k => by have := (l.getD k 0).toNat_lt; omega
    have hS : IntKind.wrap .u32 (IntKind.wrap .u32 ((S i : Int) * 256) + IntKind.wrap .u32 (((l.getD (3 - (i : Int)).toNat 0).toNat : Nat) : Int)) = (S (i + 1) : Int) := by
      obtain rfl | rfl | rfl | rfl : i = 0 ∨ i = 1 ∨ i = 2 ∨ i = 3 := by omega
      · show IntKind.wrap .u32 (IntKind.wrap .u32 (((0 : Nat) : Int) * 256) + IntKind.wrap .u32 (((l.getD 3 0).toNat : Nat) : Int)) = (((l.getD 3 0).toNat : Nat) : Int)
        rw [wrap_u32 (x := ((0 : Nat) : Int) * 256) (by omega) (by omega), wrap_u32 (x := (((l.getD 3 0).toNat : Nat) : Int)) (by omega) (by omega), wrap_u32 (by omega) (by omega)]; omega
      · show IntKind.wrap .u32 (IntKind.wrap .u32 ((((l.getD 3 0).toNat : Nat) : Int) * 256) + IntKind.wrap .u32 (((l.getD 2 0).toNat : Nat) : Int)) = ((256 * (l.getD 3 0).toNat + (l.getD 2 0).toNat : Nat) : Int)
        rw [wrap_u32 (x := (((l.getD 3 0).toNat : Nat) : Int) * 256) (by omega) (by omega), wrap_u32 (x := (((l.getD 2 0).toNat : Nat) : Int)) (by omega) (by omega), wrap_u32 (by omega) (by omega)]; omega
      · show IntKind.wrap .u32 (IntKind.wrap .u32 (((256 * (l.getD 3 0).toNat + (l.getD 2 0).toNat : Nat) : Int) * 256) + IntKind.wrap .u32 (((l.getD 1 0).toNat : Nat) : Int)) = ((65536 * (l.getD 3 0).toNat + 256 * (l.getD 2 0).toNat + (l.getD 1 0).toNat : Nat) : Int)
        rw [wrap_u32 (x := ((256 * (l.getD 3 0).toNat + (l.getD 2 0).toNat : Nat) : Int) * 256) (by omega) (by omega), wrap_u32 (x := (((l.getD 1 0).toNat : Nat) : Int)) (by omega) (by omega), wrap_u32 (by omega) (by omega)]; omega
      · show IntKind.wrap .u32 (IntKind.wrap .u32 (((65536 * (l.getD 3 0).toNat + 256 * (l.getD 2 0).toNat + (l.getD 1 0).toNat : Nat) : Int) * 256) + IntKind.wrap .u32 (((l.getD 0 0).toNat : Nat) : Int)) = ((numL l : Nat) : Int)
        unfold numL
        rw [wrap_u32 (x := ((65536 * (l.getD 3 0).toNat + 256 * (l.getD 2 0).toNat + (l.getD 1 0).toNat : Nat) : Int) * 256) (by omega) (by omega), wrap_u32 (x := (((l.getD 0 0).toNat : Nat) : Int)) (by omega) (by omega), wrap_u32 (by omega) (by omega)]; omega
    rw [hS]
    show some (Sum.inl (_, 3 - (i : Int) - 1)) = some (Sum.inl (_, 3 - ((i + 1 : Nat) : Int)))
    rw [show 3 - (i : Int) - 1 = 3 - ((i + 1 : Nat) : Int) by omega]
  · show cond (decide (3 - ((4 : Nat) : Int) ≥ 0)) _ _ = _
    rw [cneg (by decide)]; rfl
theorem xor_sub (c : Nat) (h : c < 4294967296) : 4294967295 ^^^ c = 4294967295 - c := by
  apply Nat.eq_of_testBit_eq
  intro i
  rw [Nat.testBit_xor, show (4294967295 : Nat) = 2 ^ 32 - 1 from rfl, Nat.testBit_two_pow_sub_one, show 2 ^ 32 - 1 - c = 2 ^ 32 - (c + 1) by omega, Nat.testBit_two_pow_sub_succ h]
  by_cases hi : i < 32
  · simp [hi]
  · have : c.testBit i = false := Nat.testBit_lt_two_pow (Nat.lt_of_lt_of_le (show c < 2 ^ 32 from h) (Nat.pow_le_pow_right (by decide) (by omega)))
    simp [hi, this]
theorem rSum_eq (l : List UInt8) (hl : l.length ≤ 140737488355328) : f_rSum (bs l) = some ((sumN l : Nat) : Int) := by
  unfold f_rSum
  rw [bs_size]
  refine loopO_for (fun i : Nat => (((crcN 4294967295 (l.take i) : Nat) : Int), (i : Int))) l.length (fun i hi => ?_) ?_
  · have hc := crcN_lt (l.take i) 4294967295 (by decide)
    have w1 : IntKind.wrap .i64 ((i : Int) + 1) = ((i + 1 : Nat) : Int) := by rw [wrap_i64 (by omega) (by omega)]; omega
    have hb := (l[i]).toNat_lt
    show cond (decide ((i : Int) < (l.length : Int))) (cond (decide (0 ≤ (i : Int)) && decide ((i : Int) < (l.length : Int))) _ none) _ = some (Sum.inl (((crcN 4294967295 (l.take (i + 1)) : Nat) : Int), ((i + 1 : Nat) : Int)))
    rw [cpos (by omega), cand (by omega) (by omega), w1, sbyte_get (by omega) (by omega), List.take_succ_eq_append_getElem hi, crcN_snoc]
    simp only [Int.toNat_natCast]
    rw [wrap_u32 (by omega) (by omega), xor32 _ _ hc (by omega), Let_eq]
    have hx : crcN 4294967295 (l.take i) ^^^ (l[i]).toNat < 4294967296 := xor_lt hc (by omega)
    show loopO _ (((crcN 4294967295 (l.take i) ^^^ (l[i]).toNat : Nat) : Int), (0 : Int)) = some (Sum.inl (((stepsN 8 (crcN 4294967295 (l.take i) ^^^ (l[i]).toNat) : Nat) : Int), ((i + 1 : Nat) : Int)))
    generalize crcN 4294967295 (l.take i) ^^^ (l[i]).toNat = x at hx
    refine loopO_for (fun k : Nat => (((stepsN k x : Nat) : Int), (k : Int))) 8 (fun k hk => ?_) ?_
    · have hs := stepsN_lt hx k
      have w2 : IntKind.wrap .i64 ((k : Int) + 1) = ((k + 1 : Nat) : Int) := by rw [wrap_i64 (by omega) (by omega)]; omega
      show cond (decide ((k : Int) < 8)) (cond (Int.tmod ((stepsN k x : Nat) : Int) 2 == 1) _ _) _ = some (Sum.inl (((stepN (stepsN k x) : Nat) : Int), ((k + 1 : Nat) : Int)))
      rw [cpos (by omega), w2]
      generalize stepsN k x = c at hs
      have h1 : Int.tmod (c : Int) 2 = ((c % 2 : Nat) : Int) := by rw [Int.tmod_eq_emod_of_nonneg (by omega)]; rfl
      have h2 : IntKind.wrap .u32 (Int.tdiv (c : Int) 2) = ((c / 2 : Nat) : Int) := by rw [Int.tdiv_eq_ediv_of_nonneg (by omega), wrap_u32 (by omega) (by omega)]; rfl
      rw [h1]
      unfold stepN
      by_cases g : c % 2 = 1
      · rw [ceq (by omega), Let_eq, if_pos g]
        show some (Sum.inl (bits .xor .u32 (IntKind.wrap .u32 (Int.tdiv (c : Int) 2)) 3988292384, _)) = _
        have := xor32 (c / 2) 3988292384 (by omega) (by decide)
        rw [h2, show (3988292384 : Int) = ((3988292384 : Nat) : Int) from rfl, this]
      · rw [cne (by omega), if_neg g, Nat.xor_zero]
        show some (Sum.inl (IntKind.wrap .u32 (Int.tdiv (c : Int) 2), _)) = _
        rw [h2]
    · show cond (decide (((8 : Nat) : Int) < 8)) _ _ = _
      rw [cneg (by decide)]
  · show cond (decide ((l.length : Int) < (l.length : Int))) _ _ = _
    have hc := crcN_lt (l.take l.length) 4294967295 (by decide)
    rw [cneg (by omega)]
    show some (Sum.inr (IntKind.wrap .u32 (4294967295 - ((crcN 4294967295 (l.take l.length) : Nat) : Int)))) = _
    unfold sumN
    rw [List.take_length] at hc ⊢
    rw [xor_sub _ hc, wrap_u32 (by omega) (by omega)]
    congr 2; omega
end Go.Proofs.YtnpopijjjfjenaaDoor
