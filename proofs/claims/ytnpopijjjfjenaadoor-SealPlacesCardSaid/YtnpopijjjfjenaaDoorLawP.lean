/-
  SealPlaces: the law.
-/
import Derived.Test.YtnpopijjjfjenaaDoorLawW
namespace Go.Proofs.YtnpopijjjfjenaaDoor
open Go.Vc
set_option linter.unusedVariables false

/-! ### a sum over itself -/
theorem stepN_xor (x y : Nat) : stepN (x ^^^ (y * 2)) = stepN x ^^^ y := by
  unfold stepN
  have h1 : (x ^^^ (y * 2)) / 2 = x / 2 ^^^ y := by
    refine Nat.eq_of_testBit_eq fun i => ?_
    rw [Nat.testBit_div_two, Nat.testBit_xor, Nat.testBit_xor, Nat.testBit_div_two, show y * 2 = y * 2 ^ 1 by omega, Nat.testBit_mul_two_pow]
    simp
  have h2 : (x ^^^ (y * 2)) % 2 = x % 2 := by
    have e0 : ∀ n : Nat, n % 2 = (n.testBit 0).toNat := fun n => by rw [Nat.testBit_zero]; rcases Nat.mod_two_eq_zero_or_one n with h | h <;> simp [h]
    rw [e0, e0, Nat.testBit_xor, show y * 2 = y * 2 ^ 1 by omega, Nat.testBit_mul_two_pow]
    simp
  rw [h1, h2, Nat.xor_assoc, Nat.xor_assoc, Nat.xor_comm y]
theorem stepsN_xor : ∀ (k x y : Nat), stepsN k (x ^^^ (y * 2 ^ k)) = stepsN k x ^^^ y
  | 0, x, y => by show x ^^^ (y * 2 ^ 0) = x ^^^ y; rw [Nat.pow_zero, Nat.mul_one]
  | k + 1, x, y => by
    show stepN (stepsN k (x ^^^ (y * 2 ^ (k + 1)))) = stepN (stepsN k x) ^^^ y
    rw [show y * 2 ^ (k + 1) = y * 2 * 2 ^ k by rw [Nat.pow_succ, Nat.mul_comm (2 ^ k), Nat.mul_assoc], stepsN_xor k x (y * 2), stepN_xor]
theorem stepsN_add (j : Nat) : ∀ (k x : Nat), stepsN k (stepsN j x) = stepsN (j + k) x
  | 0, x => rfl
  | k + 1, x => by show stepN (stepsN k (stepsN j x)) = stepN (stepsN (j + k) x); rw [stepsN_add j k x]
theorem crc_next (k x : Nat) (b : UInt8) : byteN (stepsN k x) b = stepsN (k + 8) (x ^^^ (b.toNat * 2 ^ k)) := by
  unfold byteN
  rw [← stepsN_xor, stepsN_add]
theorem crc_four (c : Nat) (a b d e : UInt8) : crcN c [a, b, d, e] = stepsN 32 ((((c ^^^ a.toNat) ^^^ (b.toNat * 2 ^ 8)) ^^^ (d.toNat * 2 ^ 16)) ^^^ (e.toNat * 2 ^ 24)) := by
  show byteN (byteN (byteN (byteN c a) b) d) e = _
  rw [show byteN c a = stepsN 8 (c ^^^ a.toNat) from rfl, crc_next, crc_next, crc_next]
theorem xor_add' (a b k : Nat) (ha : a < 2 ^ k) : a ^^^ (b * 2 ^ k) = a + b * 2 ^ k := by
  refine Nat.eq_of_testBit_eq fun i => ?_
  rw [Nat.testBit_xor, Nat.testBit_mul_two_pow, Nat.add_comm, Nat.mul_comm, Nat.testBit_two_pow_mul_add _ ha]
  by_cases h : i < k
  · rw [if_pos h, decide_eq_false (by omega)]; simp
  · rw [if_neg h, decide_eq_true (by omega), Nat.testBit_lt_two_pow (Nat.lt_of_lt_of_le ha (Nat.pow_le_pow_right (by decide) (by omega)))]; simp
theorem four_xor (c n : Nat) (hn : n < 4294967296) : crcN c (fourL n) = stepsN 32 (c ^^^ n) := by
  unfold fourL
  rw [crc_four]
  have h0 : (UInt8.ofNat n).toNat = n % 256 := UInt8.toNat_ofNat' ..
  have h1 : (UInt8.ofNat (n / 256)).toNat = n / 256 % 256 := UInt8.toNat_ofNat' ..
  have h2 : (UInt8.ofNat (n / 65536)).toNat = n / 65536 % 256 := UInt8.toNat_ofNat' ..
  have h3 : (UInt8.ofNat (n / 16777216)).toNat = n / 16777216 % 256 := UInt8.toNat_ofNat' ..
  rw [h0, h1, h2, h3, Nat.xor_assoc, Nat.xor_assoc, Nat.xor_assoc, ← Nat.xor_assoc (n / 256 % 256 * 2 ^ 8), ← Nat.xor_assoc (n % 256), ← Nat.xor_assoc (n % 256), xor_add' (n % 256) _ 8 (by omega), xor_add' _ (n / 65536 % 256) 16 (by omega), xor_add' _ (n / 16777216 % 256) 24 (by omega)]
  congr 2
  omega
theorem residue (h : List UInt8) : sumN (h ++ fourL (sumN h)) = sumN [0, 0, 0, 0] := by
  have hc := crcN_lt h 4294967295 (by decide)
  unfold sumN
  rw [crcN_append, four_xor _ _ (xor_lt (by decide) hc), Nat.xor_comm 4294967295 (crcN 4294967295 h), ← Nat.xor_assoc, Nat.xor_self, Nat.zero_xor]
  have e : crcN 4294967295 [0, 0, 0, 0] = stepsN 32 4294967295 := by
    rw [show ([0, 0, 0, 0] : List UInt8) = fourL 0 by decide, four_xor _ _ (by decide), Nat.xor_zero]
  rw [e]
theorem crcZero : sumN [0, 0, 0, 0] < 4294967296 := sumN_lt _

/-! ### the places -/
theorem getD_take {l : List UInt8} {n i : Nat} (h : i < n) : (l.take n).getD i 0 = l.getD i 0 := by
  rw [List.getD_eq_getElem?_getD, List.getElem?_take_of_lt h, ← List.getD_eq_getElem?_getD]
theorem getD_drop (l : List UInt8) (n i : Nat) : (l.drop n).getD i 0 = l.getD (n + i) 0 := by
  rw [List.getD_eq_getElem?_getD, List.getElem?_drop, ← List.getD_eq_getElem?_getD]
theorem getD_left {l r : List UInt8} {i : Nat} (h : i < l.length) : (l ++ r).getD i 0 = l.getD i 0 := by
  rw [List.getD_eq_getElem?_getD, List.getElem?_append_left h, ← List.getD_eq_getElem?_getD]
theorem byte_of (n i : Nat) (hi : i < 4) : IntKind.wrap .u8 (Int.fdiv (n : Int) (2 ^ (min (IntKind.wrap .i64 (8 * (i : Int))).toNat 32))) = ((((fourL n).getD i 0).toNat : Nat) : Int) := by
  have key : ∀ m : Nat, 0 < m → Int.fdiv (n : Int) (m : Int) = ((n / m : Nat) : Int) := fun m hm => by rw [Int.fdiv_eq_ediv_of_nonneg _ (by omega)]; rfl
  obtain rfl | rfl | rfl | rfl : i = 0 ∨ i = 1 ∨ i = 2 ∨ i = 3 := by omega
  · rw [show ((2 : Int) ^ (min (IntKind.wrap .i64 (8 * ((0 : Nat) : Int))).toNat 32)) = ((1 : Nat) : Int) by decide, key _ (by decide), wrap_u8_nat, Nat.div_one]; rfl
  · rw [show ((2 : Int) ^ (min (IntKind.wrap .i64 (8 * ((1 : Nat) : Int))).toNat 32)) = ((256 : Nat) : Int) by decide, key _ (by decide), wrap_u8_nat]; rfl
  · rw [show ((2 : Int) ^ (min (IntKind.wrap .i64 (8 * ((2 : Nat) : Int))).toNat 32)) = ((65536 : Nat) : Int) by decide, key _ (by decide), wrap_u8_nat]; rfl
  · rw [show ((2 : Int) ^ (min (IntKind.wrap .i64 (8 * ((3 : Nat) : Int))).toNat 32)) = ((16777216 : Nat) : Int) by decide, key _ (by decide), wrap_u8_nat]; rfl
theorem Places_eq (seq : Nat) (hs : seq < 4294967296) (body : List UInt8) (hb : body.length ≤ 140737488351232) : f_SealPlaces (seq : Int) (bs body) = some true := by
  unfold f_SealPlaces
  rw [awake_eq, bind_some', ctrueF (b := !true) rfl, Wrap_eq _ hs, bind_some', bs_size]
  by_cases h : body.length > 51
  · rw [if_pos h]
    show cond (decide ((body.length : Int) > 51)) (cond ((2 : Int) == 2) (some ((bs []).toList == (bs []).toList)) _) _ = _
    rw [cpos (by omega), ceq rfl, beq_bs]; rfl
  rw [if_neg h]
  have hl := wrapL_len seq body (by omega)
  obtain ⟨p1, p2⟩ := wrapL_parts seq body (by omega)
  have t4 := wrapL_take seq body
  have d60 := wrapL_drop seq body (by omega)
  have h4 : (wrapL seq body).getD 4 0 = UInt8.ofNat body.length := by unfold wrapL headL; rfl
  have hn : (UInt8.ofNat body.length).toNat = body.length := by rw [UInt8.toNat_ofNat']; omega
  have h5 : (wrapL seq body).drop 5 = body ++ (List.replicate (51 - body.length) 0 ++ (fourL (sumN (headL seq body)) ++ fourL seq)) := by
    have e : wrapL seq body = (fourL seq ++ [UInt8.ofNat body.length]) ++ (body ++ (List.replicate (51 - body.length) 0 ++ (fourL (sumN (headL seq body)) ++ fourL seq))) := by
      unfold wrapL headL; simp only [List.append_assoc]
    rw [e]; exact List.drop_left (l₁ := fourL seq ++ [UInt8.ofNat body.length])
  have hz : ∀ j, 5 + body.length ≤ j → j < 56 → (wrapL seq body).getD j 0 = 0 := fun j j1 j2 => by
    have e : (wrapL seq body).getD j 0 = ((wrapL seq body).drop 5).getD (j - 5) 0 := by rw [getD_drop]; congr 1; omega
    rw [e, h5, List.getD_eq_getElem?_getD, List.getElem?_append_right (by omega), List.getElem?_append_left (by simp; omega), List.getElem?_replicate, if_pos (by omega)]; rfl
  have hres := residue (headL seq body)
  rw [← p1] at hres
  have hx := sumN_lt ((wrapL seq body).take 56)
  have p2' : (wrapL seq body).drop 56 = fourL (sumN ((wrapL seq body).take 56)) ++ fourL seq := by rw [p1]; exact p2
  have h5' : ((wrapL seq body).drop 5).take body.length = body := by rw [h5]; exact List.take_left
  generalize wrapL seq body = A at hl t4 d60 h4 hz hres hx p2' h5' ⊢
  show cond (decide ((body.length : Int) > 51)) _ (cond ((0 : Int) != 0) _ (cond (((bs A).size : Int) != 64) _ _)) = _
  have e5 : IntKind.wrap .i64 (5 + (body.length : Int)) = ((5 + body.length : Nat) : Int) := by rw [wrap_i64 (by omega) (by omega)]; omega
  rw [cneg (by omega), cbeq rfl, bs_size, cbeq (by omega), cand (by decide) (by omega), sbyte_bs, show (4 : Int).toNat = 4 from rfl, h4, hn, wrap_i64 (x := (body.length : Int)) (by omega) (by omega), cbeq rfl, e5, cand (by omega) (by omega), cand (by decide) (by omega), Int.toNat_natCast, bs_extract, show 5 + body.length - 5 = body.length by omega, h5', beq_bs, cnot, cpos rfl, cand (by decide) (by omega), cand (by decide) (by decide), bs_extract]
  have e56 : (A.drop 0).take (56 - 0) = A.take 56 := by simp
  rw [e56, Sum_eq _ (by simp; omega), bind_some']
  generalize hS : sumN (A.take 56) = S at hres hx p2' ⊢
  refine loopO_for (fun i => (i : Int)) 4 (fun i hi => ?_) ?_
  · have w8 : 0 ≤ IntKind.wrap .i64 (8 * (i : Int)) := by rw [wrap_i64 (by omega) (by omega)]; omega
    have w60 : IntKind.wrap .i64 (60 + (i : Int)) = ((60 + i : Nat) : Int) := by rw [wrap_i64 (by omega) (by omega)]; omega
    have w56 : IntKind.wrap .i64 (56 + (i : Int)) = ((56 + i : Nat) : Int) := by rw [wrap_i64 (by omega) (by omega)]; omega
    have w1 : IntKind.wrap .i64 ((i : Int) + 1) = ((i + 1 : Nat) : Int) := by rw [wrap_i64 (by omega) (by omega)]; omega
    have g0 : A.getD i 0 = (fourL seq).getD i 0 := by rw [← getD_take hi, t4]
    have g60 : A.getD (60 + i) 0 = (fourL seq).getD i 0 := by rw [← getD_drop, d60]
    have g56 : A.getD (56 + i) 0 = (fourL S).getD i 0 := by rw [← getD_drop, p2', getD_left (by rw [fourL_len]; exact hi)]
    show cond (decide ((i : Int) < 4)) _ _ = _
    rw [cpos (by omega), cand (by omega) (by omega), cpos w8, sbyte_bs, Int.toNat_natCast, byte_of _ _ hi, g0, cbeq rfl, w60, cand (by omega) (by omega), cand (by omega) (by omega), sbyte_bs, Int.toNat_natCast, g60, cbeq rfl, w56, cand (by omega) (by omega), cpos w8, sbyte_bs, Int.toNat_natCast, byte_of _ _ hi, g56, cbeq rfl, w1]
  · show cond (decide (((4 : Nat) : Int) < 4)) _ (Let _ fun s9 => loopO _ s9) = _
    rw [cneg (by decide), Let_eq]
    refine (loopO_for (fun i => ((5 + body.length + i : Nat) : Int)) (51 - body.length) (fun i hi => ?_) ?_)
    · have w1 : IntKind.wrap .i64 (((5 + body.length + i : Nat) : Int) + 1) = ((5 + body.length + (i + 1) : Nat) : Int) := by rw [wrap_i64 (by omega) (by omega)]; omega
      show cond (decide (((5 + body.length + i : Nat) : Int) < 56)) _ _ = _
      rw [cpos (by omega), cand (by omega) (by omega), sbyte_bs, Int.toNat_natCast, hz _ (by omega) (by omega), w1]; rfl
    · show cond (decide (((5 + body.length + (51 - body.length) : Nat) : Int) < 56)) _ _ = _
      have e2 : (A.drop 56).take (60 - 56) = fourL S := by rw [p2']; exact List.take_left' (fourL_len S)
      have lA : (A.take 56).length = 56 := by simp; omega
      have hzz : f_Sum (ByteArray.mk #[0, 0, 0, 0]) = some ((sumN [0, 0, 0, 0] : Nat) : Int) := Sum_eq [0, 0, 0, 0] (by decide)
      rw [cneg (by omega), cand (by decide) (by omega), cand (by decide) (by decide), cand (by decide) (by omega), cand (by decide) (by decide), bs_extract, e2, cfits (by rw [bs_size, bs_size, lA, fourL_len]; decide), bs_append, Sum_eq _ (by rw [List.length_append, lA, fourL_len]; decide), bind_some', hzz, bind_some', hres, beq_self_int]
theorem law_SealPlaces (w : World) (a0 : Int) (w0 : (Lit.int .u32 a0).wf = true) (a1 : ByteArray) (w1 : a1.size ≤ 140737488351232) :
    Calls Tryd.prog n_SealPlaces #[.int .u32 a0, .string a1] w fun e w' => e = .returned (.bool true) ∧ Chg (fun _ => False) w w' := by
  have hx := wf_u32 w0
  obtain ⟨seq, rfl⟩ := Int.eq_ofNat_of_zero_le hx.1
  have e : f_SealPlaces (seq : Int) a1 = some true := Places_eq seq (by omega) a1.data.toList (by rw [Array.length_toList]; exact w1)
  exact (t_SealPlaces e trivial).mono fun e w' h => ⟨h.1, h.2.quiet⟩
