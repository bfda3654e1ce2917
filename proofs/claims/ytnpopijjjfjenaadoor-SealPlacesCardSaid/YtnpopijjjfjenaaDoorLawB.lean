/-
  SealBack: the law.
-/
import Derived.Test.YtnpopijjjfjenaaDoorLawT
namespace Go.Proofs.YtnpopijjjfjenaaDoor
open Go.Vc
set_option linter.unusedVariables false

theorem xr {a b c : Nat} (h : a ^^^ c = b ^^^ c) : a = b := by
  have := congrArg (· ^^^ c) h
  simpa [Nat.xor_assoc] using this
theorem xl {a b c : Nat} (h : c ^^^ a = c ^^^ b) : a = b := by
  rw [Nat.xor_comm c a, Nat.xor_comm c b] at h; exact xr h

/-! ### the sum tells two bytes apart -/
theorem top_xor (a : Nat) (h : a < 2147483648) : 2147483648 ≤ a ^^^ 3988292384 := by
  refine Nat.le_of_not_lt fun hc => ?_
  have h1 : (a ^^^ 3988292384).testBit 31 = false := Nat.testBit_lt_two_pow (i := 31) hc
  have h2 : a.testBit 31 = false := Nat.testBit_lt_two_pow (i := 31) h
  rw [Nat.testBit_xor, h2] at h1
  exact absurd h1 (by decide)
theorem stepN_inj {a b : Nat} (ha : a < 4294967296) (hb : b < 4294967296) (h : stepN a = stepN b) : a = b := by
  unfold stepN at h
  by_cases h1 : a % 2 = 1
  · by_cases h2 : b % 2 = 1
    · rw [if_pos h1, if_pos h2] at h
      have := xr h
      omega
    · rw [if_pos h1, if_neg h2, Nat.xor_zero] at h
      have := top_xor (a / 2) (by omega)
      omega
  · by_cases h2 : b % 2 = 1
    · rw [if_neg h1, if_pos h2, Nat.xor_zero] at h
      have := top_xor (b / 2) (by omega)
      omega
    · rw [if_neg h1, if_neg h2, Nat.xor_zero, Nat.xor_zero] at h
      omega
theorem stepsN_inj {a b : Nat} (ha : a < 4294967296) (hb : b < 4294967296) : ∀ k, stepsN k a = stepsN k b → a = b
  | 0, h => h
  | k + 1, h => stepsN_inj ha hb k (stepN_inj (stepsN_lt ha k) (stepsN_lt hb k) h)
theorem crcN_inj (l : List UInt8) : ∀ {a b : Nat}, a < 4294967296 → b < 4294967296 → crcN a l = crcN b l → a = b := by
  induction l with
  | nil => intro a b _ _ h; exact h
  | cons x l ih =>
    intro a b ha hb h
    have h1 := ih (byteN_lt ha x) (byteN_lt hb x) h
    have hx := x.toNat_lt
    exact xr (stepsN_inj (xor_lt ha (by omega)) (xor_lt hb (by omega)) 8 h1)
theorem byteN_ne {c : Nat} (hc : c < 4294967296) {x y : UInt8} (h : byteN c x = byteN c y) : x = y := by
  have hx := x.toNat_lt
  have hy := y.toNat_lt
  have h1 := xl (stepsN_inj (xor_lt hc (by omega)) (xor_lt hc (by omega)) 8 h)
  exact UInt8.toNat_inj.1 h1
theorem crcN_append (c : Nat) (l r : List UInt8) : crcN c (l ++ r) = crcN (crcN c l) r := List.foldl_append
theorem sumN_set (l : List UInt8) (i : Nat) (hi : i < l.length) (b : UInt8) (h : sumN (l.set i b) = sumN l) : l[i] = b := by
  have h1 := xl h
  have e1 : l.set i b = l.take i ++ ([b] ++ l.drop (i + 1)) := by rw [List.set_eq_take_append_cons_drop, if_pos hi]; rfl
  have e2 : l = l.take i ++ ([l[i]] ++ l.drop (i + 1)) := by
    have : [l[i]] ++ l.drop (i + 1) = l.drop i := (List.drop_eq_getElem_cons hi).symm
    rw [this, List.take_append_drop]
  rw [e1] at h1
  have h2 : crcN 4294967295 (l.take i ++ ([b] ++ l.drop (i + 1))) = crcN 4294967295 (l.take i ++ ([l[i]] ++ l.drop (i + 1))) := h1.trans (congrArg _ e2)
  rw [crcN_append, crcN_append, crcN_append, crcN_append] at h2
  have hc := crcN_lt (l.take i) 4294967295 (by decide)
  have h3 := crcN_inj _ (crcN_lt _ _ hc) (crcN_lt _ _ hc) h2
  exact (byteN_ne hc h3).symm

/-! ### opening what was wrapped -/
theorem numL_four (x : Nat) (hx : x < 4294967296) (r : List UInt8) : numL (fourL x ++ r) = x := by
  show (UInt8.ofNat x).toNat + 256 * (UInt8.ofNat (x / 256)).toNat + 65536 * (UInt8.ofNat (x / 65536)).toNat + 16777216 * (UInt8.ofNat (x / 16777216)).toNat = x
  simp only [UInt8.toNat_ofNat']
  omega
theorem wrapL_parts (seq : Nat) (body : List UInt8) (h : body.length ≤ 51) : (wrapL seq body).take 56 = headL seq body ∧ (wrapL seq body).drop 56 = fourL (sumN (headL seq body)) ++ fourL seq := by
  have hl := headL_len seq body h
  unfold wrapL
  rw [List.append_assoc]
  exact ⟨by rw [← hl]; exact List.take_left, by rw [← hl]; exact List.drop_left⟩
theorem drop_zeros (n : Nat) : (List.replicate n (0 : UInt8)).dropWhile (· == 0) = [] := by
  induction n with
  | zero => rfl
  | succ n ih => rw [List.replicate_succ, List.dropWhile_cons_of_pos (by decide)]; exact ih
theorem trim_zeros (n : Nat) : Lib.trimB (List.replicate n (0 : UInt8)) 0 = [] := by
  unfold Lib.trimB Lib.trimRightB Lib.trimLeftB
  rw [List.reverse_replicate, drop_zeros]; rfl
theorem open_wrap (seq : Nat) (hs : seq < 4294967296) (body : List UInt8) (h : body.length ≤ 51) : openL (wrapL seq body) = (seq, body, 0) := by
  obtain ⟨p1, p2⟩ := wrapL_parts seq body h
  have hl := wrapL_len seq body h
  have h4 : (wrapL seq body).getD 4 0 = UInt8.ofNat body.length := by unfold wrapL headL; rfl
  have hn : (UInt8.ofNat body.length).toNat = body.length := by rw [UInt8.toNat_ofNat']; omega
  have hb : (wrapL seq body).drop 5 = body ++ (List.replicate (51 - body.length) 0 ++ (fourL (sumN (headL seq body)) ++ fourL seq)) := by
    have e : wrapL seq body = (fourL seq ++ [UInt8.ofNat body.length]) ++ (body ++ (List.replicate (51 - body.length) 0 ++ (fourL (sumN (headL seq body)) ++ fourL seq))) := by
      unfold wrapL headL; simp only [List.append_assoc]
    rw [e]; exact List.drop_left (l₁ := fourL seq ++ [UInt8.ofNat body.length])
  have hz : ((wrapL seq body).drop (5 + body.length)).take (56 - (5 + body.length)) = List.replicate (51 - body.length) 0 := by
    rw [← List.drop_drop, hb, List.drop_left, show 56 - (5 + body.length) = 51 - body.length by omega]
    exact List.take_left' (List.length_replicate ..)
  unfold openL
  rw [if_neg (by simpa using hl), if_neg (by rw [wrapL_take, wrapL_drop seq body h]; simp), if_neg (by rw [p1, p2, numL_four _ (sumN_lt _)]; simp), h4, hn, if_neg (by omega), hz, trim_zeros, if_neg (by simp), hb, List.take_left]
  have hq : numL (wrapL seq body) = seq := by
    have := numL_four seq hs ([UInt8.ofNat body.length] ++ body ++ List.replicate (51 - body.length) 0 ++ fourL (sumN (headL seq body)) ++ fourL seq)
    unfold wrapL headL
    simp only [List.append_assoc] at this ⊢
    exact this
  rw [hq]
theorem commanded_command (k a : Int) (d : List UInt8) (h : okF k a d = true) : commandedL (commandL k a d) = (k, a, d, 0) := by
  obtain ⟨a0, a1, d1⟩ := okF_addr h
  have k0 : 0 ≤ k ∧ k ≤ 3 := by rcases okF_kind h with h | h | h <;> omega
  obtain ⟨kn, rfl⟩ := Int.eq_ofNat_of_zero_le k0.1
  obtain ⟨an, rfl⟩ := Int.eq_ofNat_of_zero_le a0
  have e0 : (commandL (kn : Int) (an : Int) d).getD 0 0 = UInt8.ofNat kn := rfl
  have e1 : (commandL (kn : Int) (an : Int) d).drop 1 = fourL an ++ d := rfl
  have e5 : (commandL (kn : Int) (an : Int) d).drop 5 = d := rfl
  have hk : (UInt8.ofNat kn).toNat = kn := by rw [UInt8.toNat_ofNat']; omega
  unfold commandedL
  rw [if_neg (by rw [commandL_len]; omega), e0, e1, e5, numL_four _ (by omega), hk, if_pos h]

/-! ### one bit turned -/
theorem set_same {l : List UInt8} {i : Nat} {b : UInt8} (hi : i < l.length) (h : l.set i b = l) : l[i] = b := by
  have e := congrArg (fun x => x[i]?) h
  simp only [List.getElem?_set_self hi, List.getElem?_eq_getElem hi] at e
  exact (Option.some.inj e).symm
theorem numL_byte {l r : List UInt8} (h : numL l = numL r) (j : Nat) (hj : j < 4) : l.getD j 0 = r.getD j 0 := by
  unfold numL at h
  have a0 := (l.getD 0 0).toNat_lt
  have a1 := (l.getD 1 0).toNat_lt
  have a2 := (l.getD 2 0).toNat_lt
  have a3 := (l.getD 3 0).toNat_lt
  have b0 := (r.getD 0 0).toNat_lt
  have b1 := (r.getD 1 0).toNat_lt
  have b2 := (r.getD 2 0).toNat_lt
  have b3 := (r.getD 3 0).toNat_lt
  refine UInt8.toNat_inj.1 ?_
  match j, hj with
  | 0, _ => omega
  | 1, _ => omega
  | 2, _ => omega
  | 3, _ => omega
theorem flip_open (A : List UInt8) (hA : A.length = 64) (e4 : A.take 4 = A.drop 60) (es : numL (A.drop 56) = sumN (A.take 56)) (i : Nat) (hi : i < 64) (b : UInt8) (hb : A.getD i 0 ≠ b) : (openL (A.set i b)).2.2 = 20 ∨ (openL (A.set i b)).2.2 = 21 := by
  have hg : ∀ h : i < A.length, A[i] ≠ b := fun h => by
    rw [List.getD_eq_getElem?_getD, List.getElem?_eq_getElem h] at hb; exact hb
  have hi' : i < A.length := by omega
  unfold openL
  rw [if_neg (by simpa using hA)]
  by_cases h : (A.set i b).take 4 = (A.set i b).drop 60
  rotate_left
  · rw [if_pos h]; exact .inl rfl
  rw [if_neg (by simpa using h)]
  rw [List.take_set, List.drop_set] at h
  have i4 : 4 ≤ i := by
    refine Nat.le_of_not_lt fun hc => ?_
    rw [if_pos (by omega), ← e4] at h
    have := set_same (by simp; omega) h
    rw [List.getElem_take] at this
    exact hg hi' this
  have i60 : i < 60 := by
    refine Nat.lt_of_not_le fun hc => ?_
    rw [if_neg (by omega), List.set_eq_of_length_le (by simp; omega), e4] at h
    have := set_same (by simp; omega) h.symm
    rw [List.getElem_drop] at this
    refine hg hi' ?_
    have e : 60 + (i - 60) = i := by omega
    simpa only [e] using this
  refine .inr ?_
  rw [if_pos]
  rw [List.take_set, List.drop_set]
  intro hc
  by_cases h56 : i < 56
  · rw [if_pos h56, es] at hc
    have := sumN_set (A.take 56) i (by simp; omega) b hc.symm
    rw [List.getElem_take] at this
    exact hg hi' this
  · rw [if_neg h56, List.set_eq_of_length_le (l := A.take 56) (by simp; omega), ← es] at hc
    have := numL_byte hc (i - 56) (by omega)
    rw [List.getD_eq_getElem?_getD, List.getD_eq_getElem?_getD, List.getElem?_set_self (by simp; omega), List.getElem?_drop, show 56 + (i - 56) = i by omega, List.getElem?_eq_getElem hi'] at this
    exact hg hi' this.symm
theorem mask8 : ∀ t : Fin 8, IntKind.wrap .u8 ((1 : Int) * 2 ^ (min t.val 8)) = (((UInt8.ofNat (2 ^ t.val)).toNat : Nat) : Int) ∧ UInt8.ofNat (2 ^ t.val) ≠ 0 := by decide
theorem xor8 (a b : UInt8) : bits .xor .u8 ((a.toNat : Nat) : Int) ((b.toNat : Nat) : Int) = (((a ^^^ b).toNat : Nat) : Int) := by
  rw [u8_xor_nat _ _ a.toNat_lt b.toNat_lt, UInt8.toNat_xor]
theorem xor_ne (a b : UInt8) (hb : b ≠ 0) : a ≠ a ^^^ b := fun h => hb (by
  have e : a ^^^ a = a ^^^ (a ^^^ b) := congrArg (a ^^^ ·) h
  rw [UInt8.xor_self, ← UInt8.xor_assoc, UInt8.xor_self, UInt8.zero_xor] at e
  exact e.symm)
theorem Back_eq (seq : Nat) (hs : seq < 4294967296) (k a : Int) (d : List UInt8) (pos : Int) : f_SealBack (seq : Int) k a (bs d) pos = some true := by
  unfold f_SealBack
  rw [awake_eq, bind_some', ctrueF (b := !true) rfl, Record_eq _ hs, bind_some']
  by_cases h1 : okF k a d = true
  rotate_left
  · rw [if_neg h1]
    show cond ((1 : Int) != 0) (cond ((1 : Int) == 1) (Option.bind (f_sCheck k a (bs d)) _) _) _ = _
    rw [cbne (by decide), ceq rfl, sCheck_eq, if_neg h1, bind_some']; rfl
  rw [if_pos h1]
  have l1 : (commandL k a d).length ≤ 51 := by rw [commandL_len]; have := okF_addr h1; omega
  have hl := wrapL_len seq _ l1
  have hr : recordedL (wrapL seq (commandL k a d)) = ((seq : Int), k, a, d, 0) := by
    unfold recordedL; rw [open_wrap seq hs _ l1, commanded_command k a d h1]; rfl
  have e4 : (wrapL seq (commandL k a d)).take 4 = (wrapL seq (commandL k a d)).drop 60 := by rw [wrapL_take, wrapL_drop _ _ l1]
  have es : numL ((wrapL seq (commandL k a d)).drop 56) = sumN ((wrapL seq (commandL k a d)).take 56) := by
    obtain ⟨p1, p2⟩ := wrapL_parts seq _ l1
    rw [p1, p2, numL_four _ (sumN_lt _)]
  generalize wrapL seq (commandL k a d) = A at hl hr e4 es ⊢
  show cond ((0 : Int) != 0) _ (Option.bind (f_Recorded (bs A)) _) = _
  rw [cbeq rfl, Recorded_eq _ (by omega), hr, bind_some']
  show cond ((0 : Int) != 0) _ (cond (!(((seq : Int) == seq) && ((k == k) && ((a == a) && (bs d == bs d))))) _ (cond (((bs A).size : Int) != 64) _ _)) = _
  rw [cbeq rfl, beq_self_int, beq_self_int, beq_self_int, beq_bs', decide_eq_true rfl, ctrueF (b := !(true && (true && (true && true)))) rfl, bs_size, cbeq (by omega)]
  obtain ⟨s, hq, hs2⟩ : ∃ s : Nat, Int.tmod (IntKind.wrap .i64 (Int.tmod pos 512 + 512)) 512 = (s : Int) ∧ s < 512 := by
    have b1 : -512 < Int.tmod pos 512 := Int.lt_tmod_of_pos pos (by decide)
    have b2 : Int.tmod pos 512 < 512 := Int.tmod_lt_of_pos pos (by decide)
    generalize Int.tmod pos 512 = x at b1 b2
    rw [wrap_i64 (by omega) (by omega), tmod_nn (by omega)]
    exact ⟨((x + 512) % 512).toNat, by omega, by omega⟩
  have q1 : Int.tdiv (s : Int) 8 = ((s / 8 : Nat) : Int) := by rw [tdiv_nn (by omega)]; omega
  have q2 : Int.tmod (s : Int) 8 = ((s % 8 : Nat) : Int) := by rw [tmod_nn (by omega)]; omega
  obtain ⟨m1, m2⟩ := mask8 ⟨s % 8, by omega⟩
  have hlen : ((A.map fun b => (b.toNat : Int)).length) = 64 := by rw [List.length_map, hl]
  rw [Let_eq, hq, cpos (by omega), q1, q2, wrap_i64 (by omega) (by omega), bytesOf_bs, hlen, cand (by omega) (by omega), cpos (by omega), cand (by omega) (by omega), Int.toNat_natCast, Int.toNat_natCast, ixL_map (by rw [Int.toNat_natCast]; omega)]
  have m1' : IntKind.wrap .u8 ((1 : Int) * 2 ^ (min (s % 8) 8)) = (((UInt8.ofNat (2 ^ (s % 8))).toNat : Nat) : Int) := m1
  have m2' : UInt8.ofNat (2 ^ (s % 8)) ≠ 0 := m2
  rw [m1', xor8, ints_set, cbytes, strOf_map, Recorded_eq _ (by simp; omega), bind_some']
  generalize UInt8.ofNat (2 ^ (s % 8)) = m at m2'
  have hf := flip_open A hl e4 es (s / 8) (by omega) (A.getD (s / 8) 0 ^^^ m) (xor_ne _ _ m2')
  have eg : A[((s / 8 : Nat) : Int).toNat]'(by rw [Int.toNat_natCast]; omega) = A.getD (s / 8) 0 := by
    simp only [Int.toNat_natCast]
    rw [List.getD_eq_getElem?_getD, List.getElem?_eq_getElem (by omega)]; rfl
  rw [eg]
  generalize A.set (s / 8) (A.getD (s / 8) 0 ^^^ m) = B at hf ⊢
  show cond ((recordedL B).2.2.2.2 == 20) (some true) (some ((recordedL B).2.2.2.2 == 21)) = _
  have hc : (recordedL B).2.2.2.2 = (openL B).2.2 := by
    unfold recordedL
    rw [if_pos (by rcases hf with h | h <;> rw [h] <;> decide)]
  rw [hc]
  rcases hf with h | h <;> rw [h] <;> rfl
theorem law_SealBack (w : World) (l0 : List Value) (w0 : ∃ n, Rd Tryd.prog w n 50 l0) (a1 : Int) (w1 : (Lit.int .i64 a1).wf = true) :
    Calls Tryd.prog n_SealBack #[.agg l0.toArray, .int .i64 a1] w fun e w' => e = .returned (.bool true) ∧ Chg (fun _ => False) w w' := by
  obtain ⟨p, k, a, d, rfl, hp, _⟩ := rd_rec w0
  have e : f_SealBack (p : Int) k a d a1 = some true := Back_eq p hp k a d.data.toList a1
  exact (t_SealBack e trivial).mono fun e w' h => ⟨h.1, h.2.quiet⟩
