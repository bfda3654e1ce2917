/-
  SealWraps: the law.
-/
import Derived.Test.YtnpopijjjfjenaaDoorLawB
namespace Go.Proofs.YtnpopijjjfjenaaDoor
open Go.Vc
set_option linter.unusedVariables false

theorem rWrap_eq (seq : Nat) (hs : seq < 4294967296) (body : List UInt8) : f_rWrap (seq : Int) (bs body) = some (if body.length > 51 then (bs [], 2) else (bs (wrapL seq body), 0)) := by
  unfold f_rWrap
  rw [bs_size]
  by_cases h : body.length > 51
  · rw [cpos (by omega), if_pos h]; rfl
  rw [cneg (by omega), if_neg h, rFour_eq _ hs, bind_some', ctrueT (one_byte _).1, (one_byte _).2, cfits (by rw [bs_size, bs_size, fourL_len]; simp), bs_append, cfits (by rw [bs_size, bs_size]; simp [fourL_len]; omega), bs_append, bs_size]
  have hl : (fourL seq ++ [UInt8.ofNat body.length] ++ body).length = 5 + body.length := by simp [fourL_len]; omega
  have hw : IntKind.wrap .i64 (56 - (((fourL seq ++ [UInt8.ofNat body.length] ++ body).length : Nat) : Int)) = ((51 - body.length : Nat) : Int) := by rw [hl, wrap_i64 (by omega) (by omega)]; omega
  have hz : List.replicate (51 - body.length) (0 : Int) = (List.replicate (51 - body.length) (0 : UInt8)).map fun b => (b.toNat : Int) := by rw [List.map_replicate]; rfl
  rw [hw, cand3 (by omega) (by omega) (by omega), Int.toNat_natCast, hz, cbytes, strOf_map, cfits (by rw [bs_size, bs_size, hl]; simp; omega), bs_append]
  have hh : fourL seq ++ [UInt8.ofNat body.length] ++ body ++ List.replicate (51 - body.length) 0 = headL seq body := rfl
  have hd := headL_len seq body (by omega)
  rw [hh, rSum_eq _ (by omega), bind_some', rFour_eq _ (sumN_lt _), bind_some', cfits (by rw [bs_size, bs_size, hd, fourL_len]; decide), bind_some', bs_append, cfits (by rw [bs_size, bs_size, List.length_append, hd, fourL_len, fourL_len]; decide), bs_append]
  rfl
theorem fourL_num (l : List UInt8) (h : 4 ≤ l.length) : fourL (numL l) = l.take 4 := by
  match l, h with
  | a :: b :: c :: d :: r, _ =>
    have ha := a.toNat_lt
    have hb := b.toNat_lt
    have hc := c.toNat_lt
    have hd := d.toNat_lt
    have hn : numL (a :: b :: c :: d :: r) = a.toNat + 256 * b.toNat + 65536 * c.toNat + 16777216 * d.toNat := rfl
    rw [hn]
    show [_, _, _, _] = [a, b, c, d]
    have e : ∀ (x : UInt8) (n : Nat), n % 256 = x.toNat → UInt8.ofNat n = x := fun x n h => UInt8.toNat_inj.1 (by rw [UInt8.toNat_ofNat']; exact h)
    rw [e a _ (by omega), e b _ (by omega), e c _ (by omega), e d _ (by omega)]
theorem all_of_drop {l : List UInt8} (h : ∀ x ∈ l.dropWhile (· == 0), x = 0) : ∀ x ∈ l, x = 0 := by
  induction l with
  | nil => intro x hx; cases hx
  | cons a l ih =>
    by_cases ha : a = 0
    · subst ha
      rw [List.dropWhile_cons_of_pos (by decide)] at h
      intro x hx
      rcases List.mem_cons.1 hx with rfl | hx
      · rfl
      · exact ih h x hx
    · rw [List.dropWhile_cons_of_neg (by simpa using ha)] at h
      exact absurd (h a (List.mem_cons_self ..)) ha
theorem zeros_of_trim {l : List UInt8} (h : Lib.trimB l 0 = []) : l = List.replicate l.length 0 := by
  unfold Lib.trimB Lib.trimLeftB Lib.trimRightB at h
  have h1 : ∀ x ∈ l.reverse.dropWhile (· == 0), x = 0 := fun x hx => all_of_drop (l := (l.reverse.dropWhile (· == 0)).reverse) (by rw [h]; intro y hy; cases hy) x (by simpa using hx)
  exact List.eq_replicate_iff.2 ⟨rfl, fun x hx => all_of_drop h1 x (by simpa using hx)⟩
theorem split_at (s : List UInt8) (hl : s.length = 64) (n : Nat) (hn : n ≤ 51) : s = s.take 4 ++ [s.getD 4 0] ++ (s.drop 5).take n ++ (s.drop (5 + n)).take (56 - (5 + n)) ++ (s.drop 56).take 4 ++ s.drop 60 := by
  have h1 : s = s.take 4 ++ s.drop 4 := (List.take_append_drop 4 s).symm
  have h2 : s.drop 4 = [s.getD 4 0] ++ s.drop 5 := by
    rw [List.drop_eq_getElem_cons (by omega), List.getD_eq_getElem?_getD, List.getElem?_eq_getElem (by omega)]; rfl
  have h3 : s.drop 5 = (s.drop 5).take n ++ s.drop (5 + n) := by rw [← List.drop_drop]; exact (List.take_append_drop n _).symm
  have h4 : s.drop (5 + n) = (s.drop (5 + n)).take (56 - (5 + n)) ++ s.drop 56 := by
    have := (List.take_append_drop (56 - (5 + n)) (s.drop (5 + n))).symm
    rw [List.drop_drop, show 5 + n + (56 - (5 + n)) = 56 by omega] at this
    exact this
  have h5 : s.drop 56 = (s.drop 56).take 4 ++ s.drop 60 := by
    have := (List.take_append_drop 4 (s.drop 56)).symm
    rw [List.drop_drop] at this
    exact this
  have e : s.take 4 ++ ([s.getD 4 0] ++ ((s.drop 5).take n ++ ((s.drop (5 + n)).take (56 - (5 + n)) ++ ((s.drop 56).take 4 ++ s.drop 60)))) = s := by rw [← h5, ← h4, ← h3, ← h2, ← h1]
  simp only [List.append_assoc] at e ⊢
  exact e.symm
theorem take_of_split {s P R : List UInt8} (h : s = P ++ R) (hl : P.length = 56) : s.take 56 = P := by rw [h, List.take_left' hl]
theorem wrap_iff (s : List UInt8) (hl : s.length = 64) (h1 : s.take 4 = s.drop 60) (h2 : numL (s.drop 56) = sumN (s.take 56)) (h3 : (s.getD 4 0).toNat ≤ 51) :
    wrapL (numL s) ((s.drop 5).take (s.getD 4 0).toNat) = s ↔ Lib.trimB ((s.drop (5 + (s.getD 4 0).toNat)).take (56 - (5 + (s.getD 4 0).toNat))) 0 = [] := by
  have hs := split_at s hl (s.getD 4 0).toNat h3
  have hlen : ((s.drop 5).take (s.getD 4 0).toNat).length = (s.getD 4 0).toNat := by rw [List.length_take, List.length_drop]; omega
  have hpl : ((s.drop (5 + (s.getD 4 0).toNat)).take (56 - (5 + (s.getD 4 0).toNat))).length = 51 - (s.getD 4 0).toNat := by rw [List.length_take, List.length_drop]; omega
  have f4 : fourL (numL s) = s.take 4 := fourL_num s (by omega)
  have f56 : fourL (sumN (s.take 56)) = (s.drop 56).take 4 := by rw [← h2]; exact fourL_num _ (by simp; omega)
  have hb : UInt8.ofNat (s.getD 4 0).toNat = s.getD 4 0 := by simp
  constructor
  · intro h
    have hd : ∀ l : List UInt8, (l.drop (5 + (s.getD 4 0).toNat)).take (56 - (5 + (s.getD 4 0).toNat)) = (l.drop (5 + (s.getD 4 0).toNat)).take (51 - (s.getD 4 0).toNat) := fun l => by rw [show 56 - (5 + (s.getD 4 0).toNat) = 51 - (s.getD 4 0).toNat by omega]
    rw [hd]
    generalize (s.getD 4 0).toNat = n at h hlen hpl h3
    have e : (wrapL (numL s) ((s.drop 5).take n)).drop (5 + n) = List.replicate (51 - n) 0 ++ (fourL (sumN (headL (numL s) ((s.drop 5).take n))) ++ fourL (numL s)) := by
      have e2 : wrapL (numL s) ((s.drop 5).take n) = (fourL (numL s) ++ [UInt8.ofNat n] ++ (s.drop 5).take n) ++ (List.replicate (51 - n) 0 ++ (fourL (sumN (headL (numL s) ((s.drop 5).take n))) ++ fourL (numL s))) := by
        unfold wrapL
        conv => lhs; arg 1; arg 1; unfold headL
        rw [hlen]; simp only [List.append_assoc]
      rw [e2]
      have : (fourL (numL s) ++ [UInt8.ofNat n] ++ (s.drop 5).take n).length = 5 + n := by rw [List.length_append, hlen, List.length_append, fourL_len]; rfl
      rw [← this]; exact List.drop_left
    rw [h] at e
    rw [e, List.take_left' (List.length_replicate ..), trim_zeros]
  · intro h
    have hz := zeros_of_trim h
    rw [hpl] at hz
    have hhead : headL (numL s) ((s.drop 5).take (s.getD 4 0).toNat) = s.take 56 := by
      unfold headL
      rw [hlen, hb, f4, ← hz]
      refine (take_of_split (R := (s.drop 56).take 4 ++ s.drop 60) (by rw [← List.append_assoc]; exact hs) ?_).symm
      rw [List.length_append, List.length_append, hpl, hlen, List.length_append, List.length_take]
      show min 4 s.length + 1 + _ + _ = 56
      omega
    unfold wrapL
    rw [hhead, f56, f4]
    have e : s.take 56 ++ ((s.drop 56).take 4 ++ s.take 4) = s := by
      rw [h1]
      have h5 : s.drop 56 = (s.drop 56).take 4 ++ s.drop 60 := by
        have := (List.take_append_drop 4 (s.drop 56)).symm
        rw [List.drop_drop] at this
        exact this
      rw [← h5, List.take_append_drop]
    rw [List.append_assoc]; exact e
theorem four_num_iff (l : List UInt8) (h : 4 ≤ l.length) (n : Nat) (hn : n < 4294967296) : l.take 4 = fourL n ↔ numL l = n := by
  constructor
  · intro e
    rw [← fourL_num l h] at e
    exact fourL_inj (numL_lt l) hn e
  · intro e
    rw [← e, fourL_num l h]
theorem rOpen_eq (s : List UInt8) : f_rOpen (bs s) = some (((openL s).1 : Int), bs (openL s).2.1, (openL s).2.2) := by
  unfold f_rOpen
  rw [bs_size]
  by_cases h : s.length = 64
  rotate_left
  · rw [cbne (by omega)]; unfold openL; rw [if_pos h]; rfl
  rw [cbeq (by omega), cand (by decide) (by omega), cand (by decide) (by decide), cand (by omega) (by omega), cand (by decide) (by omega), bs_extract, bs_extract, beq_bs, cnot]
  have e1 : (s.drop 0).take (4 - 0) = s.take 4 := by simp
  have e2 : (s.drop 60).take (s.length - 60) = s.drop 60 := List.take_of_length_le (by simp)
  rw [e1, e2]
  by_cases h1 : s.take 4 = s.drop 60
  rotate_left
  · rw [cneg h1, openL_20 s h h1]; rfl
  have e4 : (s.drop 0).take (56 - 0) = s.take 56 := by simp
  rw [cpos h1, cand (by decide) (by omega), cand (by decide) (by decide), cand (by decide) (by omega), cand (by decide) (by decide), bs_extract, e4, rSum_eq _ (by simp; omega), bind_some', rFour_eq _ (sumN_lt _), bind_some', bs_extract, beq_bs, cnot, show 60 - 56 = 4 from rfl]
  by_cases h2 : numL (s.drop 56) = sumN (s.take 56)
  rotate_left
  · rw [cneg (by rw [four_num_iff _ (by simp; omega) _ (sumN_lt _)]; exact h2)]
    unfold openL
    rw [if_neg (by simpa using h), if_neg (by simpa using h1), if_pos h2]; rfl
  rw [cpos ((four_num_iff _ (by simp; omega) _ (sumN_lt _)).2 h2), cand (by decide) (by omega), sbyte_bs, show (4 : Int).toNat = 4 from rfl]
  have hi := wrap_iff s h h1 h2
  have ho : openL s = if (s.getD 4 0).toNat > 51 then (0, [], 30) else if Lib.trimB ((s.drop (5 + (s.getD 4 0).toNat)).take (56 - (5 + (s.getD 4 0).toNat))) 0 ≠ [] then (0, [], 30) else (numL s, (s.drop 5).take (s.getD 4 0).toNat, 0) := by
    unfold openL
    rw [if_neg (by simpa using h), if_neg (by simpa using h1), if_neg (by simpa using h2)]
  rw [ho]
  have hb := (s.getD 4 0).toNat_lt
  generalize (s.getD 4 0).toNat = n at hb hi ⊢
  rw [wrap_i64 (x := (n : Int)) (by omega) (by omega)]
  by_cases h3 : n > 51
  · rw [cpos (by omega), if_pos h3]; rfl
  have hi := hi (by omega)
  rw [cneg (by omega), if_neg h3, wrap_i64 (x := 5 + (n : Int)) (by omega) (by omega), cand (by omega) (by omega), cand (by decide) (by omega), rNum_eq _ (by omega), bind_some', bs_extract, show (5 + (n : Int)).toNat = 5 + n by omega, show 5 + n - 5 = n by omega, rWrap_eq _ (numL_lt s), if_neg (by simp; omega), bind_some']
  show cond (!((bs (wrapL (numL s) ((s.drop 5).take n))).toList == (bs s).toList)) _ _ = _
  rw [beq_bs, cnot]
  by_cases h4 : wrapL (numL s) ((s.drop 5).take n) = s
  · rw [cpos h4, if_neg (by simpa using hi.1 h4), bind_some', cand (by omega) (by omega), cand (by decide) (by omega)]
  · rw [cneg h4, if_pos (fun e => h4 (hi.2 e))]; rfl
theorem Wraps_eq (seq : Nat) (hs : seq < 4294967296) (body s : List UInt8) (hb : body.length ≤ 140737488351232) : f_SealWraps (seq : Int) (bs body) (bs s) = some true := by
  unfold f_SealWraps
  rw [awake_eq, bind_some', ctrueF (b := !true) rfl, Wrap_eq _ hs, rWrap_eq _ hs]
  obtain ⟨x, y, hxy⟩ : ∃ x y, (if body.length > 51 then (bs [], 2) else (bs (wrapL seq body), 0) : O_Wrap) = (bs x, y) := by
    by_cases h : body.length > 51
    · exact ⟨[], 2, by rw [if_pos h]⟩
    · exact ⟨wrapL seq body, 0, by rw [if_neg h]⟩
  rw [hxy, bind_some']
  show Option.bind (some (bs x, y)) _ = _
  rw [bind_some']
  show Option.bind (f_Open (bs s)) _ = _
  rw [Open_eq, bind_some']
  show Option.bind (f_rOpen (bs s)) _ = _
  rw [rOpen_eq, bind_some']
  show Option.bind (f_Sum (bs body)) _ = _
  rw [Sum_eq _ (by omega), bind_some', rSum_eq _ (by omega), bind_some', ctrueT (beq_self_int _), beq_bs, cpos rfl, ctrueT (beq_self_int _), ctrueT (beq_self_int _), beq_bs, cpos rfl, beq_self_int]
theorem law_SealWraps (w : World) (a0 : Int) (w0 : (Lit.int .u32 a0).wf = true) (a1 : ByteArray) (w1 : a1.size ≤ 140737488351232) (a2 : ByteArray) (w2 : a2.size ≤ 140737488351232) :
    Calls Tryd.prog n_SealWraps #[.int .u32 a0, .string a1, .string a2] w fun e w' => e = .returned (.bool true) ∧ Chg (fun _ => False) w w' := by
  have hx := wf_u32 w0
  obtain ⟨seq, rfl⟩ := Int.eq_ofNat_of_zero_le hx.1
  have e : f_SealWraps (seq : Int) a1 a2 = some true := Wraps_eq seq (by omega) a1.data.toList a2.data.toList (by rw [Array.length_toList]; exact w1)
  exact (t_SealWraps e trivial).mono fun e w' h => ⟨h.1, h.2.quiet⟩
