/-
  The document's decoding: the walk over the table.
-/
import Derived.Test.YtigpcfocaipicaaTab2
namespace Go.Proofs.Ytigpcfocaipicaa
open Go.Vc
set_option linter.unusedVariables false
set_option linter.unusedSimpArgs false

theorem loop_pick {F : Int → Option (Int ⊕ O_rDecode)} (q : Nat)
    (hA : ∀ (j : Nat) (h : j < tbl.length), F (j : Int) = if mT tbl[j] (q / 64) = true then some (.inr (refT tbl[j] q)) else some (.inl ((j + 1 : Nat) : Int)))
    (hZ : F ((tbl.length : Nat) : Int) = some (.inr none_)) : loopO F 0 = some (refD tbl q) := by
  have key : ∀ (d j : Nat), j + d = tbl.length → loopO F (j : Int) = some (refD (tbl.drop j) q) := by
    intro d
    induction d with
    | zero =>
      intro j hj
      have : j = tbl.length := by omega
      subst this
      rw [loopO_eq, hZ, bind_some', List.drop_length]; rfl
    | succ d ih =>
      intro j hj
      have hl : j < tbl.length := by omega
      rw [loopO_eq, hA j hl, List.drop_eq_getElem_cons hl]
      by_cases hm : mT tbl[j] (q / 64) = true
      · rw [if_pos hm, bind_some']
        show _ = some (match cond (mT tbl[j] (q / 64)) (some tbl[j]) _ with | some r => refT r q | none => none_)
        rw [hm]; rfl
      · rw [if_neg hm, bind_some']
        show loopO F ((j + 1 : Nat) : Int) = some (match cond (mT tbl[j] (q / 64)) (some tbl[j]) _ with | some r => refT r q | none => none_)
        rw [ih (j + 1) (by omega), Bool.eq_false_iff.2 hm]; rfl
  have := key tbl.length 0 (by omega)
  rwa [List.drop_zero] at this
theorem mT_eq {r : E41} (q : Nat) (h : rowOk r = true) : (chars r.Pattern).length = 16 ∧ (∃ n : Nat, r.Letter = (n : Int)) ∧ mT r (q / 64) = (fitsN (chars r.Pattern) q && cond (r.Letter != 0) (decide (r.Low ≤ ((fldS (chars r.Pattern) q r.Letter.toNat : Nat) : Int)) && decide (((fldS (chars r.Pattern) q r.Letter.toNat : Nat) : Int) ≤ r.High)) true) := by
  unfold rowOk at h
  simp only [Bool.and_eq_true, Bool.not_eq_true', decide_eq_true_eq] at h
  obtain ⟨⟨⟨h1, h2⟩, h3⟩, h4⟩ := h
  have hl : (chars r.Pattern).length = 16 := Nat.eq_of_beq_eq_true h1
  refine ⟨hl, ⟨r.Letter.toNat, by omega⟩, ?_⟩
  have hb : ((chars r.Pattern).drop 10).length = 6 := by rw [List.length_drop, hl]
  have e1 := fits_app ((chars r.Pattern).drop 10) q ((chars r.Pattern).take 10)
  rw [List.take_append_drop, hb, fits_plain q _ h2, Bool.and_true] at e1
  have e2 := fld_app ((chars r.Pattern).drop 10) q r.Letter.toNat ((chars r.Pattern).take 10) 0
  rw [List.take_append_drop, hb, fld_none q _ _ _ h3] at e2
  unfold mT fldS
  rw [evf_eq, evs_segs, e1, e2]
theorem bind_id {α β : Type} {x : Option α} {f : α → Option β} {y : Option β} (z : α) (h : x = some z) (h2 : f z = y) : x.bind f = y := by rw [h]; exact h2
theorem rest_eq (r : E41) (q : Nat) (hp : r.Pattern.size ≤ 16) : ((f_filled r.Pattern r.Letter r.Low r.High r.X_Kind r.X_Cond r.X_Code r.X_Flags r.X_Rd r.X_Rn r.X_Rs r.X_Rm r.X_Imm r.X_HasImm r.X_Shift r.X_Amount r.X_ByReg r.X_Load r.X_Byte r.X_Signed r.X_Pre r.X_Up r.X_Back r.X_User r.X_List r.X_Link r.X_Long r.X_Align (q : Int)).bind fun (o : O_filled) => (match o with | (x65_0, x65_1, x65_2, x65_3, x65_4, x65_5, x65_6, x65_7, x65_8, x65_9, x65_10, x65_11, x65_12, x65_13, x65_14, x65_15, x65_16, x65_17, x65_18, x65_19, x65_20, x65_21, x65_22, x65_23) => ((f_Field r.Pattern (q : Int) 111).bind fun (x72 : O_Field) => (((cond (decide (x65_2 < 0)) (some x72) (some x65_2)) : Option Int).bind (fun (J_1_b_1_2 : Int) => (((cond x65_12 (cond (x72 == 7) (some (3 : Int)) (some (IntKind.wrap .i64 (x72 - 2)))) (some x65_10)) : Option Int).bind (fun (J_2_b_1_10 : Int) => (cond (x65_0 == 9) (cond (x65_1 != 14) ((f_sign x65_8 8).bind fun (x97 : O_sign) => (some (.inr (x65_0, x65_1, J_1_b_1_2, x65_3, x65_4, x65_5, x65_6, x65_7, (IntKind.wrap .u32 (x97 * 2)), x65_9, J_2_b_1_10, x65_11, x65_12, x65_13, x65_14, x65_15, x65_16, x65_17, x65_18, x65_19, x65_20, x65_21, x65_22, x65_23)))) (cond (x65_0 == 9) ((f_sign x65_8 11).bind fun (x106 : O_sign) => (some (.inr (x65_0, x65_1, J_1_b_1_2, x65_3, x65_4, x65_5, x65_6, x65_7, (IntKind.wrap .u32 (x106 * 2)), x65_9, J_2_b_1_10, x65_11, x65_12, x65_13, x65_14, x65_15, x65_16, x65_17, x65_18, x65_19, x65_20, x65_21, x65_22, x65_23)))) (cond (x65_0 == 13) (cond (J_1_b_1_2 == 0) ((f_sign x65_8 11).bind fun (x120 : O_sign) => (some (.inr (x65_0, x65_1, J_1_b_1_2, x65_3, x65_4, x65_5, x65_6, x65_7, (IntKind.wrap .u32 (x120 * 4096)), x65_9, J_2_b_1_10, x65_11, x65_12, x65_13, x65_14, x65_15, x65_16, x65_17, x65_18, x65_19, x65_20, x65_21, x65_22, x65_23)))) (some (.inr (x65_0, x65_1, J_1_b_1_2, x65_3, x65_4, x65_5, x65_6, x65_7, x65_8, x65_9, J_2_b_1_10, x65_11, x65_12, x65_13, x65_14, x65_15, x65_16, x65_17, x65_18, x65_19, x65_20, x65_21, x65_22, x65_23)))) (some (.inr (x65_0, x65_1, J_1_b_1_2, x65_3, x65_4, x65_5, x65_6, x65_7, x65_8, x65_9, J_2_b_1_10, x65_11, x65_12, x65_13, x65_14, x65_15, x65_16, x65_17, x65_18, x65_19, x65_20, x65_21, x65_22, x65_23)))))) (cond (x65_0 == 9) ((f_sign x65_8 11).bind fun (x106_1 : O_sign) => (some (.inr (x65_0, x65_1, J_1_b_1_2, x65_3, x65_4, x65_5, x65_6, x65_7, (IntKind.wrap .u32 (x106_1 * 2)), x65_9, J_2_b_1_10, x65_11, x65_12, x65_13, x65_14, x65_15, x65_16, x65_17, x65_18, x65_19, x65_20, x65_21, x65_22, x65_23)))) (cond (x65_0 == 13) (cond (J_1_b_1_2 == 0) ((f_sign x65_8 11).bind fun (x120_1 : O_sign) => (some (.inr (x65_0, x65_1, J_1_b_1_2, x65_3, x65_4, x65_5, x65_6, x65_7, (IntKind.wrap .u32 (x120_1 * 4096)), x65_9, J_2_b_1_10, x65_11, x65_12, x65_13, x65_14, x65_15, x65_16, x65_17, x65_18, x65_19, x65_20, x65_21, x65_22, x65_23)))) (some (.inr (x65_0, x65_1, J_1_b_1_2, x65_3, x65_4, x65_5, x65_6, x65_7, x65_8, x65_9, J_2_b_1_10, x65_11, x65_12, x65_13, x65_14, x65_15, x65_16, x65_17, x65_18, x65_19, x65_20, x65_21, x65_22, x65_23)))) (some (.inr (x65_0, x65_1, J_1_b_1_2, x65_3, x65_4, x65_5, x65_6, x65_7, x65_8, x65_9, J_2_b_1_10, x65_11, x65_12, x65_13, x65_14, x65_15, x65_16, x65_17, x65_18, x65_19, x65_20, x65_21, x65_22, x65_23)))))))))))) : Option (Int ⊕ O_rDecode)) = some (.inr (refT r q)) := by
  rw [filled_eq _ _ _ _ _ _ _ _ _ _ _ _ _ _ _ _ _ _ _ _ _ _ _ _ _ _ _ _ _ hp, bind_some']
  unfold refT
  generalize filledN (chars r.Pattern) r.X_Kind r.X_Code r.X_Flags r.X_Rd r.X_Rn r.X_Rs r.X_Rm r.X_Imm r.X_HasImm r.X_Amount r.X_ByReg r.X_Load r.X_Byte r.X_Signed r.X_Pre r.X_Up r.X_Back r.X_User r.X_List r.X_Link r.X_Long r.X_Align q = f
  obtain ⟨x0, x1, x2, x3, x4, x5, x6, x7, x8, x9, x10, x11, x12, x13, x14, x15, x16, x17, x18, x19, x20, x21, x22, x23⟩ := f
  dsimp only
  rw [show f_Field r.Pattern (q : Int) 111 = some (fI (chars r.Pattern) q 111) from Field_eq r.Pattern q 111 hp, bind_some']
  generalize fI (chars r.Pattern) q 111 = o
  simp only [cond_some, bind_some', sign8, sign11]
  cases hk : (x0 == 9) <;> cases hk2 : (x1 != 14) <;> cases hk3 : (x0 == 13) <;> first | rfl | (cases hk4 : (cond (decide (x2 < 0)) o x2 == 0) <;> rfl)
theorem rDecode_eq (q : Nat) (hq : q < 65536) : f_rDecode (q : Int) = some (refD tbl q) := by
  unfold f_rDecode
  rw [table_eq, bind_some']
  refine loop_pick q (fun j hj => ?_) ?_
  · have hw : IntKind.wrap .u32 (q : Int) = (q : Int) := wrap_u32 (by omega) (by omega)
    have hlen := tbl_len
    have hok := List.all_eq_true.1 rows_ok _ (List.getElem_mem hj)
    show cond (decide ((j : Int) < ((tbl.length : Nat) : Int))) (cond _ (Option.bind (f_Fits _ _) _) none) _ = _
    have hr : ixL tbl (j : Int) = tbl[j] := ixL_nat hj
    rw [cpos (by omega), cand (by omega) (by omega)]
    simp only [hr, hw]
    generalize tbl[j] = r at hok
    obtain ⟨h16, ⟨n, hn⟩, hm⟩ := mT_eq q hok
    have hp : r.Pattern.size ≤ 16 := by rw [← chars_len, h16]; exact Nat.le_refl _
    rw [Fits_eq _ _ hp, bind_some', hm]
    have hnext : (IntKind.wrap .i64 ((j : Int) + 1)) = ((j + 1 : Nat) : Int) := by rw [wrap_i64 (by omega) (by omega)]; rfl
    cases hf : fitsN (chars r.Pattern) q with
    | false => 
      rw [ctrue (show (!false) = true from rfl), Bool.false_and, if_neg (by decide), hnext]
    | true =>
      rw [cfalse (show (!true) = false from rfl), Bool.true_and]
      have hin : (decide (0 ≤ (j : Int)) && decide ((j : Int) < ((tbl.length : Nat) : Int))) = true := by simp; omega
      simp only [hin]
      show Option.bind (cond (r.Letter != 0) (Option.bind (f_Field r.Pattern (q : Int) r.Letter) _) (some (Sum.inl ()))) _ = _
      cases hl : (r.Letter != 0) with
      | false =>
        show Option.bind (some (Sum.inl ())) _ = _
        rw [bind_some']
        show _ = some (Sum.inr (refT r q))
        exact rest_eq r q hp
      | true =>
        show Option.bind (Option.bind (f_Field r.Pattern (q : Int) r.Letter) _) _ = _
        rw [hn, Field_eq r.Pattern q n hp, bind_some']
        rw [show ((n : Nat) : Int).toNat = n from rfl]
        generalize ((fldS (chars r.Pattern) q n : Nat) : Int) = x
        show Option.bind (cond (decide (x < r.Low)) (some (Sum.inr (Sum.inl (IntKind.wrap .i64 ((j : Int) + 1))))) (cond (decide (x > r.High)) (some (Sum.inr (Sum.inl (IntKind.wrap .i64 ((j : Int) + 1))))) (some (Sum.inl ())))) _ = if (decide (r.Low ≤ x) && decide (x ≤ r.High)) = true then _ else _
        by_cases h1 : x < r.Low
        · rw [cpos h1, bind_some', if_neg (by simp; omega)]
          show some (Sum.inl (IntKind.wrap .i64 ((j : Int) + 1))) = _
          rw [hnext]
        · rw [cneg h1]
          by_cases h2 : x > r.High
          · rw [cpos h2, bind_some', if_neg (by simp; omega)]
            show some (Sum.inl (IntKind.wrap .i64 ((j : Int) + 1))) = _
            rw [hnext]
          · rw [cneg h2, bind_some', if_pos (by simp; omega)]
            rw [← hn]
            exact rest_eq r q hp
  · show cond (decide (((tbl.length : Nat) : Int) < ((tbl.length : Nat) : Int))) _ _ = _
    rw [cneg (by omega)]; rfl
end Go.Proofs.Ytigpcfocaipicaa
