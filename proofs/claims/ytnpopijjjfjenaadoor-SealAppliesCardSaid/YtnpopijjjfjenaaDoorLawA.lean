/-
  SealApplies: the law.
-/
import Derived.Test.YtnpopijjjfjenaaDoorLawC
namespace Go.Proofs.YtnpopijjjfjenaaDoor
open Go.Vc
set_option linter.unusedVariables false

theorem again {x y z : List UInt8} {n l : Nat} (hn : x.length = n) (hl : y.length = l) : (x ++ y ++ z).take n ++ y ++ (x ++ y ++ z).drop (n + l) = x ++ y ++ z := by
  subst hn hl
  have e1 : (x ++ y ++ z).take x.length = x := by rw [List.append_assoc]; exact List.take_left
  have e2 : (x ++ y ++ z).drop (x.length + y.length) = z := by rw [← List.length_append]; exact List.drop_left
  rw [e1, e2]
theorem mid_at (x y z : List UInt8) (m : List UInt8) (a l : Nat) (hy : y.length = l) (ha : a + l ≤ m.length) (hx : x = m.take a) (hz : z = m.drop (a + l)) (i : Nat) : (x ++ y ++ z).getD i 0 = if a ≤ i ∧ i < a + l then y.getD (i - a) 0 else m.getD i 0 := by
  subst hx hz
  rw [List.getD_eq_getElem?_getD, List.getD_eq_getElem?_getD, List.getD_eq_getElem?_getD]
  by_cases h1 : i < a
  · rw [if_neg (by omega), List.append_assoc, List.getElem?_append_left (by simp; omega), List.getElem?_take_of_lt h1]
  by_cases h2 : i < a + l
  · rw [if_pos (by omega), List.append_assoc, List.getElem?_append_right (by simp; omega), List.getElem?_append_left (by simp; omega)]
    congr 2; simp; omega
  · rw [if_neg (by omega), List.getElem?_append_right (by simp; omega), List.getElem?_drop]
    have e : a + l + (i - (m.take a ++ y).length) = i := by simp; omega
    rw [e]
theorem ffs_getD (n i : Nat) (h : i < n) : (ffs n).getD i 0 = 255 := by unfold ffs; rw [List.getD_eq_getElem?_getD, List.getElem?_replicate, if_pos h]; rfl
theorem applyT_len {m : List UInt8} {k a : Int} {d : List UInt8} (a0 : 0 ≤ a) (h : (applyT m k a d).2 = 0) : (applyT m k a d).1.length = m.length := by
  unfold applyT at h ⊢
  split at h
  · split at h
    · cases h
    · rename_i h1 h2
      rw [if_pos h1, if_neg h2]; simp [ffs_length]; omega
  · split at h
    · rename_i h1 h2
      rw [if_neg h1, if_pos h2]; exact ffs_length _
    · split at h
      · cases h
      · rename_i h1 h2 h3
        rw [if_neg h1, if_neg h2, if_neg h3]; simp; omega
theorem applyT_at {m : List UInt8} {k a : Int} {d : List UInt8} (a0 : 0 ≤ a) (h : (applyT m k a d).2 = 0) (i : Nat) (hi : i < m.length) :
    (applyT m k a d).1.getD i 0 = if k = 2 then (if a ≤ i ∧ (i : Int) < a + 4096 then 255 else m.getD i 0) else if k = 3 then 255 else if a ≤ i ∧ (i : Int) < a + d.length then d.getD (i - a.toNat) 0 else m.getD i 0 := by
  unfold applyT at h ⊢
  split at h
  · split at h
    · cases h
    · rename_i h1 h2
      rw [if_pos h1, if_neg h2, if_pos h1, mid_at _ _ _ m a.toNat 4096 (ffs_length _) (by omega) rfl rfl]
      by_cases hc : a.toNat ≤ i ∧ i < a.toNat + 4096
      · rw [if_pos hc, if_pos (by omega), ffs_getD _ _ (by omega)]
      · rw [if_neg hc, if_neg (by omega)]
  · split at h
    · rename_i h1 h2
      rw [if_neg h1, if_pos h2, if_neg h1, if_pos h2]; exact ffs_getD _ _ hi
    · split at h
      · cases h
      · rename_i h1 h2 h3
        rw [if_neg h1, if_neg h2, if_neg h3, if_neg h1, if_neg h2, mid_at _ _ _ m a.toNat d.length rfl (by omega) rfl rfl]
        by_cases hc : a.toNat ≤ i ∧ i < a.toNat + d.length
        · rw [if_pos hc, if_pos (by omega)]
        · rw [if_neg hc, if_neg (by omega)]
theorem applyT_again {m : List UInt8} {k a : Int} {d : List UInt8} (a0 : 0 ≤ a) (h : (applyT m k a d).2 = 0) : applyT (applyT m k a d).1 k a d = ((applyT m k a d).1, 0) := by
  have hl := applyT_len a0 h
  generalize ht : (applyT m k a d).1 = t at hl ⊢
  unfold applyT at h ht
  unfold applyT
  split at h
  · split at h
    · cases h
    · rename_i h1 h2
      rw [if_pos h1, if_neg h2] at ht
      rw [if_pos h1, if_neg (by omega), ← ht, again (by simp; omega) (ffs_length _)]
  · split at h
    · rename_i h1 h2
      rw [if_neg h1, if_pos h2] at ht
      rw [if_neg h1, if_pos h2, hl, ← ht]
    · split at h
      · cases h
      · rename_i h1 h2 h3
        rw [if_neg h1, if_neg h2, if_neg h3] at ht
        rw [if_neg h1, if_neg h2, if_neg (by omega), ← ht, again (by simp; omega) rfl]
theorem applyT_code (m : List UInt8) (k a : Int) (d : List UInt8) : (applyT m k a d).2 = 0 ∨ applyT m k a d = ([], 1) := by
  unfold applyT
  split
  · split
    · exact .inr rfl
    · exact .inl rfl
  · split
    · exact .inl rfl
    · split
      · exact .inr rfl
      · exact .inl rfl
theorem Applies_eq (m : List UInt8) (k a : Int) (d : List UInt8) (hm : m.length ≤ 140737488351232) : f_SealApplies (bs m) k a (bs d) = some true := by
  unfold f_SealApplies
  rw [awake_eq, bind_some', ctrueF (b := !true) rfl, sApply_eq _ (by omega), bind_some']
  by_cases hk : okF k a d = true
  rotate_left
  · have e : applyF m k a d = ([], 1) := by unfold applyF; rw [if_neg hk]
    rw [e]
    show some ((bs []).toList == (bs []).toList) = _
    rw [beq_bs]; rfl
  have ef : ∀ m : List UInt8, applyF m k a d = applyT m k a d := fun m => by unfold applyF; rw [if_pos hk]
  rw [ef]
  rcases applyT_code m k a d with h0 | h0
  rotate_left
  · rw [h0]
    show some ((bs []).toList == (bs []).toList) = _
    rw [beq_bs]; rfl
  obtain ⟨a0, a1, d1⟩ := okF_addr hk
  have hl := applyT_len a0 h0
  have ht := applyT_at a0 h0
  have hag := applyT_again a0 h0
  rw [h0]
  generalize (applyT m k a d).1 = t at hl ht hag ⊢
  show cond ((0 : Int) != 0) _ (cond (((bs t).size : Int) != ((bs m).size : Int)) _ _) = _
  rw [cbeq rfl, bs_size, bs_size, cbeq (by omega)]
  have e1 : IntKind.wrap .i64 (a + 4096) = a + 4096 := wrap_i64 (by omega) (by omega)
  have e2 : IntKind.wrap .i64 (a + (d.length : Int)) = a + d.length := wrap_i64 (by omega) (by omega)
  rw [bs_size, e1, e2]
  refine loopO_for (fun i => (i : Int)) m.length (fun i hi => ?_) ?_
  · have hi' := ht i hi
    have inc : IntKind.wrap .i64 ((i : Int) + 1) = ((i + 1 : Nat) : Int) := by rw [wrap_i64 (by omega) (by omega)]; omega
    show cond (decide ((i : Int) < (t.length : Int))) _ _ = _
    rw [cpos (by omega), sbyte_bs, sbyte_bs, inc, Int.toNat_natCast]
    rcases okF_kind hk with h | ⟨h, _⟩ | ⟨h, _⟩
    · rw [if_neg (by omega), if_neg (by omega)] at hi'
      rw [cne (by omega : k ≠ 3)]
      by_cases c1 : a ≤ (i : Int)
      · rw [cpos c1, cne (by omega : k ≠ 2), ceq h, Let_eq, bind_some', cnot]
        by_cases c2 : (i : Int) < a + d.length
        · rw [if_pos ⟨c1, c2⟩] at hi'
          have e3 : IntKind.wrap .i64 ((i : Int) - a) = (i : Int) - a := wrap_i64 (by omega) (by omega)
          rw [cpos c2, ceq h, cand (by omega) (by omega), e3, cand (by omega) (by omega), sbyte_bs, show ((i : Int) - a).toNat = i - a.toNat by omega, hi', cbeq rfl]
        · rw [if_neg (by omega)] at hi'
          rw [cneg c2, cand (by omega) (by omega), cand (by omega) (by omega), hi', cbeq rfl]
      · rw [if_neg (by omega)] at hi'
        rw [cneg c1, bind_some', cnot, ctrueF rfl, cand (by omega) (by omega), cand (by omega) (by omega), hi', cbeq rfl]
    · rw [if_pos h] at hi'
      rw [cne (by omega : k ≠ 3)]
      by_cases c1 : a ≤ (i : Int)
      · rw [cpos c1, ceq h]
        by_cases c2 : (i : Int) < a + 4096
        · rw [if_pos ⟨c1, c2⟩] at hi'
          rw [cpos c2, bind_some', cnot, ctrueT rfl, cne (by omega : k ≠ 1), cand (by omega) (by omega), hi']; rfl
        · rw [if_neg (by omega)] at hi'
          rw [cneg c2, cne (by omega : k ≠ 1), bind_some', cnot, ctrueF rfl, cand (by omega) (by omega), cand (by omega) (by omega), hi', cbeq rfl]
      · rw [if_neg (by omega)] at hi'
        rw [cneg c1, bind_some', cnot, ctrueF rfl, cand (by omega) (by omega), cand (by omega) (by omega), hi', cbeq rfl]
    · rw [if_neg (by omega), if_pos h] at hi'
      rw [ceq h, bind_some', cnot, ctrueT rfl, cne (by omega : k ≠ 1), cand (by omega) (by omega), hi']; rfl
  · show cond (decide ((m.length : Int) < (t.length : Int))) _ (Option.bind (f_sApply (bs t) k a (bs d)) _) = _
    rw [cneg (by omega), sApply_eq _ (by omega), ef, hag, bind_some']
    show cond ((0 : Int) == 0) (some (Sum.inr ((bs t).toList == (bs t).toList))) _ = _
    rw [ceq rfl, beq_bs, decide_eq_true rfl]
theorem law_SealApplies (w : World) (a0 : ByteArray) (w0 : a0.size ≤ 140737488351232) (l1 : List Value) (w1 : ∃ n, Rd Tryd.prog w n 36 l1) :
    Calls Tryd.prog n_SealApplies #[.string a0, .agg l1.toArray] w fun e w' => e = .returned (.bool true) ∧ Chg (fun _ => False) w w' := by
  obtain ⟨k, a, d, rfl, _, _, _⟩ := rd_cmd w1
  have e : f_SealApplies a0 k a d = some true := Applies_eq a0.data.toList k a d.data.toList (by rw [Array.length_toList]; exact w0)
  exact (t_SealApplies e trivial).mono fun e w' h => ⟨h.1, h.2.quiet⟩
end Go.Proofs.YtnpopijjjfjenaaDoor
