/-
  BiosBack: bytes that were told as a stream, plain, in runs, or as differences, come out as they were.
-/
import Derived.Test.YtnobglfjinehfaaBioEnc
namespace Go.Proofs.Ytnobglfjinehfaa
open Go.Vc
set_option linter.unusedVariables false
set_option linter.unusedSimpArgs false

theorem andNot63 {a : Int} (h0 : 0 ≤ a) (h1 : a < 4294967296) : bits .andNot .u32 a 63 = a - a % 64 := by
  have e : bits .andNot .u32 a 63 = bits .and .u32 a 4294967232 := by
    show IntKind.wrap .u32 ((BitVec.ofInt 32 a &&& ~~~ BitVec.ofInt 32 63).toNat : Int) = IntKind.wrap .u32 ((BitVec.ofInt 32 a &&& BitVec.ofInt 32 4294967232).toNat : Int)
    rw [show ~~~ BitVec.ofInt 32 63 = BitVec.ofInt 32 4294967232 from by decide]
  rw [e, andHigh32 6 26 (by decide) (by decide) h0 h1]
  simp only [show ((2 ^ 6 : Nat) : Int) = 64 by decide, show ((2 ^ 26 : Nat) : Int) = 67108864 by decide]
  omega
theorem run_len {s : List Int} (hb : okB s) {i : Nat} (hc : i < s.length) (hs : s.length ≤ 3000) {F : Int → Option (Int ⊕ Int)}
    (h1 : ∀ n : Nat, n < 130 → i + n < s.length → F (n : Int) = if s[i + n]? = s[i]? then some (.inl ((n + 1 : Nat) : Int)) else some (.inr (n : Int)))
    (h2 : ∀ n : Nat, n ≤ 130 → ¬ (n < 130 ∧ i + n < s.length) → F (n : Int) = some (.inr (n : Int))) :
    ∃ r, loopO F 1 = some r ∧ ∃ n : Nat, r = (n : Int) ∧ 1 ≤ n ∧ n ≤ 130 ∧ i + n ≤ s.length ∧ ∀ j, j < n → s[i + j]? = s[i]? := by
  refine loopO_ex _ (fun (m : Nat) (x : Int) => ∃ n : Nat, x = (n : Int) ∧ m = 130 - n ∧ 1 ≤ n ∧ n ≤ 130 ∧ i + n ≤ s.length ∧ ∀ j, j < n → s[i + j]? = s[i]?) ?_ 129 1 ⟨1, rfl, rfl, by omega, by omega, by omega, fun j hj => by rw [show j = 0 by omega]; rfl⟩
  rintro m x ⟨n, rfl, rfl, h3, h4, h5, h6⟩
  by_cases hc : n < 130 ∧ i + n < s.length
  · rw [h1 n hc.1 hc.2]
    by_cases he : s[i + n]? = s[i]?
    · left
      rw [if_pos he]
      refine ⟨_, 130 - (n + 1), rfl, by omega, n + 1, rfl, rfl, by omega, by omega, by omega, fun j hj => ?_⟩
      by_cases hj' : j < n
      · exact h6 j hj'
      · rw [show j = n by omega]; exact he
    · right
      rw [if_neg he]
      exact ⟨_, rfl, n, rfl, h3, h4, h5, h6⟩
  · right
    rw [h2 n h4 hc]
    exact ⟨_, rfl, n, rfl, h3, h4, h5, h6⟩
theorem run_len3 {s : List Int} (hb : okB s) {i : Nat} (hc : i < s.length) (hs : s.length ≤ 3000) {F : Int → Option (Int ⊕ Int)}
    (h1 : ∀ n : Nat, 0 < i → n < 18 → i + n < s.length → F (n : Int) = if s[i + n]? = s[i + n - 1]? then some (.inl ((n + 1 : Nat) : Int)) else some (.inr (n : Int)))
    (h2 : ∀ n : Nat, n ≤ 18 → ¬ (0 < i ∧ n < 18 ∧ i + n < s.length) → F (n : Int) = some (.inr (n : Int))) :
    ∃ r, loopO F 0 = some r ∧ ∃ n : Nat, r = (n : Int) ∧ n ≤ 18 ∧ i + n ≤ s.length ∧ (0 < n → 0 < i) ∧ ∀ j, j < n → s[i + j]? = s[i - 1]? := by
  refine loopO_ex _ (fun (m : Nat) (x : Int) => ∃ n : Nat, x = (n : Int) ∧ m = 18 - n ∧ n ≤ 18 ∧ i + n ≤ s.length ∧ (0 < n → 0 < i) ∧ ∀ j, j < n → s[i + j]? = s[i - 1]?) ?_ 18 0 ⟨0, rfl, rfl, by omega, by omega, by omega, fun j hj => by omega⟩
  rintro m x ⟨n, rfl, rfl, h4, h5, h7, h6⟩
  by_cases hc : 0 < i ∧ n < 18 ∧ i + n < s.length
  · rw [h1 n hc.1 hc.2.1 hc.2.2]
    by_cases he : s[i + n]? = s[i + n - 1]?
    · left
      rw [if_pos he]
      refine ⟨_, 18 - (n + 1), rfl, by omega, n + 1, rfl, rfl, by omega, by omega, by omega, fun j hj => ?_⟩
      by_cases hj' : j < n
      · exact h6 j hj'
      · rw [show j = n by omega, he]
        by_cases h0 : n = 0
        · rw [h0]; rfl
        · have := h6 (n - 1) (by omega)
          rw [show i + n - 1 = i + (n - 1) by omega, this]
    · right
      rw [if_neg he]
      exact ⟨_, rfl, n, rfl, h4, h5, h7, h6⟩
  · right
    rw [h2 n h4 hc]
    exact ⟨_, rfl, n, rfl, h4, h5, h7, h6⟩
theorem ix_eq {s : List Int} {a b : Nat} (ha : a < s.length) (hb : b < s.length) : (ixL s (a : Int) == ixL s (b : Int)) = decide (s[a]? = s[b]?) := by
  rw [ixL_nat ha, ixL_nat hb, List.getElem?_eq_getElem ha, List.getElem?_eq_getElem hb]
  by_cases h : s[a] = s[b]
  · rw [h]; simp
  · rw [decide_eq_false (by simpa using h)]; simpa using h
theorem cdec {α : Type} {p : Prop} [Decidable p] {x y : α} : cond (decide p) x y = if p then x else y := by
  by_cases h : p
  · rw [cpos h, if_pos h]
  · rw [cneg h, if_neg h]
theorem BiosBack_eq (s : List Int) (k : Int) (hb : okB s) : f_BiosBack s k = some true := by
  unfold f_BiosBack
  rw [awake_eq, bind_some', cfalse (show (!true) = false from rfl)]
  by_cases h0 : s.length = 0
  · rw [ceq (by omega)]
  rw [cne (by omega)]
  by_cases h3 : s.length > 3000
  · rw [cpos (by omega)]
  rw [cneg (by omega), hd_len (by omega), hd_len (by omega), hd_len (by omega)]
  have h1 : 1 ≤ s.length := by omega
  have hs : s.length ≤ 3000 := by omega
  refine bind_ex (TO s) ?_ ?_
  · rcases kinds k with e | e | e | e <;> rw [e]
    · rw [ceq rfl, cpos (by rw [hl_nil]; decide)]
      refine enc0 h1 hs hb (fun i l hi hl => ?_) (fun l => ?_)
      · show cond (decide ((i : Int) < ((s.length : Nat) : Int))) (cond (decide (0 ≤ (i : Int)) && decide ((i : Int) < ((s.length : Nat) : Int))) (cond (Int.tmod (i : Int) 8 == 0) _ _) none) _ = _
        rw [cpos (by omega), cand (by omega) (by omega), tmod_nn (by omega), wrap_i64 (by omega) (by omega)]
        by_cases h8 : i % 8 = 0
        · rw [ceq (by omega), cpos (by simp; omega), cpos (by simp; omega), if_pos h8]; rfl
        · rw [cne (by omega), cpos (by simp; omega), if_neg h8]; rfl
      · show cond (decide (((s.length : Nat) : Int) < ((s.length : Nat) : Int))) _ _ = _
        rw [cneg (by omega)]
    · rw [cne (by decide), ceq rfl, cpos (by rw [hl_nil]; decide)]
      refine enc1 h1 hs hb (fun i l hi hl => ?_) (fun l => ?_)
      · show ∃ n : Nat, _ ∧ _ ∧ _ ∧ _ ∧ cond (decide ((i : Int) < ((s.length : Nat) : Int))) _ _ = _
        rw [cpos (by omega)]
        have run := run_len hb hi hs (F := (fun (s9 : Int) => ((cond (decide (s9 < 130)) (cond (decide ((IntKind.wrap .i64 ((i : Int) + s9)) < ((s.length : Nat) : Int))) (cond (decide (0 ≤ (IntKind.wrap .i64 ((i : Int) + s9))) && decide ((IntKind.wrap .i64 ((i : Int) + s9)) < ((s.length : Nat) : Int))) (cond (decide (0 ≤ (i : Int)) && decide ((i : Int) < ((s.length : Nat) : Int))) (cond ((ixL s (IntKind.wrap .i64 ((i : Int) + s9))) == (ixL s (i : Int))) (some (.inl (IntKind.wrap .i64 (s9 + 1)))) (some (.inr s9))) none) none) (some (.inr s9))) (some (.inr s9))) : Option (Int ⊕ Int)))) (fun n hn hin => by
            show cond (decide ((n : Int) < 130)) _ _ = _
            rw [cpos (by omega), wrap_i64 (x := (i : Int) + (n : Int)) (by omega) (by omega), cpos (by omega), cand (by omega) (by omega), cand (by omega) (by omega), show (i : Int) + (n : Int) = ((i + n : Nat) : Int) by omega, ix_eq hin hi, cdec, wrap_i64 (by omega) (by omega)]; rfl) (fun n hn hin => by
            show cond (decide ((n : Int) < 130)) _ _ = _
            by_cases h130 : n < 130
            · rw [cpos (by omega), wrap_i64 (x := (i : Int) + (n : Int)) (by omega) (by omega), cneg (by omega)]
            · rw [cneg (by omega)])
        obtain ⟨r, er, n, rfl, hn1, hn2, hn3, hn4⟩ := run
        refine ⟨n, hn1, hn2, hn3, hn4, ?_⟩
        rw [er, bind_some']
        by_cases hn : 3 ≤ n
        · rw [if_pos hn, cpos (by omega), cand (by omega) (by omega), cpos (by simp; omega), wrap_i64 (x := (i : Int) + (n : Int)) (by omega) (by omega), wrap_i64 (x := 128 + (n : Int)) (by omega) (by omega), wrap_i64 (x := 128 + (n : Int) - 3) (by omega) (by omega), wrap_u8 (by omega) (by omega), show 128 + (n : Int) - 3 = ((125 + n : Nat) : Int) by omega]; rfl
        · rw [if_neg hn, cneg (by omega), cand (by omega) (by omega), cpos (by simp; omega), wrap_i64 (x := (i : Int) + 1) (by omega) (by omega)]; rfl
      · show cond (decide (((s.length : Nat) : Int) < ((s.length : Nat) : Int))) _ _ = _
        rw [cneg (by omega)]
    · rw [cne (by decide), cne (by decide), ceq rfl, cpos (by rw [hl_nil]; decide)]
      refine enc2 h1 hs hb (fun v i l hi hl => ?_) (fun v l => ?_)
      · show cond (decide ((i : Int) < ((s.length : Nat) : Int))) _ _ = _
        rw [cpos (by omega), cand (by omega) (by omega), cpos (by simp; omega), wrap_i64 (by omega) (by omega), wr_u8]; rfl
      · show cond (decide (((s.length : Nat) : Int) < ((s.length : Nat) : Int))) _ _ = _
        rw [cneg (by omega)]
    · rw [cne (by decide), cne (by decide), cne (by decide), cpos (by rw [hl_nil]; decide)]
      refine enc3 h1 hs hb (fun p k i l hi hl hk hp => ?_) (fun p k l => ?_)
      · show ∃ (p' k' : Nat) (l' : List Int), _ ∧ ∃ n : Nat, _ ∧ _ ∧ _ ∧ _ ∧ cond (decide ((i : Int) < ((s.length : Nat) : Int))) (Option.bind (cond ((k : Int) == 8) _ _) _) _ = _
        rw [cpos (by omega)]
        have run := run_len3 hb hi hs (F := (fun (s16 : Int) => ((cond (decide ((i : Int) > 0)) (cond (decide (s16 < 18)) (cond (decide ((IntKind.wrap .i64 ((i : Int) + s16)) < ((s.length : Nat) : Int))) (cond (decide (0 ≤ (IntKind.wrap .i64 ((i : Int) + s16))) && decide ((IntKind.wrap .i64 ((i : Int) + s16)) < ((s.length : Nat) : Int))) (cond (decide (0 ≤ (IntKind.wrap .i64 ((IntKind.wrap .i64 ((i : Int) + s16)) - 1))) && decide ((IntKind.wrap .i64 ((IntKind.wrap .i64 ((i : Int) + s16)) - 1)) < ((s.length : Nat) : Int))) (cond ((ixL s (IntKind.wrap .i64 ((i : Int) + s16))) == (ixL s (IntKind.wrap .i64 ((IntKind.wrap .i64 ((i : Int) + s16)) - 1)))) (some (.inl (IntKind.wrap .i64 (s16 + 1)))) (some (.inr s16))) none) none) (some (.inr s16))) (some (.inr s16))) (some (.inr s16))) : Option (Int ⊕ Int)))) (fun n hi0 hn hin => by
            show cond (decide ((i : Int) > 0)) _ _ = _
            rw [cpos (by omega), cpos (by omega), wrap_i64 (x := (i : Int) + (n : Int)) (by omega) (by omega), wrap_i64 (x := (i : Int) + (n : Int) - 1) (by omega) (by omega), cpos (by omega), cand (by omega) (by omega), cand (by omega) (by omega), show (i : Int) + (n : Int) - 1 = ((i + n - 1 : Nat) : Int) by omega, show (i : Int) + (n : Int) = ((i + n : Nat) : Int) by omega, ix_eq hin (by omega), cdec, wrap_i64 (by omega) (by omega)]; rfl) (fun n hn hin => by
            show cond (decide ((i : Int) > 0)) _ _ = _
            by_cases hi0 : 0 < i
            · rw [cpos (by omega)]
              by_cases h18 : n < 18
              · rw [cpos (by omega), wrap_i64 (x := (i : Int) + (n : Int)) (by omega) (by omega), cneg (by omega)]
              · rw [cneg (by omega)]
            · rw [cneg (by omega)])
        obtain ⟨r, er, n, rfl, hn1, hn2, hn3, hn4⟩ := run
        have step : ∀ (p' k' : Nat) (l' : List Int), l'.length ≤ 20001 → k' < 8 → p' < l'.length → (cond (decide ((n : Int) ≥ 3)) (cond (decide (0 ≤ (p' : Int)) && decide ((p' : Int) < ((l'.length : Nat) : Int))) (cond ((decide (0 ≤ (k' : Int)))) (cond (decide (0 ≤ (p' : Int)) && decide ((p' : Int) < ((l'.length : Nat) : Int))) (cond (decide (((l'.set (p' : Int).toNat (bits .or .u8 (ixL l' (p' : Int)) (Int.fdiv 128 (2 ^ (min (k' : Int).toNat 8))))) ++ [(IntKind.wrap .u8 (IntKind.wrap .i64 ((IntKind.wrap .i64 ((n : Int) - 3)) * 16))), (0 : Int)]).length ≤ 225179981368370)) (some (.inl ((p' : Int), (IntKind.wrap .i64 ((k' : Int) + 1)), (IntKind.wrap .i64 ((i : Int) + (n : Int))), ((l'.set (p' : Int).toNat (bits .or .u8 (ixL l' (p' : Int)) (Int.fdiv 128 (2 ^ (min (k' : Int).toNat 8))))) ++ [(IntKind.wrap .u8 (IntKind.wrap .i64 ((IntKind.wrap .i64 ((n : Int) - 3)) * 16))), (0 : Int)])))) none) none) none) none) (cond (decide (0 ≤ (i : Int)) && decide ((i : Int) < ((s.length : Nat) : Int))) (cond (decide ((l' ++ [(ixL s (i : Int))]).length ≤ 225179981368370)) (some (.inl ((p' : Int), (IntKind.wrap .i64 ((k' : Int) + 1)), (IntKind.wrap .i64 ((i : Int) + 1)), (l' ++ [(ixL s (i : Int))])))) none) none) : Option ((Int × Int × Int × List Int) ⊕ List Int)) =
            if 3 ≤ n then some (.inl ((p' : Int), ((k' + 1 : Nat) : Int), ((i + n : Nat) : Int), l'.set p' (bits .or .u8 (ixL l' (p' : Int)) ((2 ^ (7 - k') : Nat) : Int)) ++ [((n : Int) - 3) * 16, 0])) else some (.inl ((p' : Int), ((k' + 1 : Nat) : Int), ((i + 1 : Nat) : Int), l' ++ [ixL s (i : Int)])) := by
          intro p' k' l' hl' hk' hp'
          by_cases hn : 3 ≤ n
          · rw [if_pos hn, cpos (by omega), cand (by omega) (by omega), cpos (by omega), cand (by omega) (by omega), cpos (by simp; omega), fd128 hk', wrap_i64 (x := (k' : Int) + 1) (by omega) (by omega), wrap_i64 (x := (i : Int) + (n : Int)) (by omega) (by omega), wrap_i64 (x := (n : Int) - 3) (by omega) (by omega), wrap_i64 (x := ((n : Int) - 3) * 16) (by omega) (by omega), wrap_u8 (by omega) (by omega)]; rfl
          · rw [if_neg hn, cneg (by omega), cand (by omega) (by omega), cpos (by simp; omega), wrap_i64 (x := (k' : Int) + 1) (by omega) (by omega), wrap_i64 (x := (i : Int) + 1) (by omega) (by omega)]; rfl
        by_cases h8 : k = 8
        · refine ⟨l.length, 0, l ++ [0], by rw [if_pos h8], n, hn1, hn2, hn3, hn4, ?_⟩
          rw [ceq (by omega), cpos (by simp; omega), bind_some']
          show Option.bind (loopO _ 0) _ = _
          rw [er, bind_some']
          exact step l.length 0 (l ++ [0]) (by simp; omega) (by decide) (by simp)
        · refine ⟨p, k, l, by rw [if_neg h8], n, hn1, hn2, hn3, hn4, ?_⟩
          rw [cne (by omega), bind_some']
          show Option.bind (loopO _ 0) _ = _
          rw [er, bind_some']
          exact step p k l (by omega) (by omega) (hp (by omega))
      · show cond (decide (((s.length : Nat) : Int) < ((s.length : Nat) : Int))) _ _ = _
        rw [cneg (by omega)]
  · rintro l ⟨hl, kk, r, rfl, ht⟩
    rw [cpos (by rw [List.length_append, List.length_replicate]; omega), wrap_i64 (x := (((headed kk s r).length : Nat) : Int) + 63) (by omega) (by omega), wrap_u32 (by omega) (by omega), andNot63 (by omega) (by omega), Let_eq]
    obtain ⟨to, hto⟩ : ∃ to : Nat, (((headed kk s r).length : Nat) : Int) + 63 - ((((headed kk s r).length : Nat) : Int) + 63) % 64 = (to : Int) := ⟨((headed kk s r).length + 63) / 64 * 64, by omega⟩
    rw [hto]
    obtain ⟨bs, ns, e, hok, hfit, hbig, hread⟩ := Unpack_val h1 hs ht (to := to) (by omega) (by omega) (by omega)
    rw [e, bind_some']
    show cond (((s.length : Nat) : Int) != ((s.length : Nat) : Int)) _ (loopO _ _) = _
    rw [cbeq rfl]
    refine loopO_for (fun i : Nat => (i : Int)) s.length (fun i hi => ?_) ?_
    · show cond (decide ((i : Int) < ((s.length : Nat) : Int))) _ _ = some (Sum.inl ((i + 1 : Nat) : Int))
      have hr := hread i hi
      rw [List.getElem?_eq_getElem hi] at hr
      obtain ⟨hr1, hr2⟩ := List.getElem?_eq_some_iff.1 hr
      have hxb := hb _ (List.getElem_mem hi)
      have ea : IntKind.wrap .u32 ((to : Int) + IntKind.wrap .u32 (i : Int)) = ((to + i : Nat) : Int) := by simp only [wr_u32]; omega
      have hrd : rd 0 bs ((to + i : Nat) : Int) 1 = s[i] := by
        have e0 : at_ 0 ((to + i : Nat) : Int) 0 = ((to + i : Nat) : Int) := by unfold at_; omega
        rw [rd1 hok]
        unfold rdB
        rw [e0, if_pos (by omega), ixL_nat hr1, hr2]
      rw [cpos (by omega), cand (by omega) (by omega), ea, MRead_eq (by decide) (by decide), bind_some', hrd, ixL_nat hi, wrap_u8 hxb.1 hxb.2, cbeq rfl, wrap_i64 (by omega) (by omega)]; rfl
    · show cond (decide (((s.length : Nat) : Int) < ((s.length : Nat) : Int))) _ _ = _
      rw [cneg (by omega)]
end Go.Proofs.Ytnobglfjinehfaa
