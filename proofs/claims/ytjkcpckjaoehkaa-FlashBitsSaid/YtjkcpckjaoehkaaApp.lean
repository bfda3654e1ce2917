/-
  Commands on an image: both sides do the same.
-/
import Derived.Test.YtjkcpckjaoehkaaG
import Derived.Test.YtjkcpckjaoehkaaPure
namespace Go.Proofs.Ytjkcpckjaoehkaa
open Go.Vc
set_option linter.unusedVariables false

def okF (k a : Int) (d : List UInt8) : Bool :=
  if k = 1 then decide (0 ≤ a ∧ a < 131072) && decide (1 ≤ d.length ∧ d.length ≤ 8)
  else if k = 2 then decide (0 ≤ a ∧ a < 131072) && (decide (d = []) && decide (Int.tmod a 4096 = 0))
  else if k = 3 then decide (d = []) && decide (a = 0) else false

theorem sCheck_eq (k a : Int) (d : List UInt8) : f_sCheck k a (bs d) = some (if okF k a d = true then 0 else 1) := by
  unfold f_sCheck okF
  rw [bs_size, show (ByteArray.mk #[]) = bs [] from rfl, beq_bs]
  by_cases ha : 0 ≤ a ∧ a < 131072
  · obtain ⟨h0, h1⟩ := ha
    rw [cpos (by omega), bind_some', decide_eq_true h1]
    by_cases h1 : k = 1
    · rw [ceq h1, if_pos h1, ctrue rfl]
      by_cases hl : 1 ≤ d.length
      · rw [cpos (by omega), cnot]
        by_cases hl2 : d.length ≤ 8
        · rw [cpos (by omega)]; simp [*]
        · rw [cneg (by omega)]; simp [*]
      · rw [cneg (by omega)]; simp [*]
    rw [cne h1, if_neg h1]
    by_cases h2 : k = 2
    · rw [ceq h2, if_pos h2, ctrue rfl]
      by_cases hd : d = []
      · rw [cpos hd, cnot]
        by_cases hm : Int.tmod a 4096 = 0
        · rw [ceq hm]; simp [*]
        · rw [cne hm]; simp [*]
      · rw [cneg hd]; simp [*]
    rw [cne h2, if_neg h2]
    by_cases h3 : k = 3
    · rw [ceq h3, if_pos h3]
      by_cases hd : d = []
      · rw [cpos hd, cnot]
        by_cases hm : a = 0
        · rw [ceq hm]; simp [*]
        · rw [cne hm]; simp [*]
      · rw [cneg hd]; simp [*]
    rw [cne h3, if_neg h3]; simp
  · have e : ∀ (f : Bool → Option Int), ((cond (decide (a ≥ 0)) (some (decide (a < 131072))) (some false)).bind f) = f false := by
      intro f
      by_cases h : 0 ≤ a
      · rw [cpos h, decide_eq_false (by omega)]; rfl
      · rw [cneg h]; rfl
    rw [e]
    have hn : decide (0 ≤ a ∧ a < 131072) = false := decide_eq_false ha
    by_cases h1 : k = 1
    · rw [ceq h1, if_pos h1, hn]; rfl
    rw [cne h1, if_neg h1]
    by_cases h2 : k = 2
    · rw [ceq h2, if_pos h2, hn]; rfl
    rw [cne h2, if_neg h2]
    by_cases h3 : k = 3
    · rw [ceq h3, if_pos h3]
      by_cases hd : d = []
      · rw [cpos hd, cnot]
        by_cases hm : a = 0
        · rw [ceq hm]; simp [*]
        · rw [cne hm]; simp [*]
      · rw [cneg hd]; simp [*]
    rw [cne h3, if_neg h3]; simp

theorem rRight_eq (k a : Int) (d : List UInt8) : f_rRight k a (bs d) = some (okF k a d) := by
  unfold f_rRight okF
  rw [bs_size, show (ByteArray.mk #[]) = bs [] from rfl, beq_bs]
  by_cases ha : 0 ≤ a ∧ a < 131072
  · obtain ⟨h0, h1⟩ := ha
    rw [cneg (by omega), cneg (by omega)]
    by_cases h1 : k = 1
    · rw [ceq h1, if_pos h1]
      by_cases hl : 1 ≤ d.length
      · rw [cpos (by omega)]
        by_cases hl2 : d.length ≤ 8
        · simp [*]; omega
        · simp [*]; omega
      · rw [cneg (by omega)]; simp [*]
    rw [cne h1, if_neg h1]
    by_cases h2 : k = 2
    · rw [ceq h2, if_pos h2]
      by_cases hd : d = []
      · rw [cpos hd]
        by_cases hm : Int.tmod a 4096 = 0
        · simp [*]
        · simp [*]
      · rw [cneg hd]; simp [*]
    rw [cne h2, if_neg h2]
    by_cases h3 : k = 3
    · rw [ceq h3, if_pos h3]
      by_cases hd : d = []
      · rw [cpos hd]
        by_cases hm : a = 0
        · simp [*]
        · simp [*]
      · rw [cneg hd]; simp [*]
    rw [cne h3, if_neg h3]
  · have hn : decide (0 ≤ a ∧ a < 131072) = false := decide_eq_false ha
    have hz : a ≠ 0 := by omega
    rw [hn]
    by_cases h0 : a < 0
    · rw [cpos h0]; simp [hz]
    · rw [cneg h0, cpos (by omega)]; simp [hz]

def ffs (n : Nat) : List UInt8 := List.replicate n 255
theorem ffs_length (n : Nat) : (ffs n).length = n := by unfold ffs; simp
theorem repeat_eq (l : List UInt8) (n : Int) (h0 : 0 ≤ n) (h1 : l.length * n.toNat ≤ 140737488355328) (h2 : n ≤ 140737488355328) : f_Repeat (bs l) n = some (bs (Lib.repeatL l n.toNat)) := by
  unfold f_Repeat
  rw [bs_size, bs_data, cand3 h0 h1 h2]
theorem repeat_ff (n : Int) (h0 : 0 ≤ n) (h2 : n ≤ 140737488355328) : f_Repeat (ByteArray.mk #[255]) n = some (bs (ffs n.toNat)) := by
  have e := repeat_eq [255] n h0 (by simp; omega) h2
  have := Lib.repeatL_replicate (255 : UInt8) 1 n.toNat
  rw [Nat.mul_one] at this
  rw [show Lib.repeatL [255] n.toNat = ffs n.toNat from this] at e
  exact e
def applyT (m : List UInt8) (k a : Int) (d : List UInt8) : List UInt8 × Int :=
  if k = 2 then if a + 4096 > m.length then ([], 1) else (m.take a.toNat ++ ffs 4096 ++ m.drop (a.toNat + 4096), 0)
  else if k = 3 then (ffs m.length, 0)
  else if a + d.length > m.length then ([], 1) else (m.take a.toNat ++ d ++ m.drop (a.toNat + d.length), 0)
def applyF (m : List UInt8) (k a : Int) (d : List UInt8) : List UInt8 × Int := if okF k a d = true then applyT m k a d else ([], 1)
theorem okF_addr {k a : Int} {d : List UInt8} (h : okF k a d = true) : 0 ≤ a ∧ a < 131072 ∧ d.length ≤ 8 := by
  unfold okF at h
  split at h
  · simp at h; omega
  split at h
  · simp at h; obtain ⟨h1, rfl, _⟩ := h; exact ⟨h1.1, h1.2, by simp⟩
  split at h
  · simp at h; obtain ⟨rfl, rfl⟩ := h; exact ⟨by decide, by decide, by simp⟩
  · cases h
theorem okF_kind {k a : Int} {d : List UInt8} (h : okF k a d = true) : k = 1 ∨ k = 2 ∧ d = [] ∨ k = 3 ∧ a = 0 ∧ d = [] := by
  unfold okF at h
  split at h
  · exact .inl ‹_›
  split at h
  · simp at h; exact .inr (.inl ⟨‹_›, h.2.1⟩)
  split at h
  · simp at h; exact .inr (.inr ⟨‹_›, h.2, h.1⟩)
  · cases h
theorem sApply_eq (m : List UInt8) (hm : m.length ≤ 140737488355328) (k a : Int) (d : List UInt8) : f_sApply (bs m) k a (bs d) = some (bs (applyF m k a d).1, (applyF m k a d).2) := by
  unfold f_sApply applyF
  rw [sCheck_eq, bind_some']
  by_cases h0 : okF k a d = true
  rotate_left
  · rw [if_neg h0, if_neg h0, cbne (by decide)]; rfl
  rw [if_pos h0, if_pos h0, cbeq rfl]
  unfold applyT
  obtain ⟨a0, a1, d1⟩ := okF_addr h0
  have e1 : IntKind.wrap .i64 (a + 4096) = a + 4096 := wrap_i64 (by omega) (by omega)
  have e2 : IntKind.wrap .i64 (a + (d.length : Int)) = a + d.length := wrap_i64 (by omega) (by omega)
  rw [bs_size, bs_size, e1, e2]
  by_cases h2 : k = 2
  · rw [ceq h2, if_pos h2]
    by_cases h3 : a + 4096 > m.length
    · rw [cpos h3, if_pos h3]; rfl
    · rw [cneg h3, if_neg h3, cand (by omega) (by omega), cand (by omega) (by omega), cand (by omega) (by omega), cand (by omega) (by omega), repeat_ff _ (by decide) (by decide), bind_some']
      have hf : (ffs (4096 : Int).toNat).length = 4096 := ffs_length _
      have hf' : (ffs 4096) = ffs (4096 : Int).toNat := rfl
      rw [hf']
      generalize ffs (4096 : Int).toNat = z at hf ⊢
      rw [bs_extract, bs_extract, bs_append, cfits (by rw [bs_size, bs_size]; simp; omega), bs_append, cfits (by rw [bs_size, bs_size]; simp; omega)]
      have e3 : (m.drop 0).take (a.toNat - 0) = m.take a.toNat := by simp
      have e4 : (m.drop (a + 4096).toNat).take (m.length - (a + 4096).toNat) = m.drop (a.toNat + 4096) := by
        rw [show (a + 4096).toNat = a.toNat + 4096 by omega]; exact List.take_of_length_le (by simp)
      rw [e3, e4]
  rw [cne h2, if_neg h2]
  by_cases h3 : k = 3
  · rw [ceq h3, if_pos h3, repeat_ff _ (by omega) (by omega), bind_some']; rfl
  rw [cne h3, if_neg h3]
  by_cases h4 : a + d.length > m.length
  · rw [cpos h4, if_pos h4]; rfl
  · rw [cneg h4, if_neg h4, cand (by omega) (by omega), cand (by omega) (by omega)]
    rw [bs_extract, bs_extract, bs_append, cfits (by rw [bs_size, bs_size]; simp; omega), cand (by omega) (by omega), cand (by omega) (by omega), bs_append, cfits (by rw [bs_size, bs_size]; simp; omega)]
    have e3 : (m.drop 0).take (a.toNat - 0) = m.take a.toNat := by simp
    have e4 : (m.drop (a + (d.length : Int)).toNat).take (m.length - (a + (d.length : Int)).toNat) = m.drop (a.toNat + d.length) := by
      rw [show (a + (d.length : Int)).toNat = a.toNat + d.length by omega]; exact List.take_of_length_le (by simp)
    rw [e3, e4]

/-! the reference goes byte by byte -/
theorem ints_set (l : List UInt8) (i : Nat) (b : UInt8) : (l.map fun b => (b.toNat : Int)).set i (b.toNat : Int) = (l.set i b).map fun b => (b.toNat : Int) := by rw [List.map_set]
theorem take_drop_set (t m : List UInt8) (hl : t.length = m.length) (i : Nat) (hi : i < t.length) : (t.take i ++ m.drop i).set i (t[i]) = t.take (i + 1) ++ m.drop (i + 1) := by
  have e : (t.take i).length = i := by simp; omega
  rw [List.set_append_right _ _ (by omega), e, Nat.sub_self, List.drop_eq_getElem_cons (by omega), List.set_cons_zero, List.take_succ_eq_append_getElem hi, List.append_assoc]; rfl
theorem take_drop_same (t m : List UInt8) (hl : t.length = m.length) (i : Nat) (hi : i < t.length) (e : t[i] = m[i]'(by omega)) : t.take i ++ m.drop i = t.take (i + 1) ++ m.drop (i + 1) := by
  rw [List.drop_eq_getElem_cons (by omega), List.take_succ_eq_append_getElem hi, List.append_assoc, e]; rfl
theorem rApply_eq (m : List UInt8) (hm : m.length ≤ 140737488355328) (k a : Int) (d : List UInt8) : f_rApply (bs m) k a (bs d) = some (bs (applyF m k a d).1, (applyF m k a d).2) := by
  unfold f_rApply applyF
  rw [rRight_eq, bind_some']
  by_cases h0 : okF k a d = true
  rotate_left
  · rw [if_neg h0, cnot, ctrueF (by simpa using h0)]; rfl
  rw [if_pos h0, cnot, ctrueT h0]
  obtain ⟨a0, a1, d1⟩ := okF_addr h0
  rw [bs_size, bs_size]
  have e1 : IntKind.wrap .i64 (a + 4096) = a + 4096 := wrap_i64 (by omega) (by omega)
  generalize hn : (if k = 2 then (4096 : Int) else d.length) = n
  have hn' : (cond (k == 2) (some (4096 : Int)) (some (d.length : Int))) = some n := by
    by_cases h2 : k = 2
    · rw [ceq h2]; rw [if_pos h2] at hn; rw [hn]
    · rw [cne h2]; rw [if_neg h2] at hn; rw [hn]
  have hnb : 0 ≤ n ∧ n ≤ 4096 := by subst hn; split <;> omega
  have e2 : IntKind.wrap .i64 (a + n) = a + n := wrap_i64 (by omega) (by omega)
  have e3 : IntKind.wrap .i64 ((m.length : Int) - n) = m.length - n := wrap_i64 (by omega) (by omega)
  rw [hn', bind_some', e1, e2, e3, bytesOf_bs]
  have hk := okF_kind h0
  -- the loop, for a list t of the same length that is right byte by byte
  have step : ∀ (t : List UInt8) (hl : t.length = m.length) (i : Nat) (hi : i < t.length),
      (k = 1 → t[i] = if a ≤ i ∧ (i : Int) < a + n then d.getD ((i : Int) - a).toNat 0 else m[i]'(by omega)) →
      (k = 2 → t[i] = if a ≤ i ∧ (i : Int) < a + n then 255 else m[i]'(by omega)) → (k = 3 → t[i] = 255) →
      (((cond (k == 3) (cond (decide (0 ≤ (i : Int)) && decide ((i : Int) < ((((m.map fun b => (b.toNat : Int)).length) : Nat) : Int))) (some (((t.take i ++ m.drop i).map fun b => (b.toNat : Int)).set (i : Int).toNat (255 : Int))) none) (cond (k == 2) (cond (decide ((i : Int) ≥ a)) (cond (decide ((i : Int) < a + 4096)) (cond (decide (0 ≤ (i : Int)) && decide ((i : Int) < ((((m.map fun b => (b.toNat : Int)).length) : Nat) : Int))) (some (((t.take i ++ m.drop i).map fun b => (b.toNat : Int)).set (i : Int).toNat (255 : Int))) none) (some ((t.take i ++ m.drop i).map fun b => (b.toNat : Int)))) (some ((t.take i ++ m.drop i).map fun b => (b.toNat : Int)))) (some ((t.take i ++ m.drop i).map fun b => (b.toNat : Int))))) : Option (List Int)).bind (fun (J_2_xs_x31 : List Int) => (cond (k == 1) (cond (decide ((i : Int) ≥ a)) (cond (decide ((i : Int) < a + n)) (cond ((decide (0 ≤ (IntKind.wrap .i64 ((i : Int) - a))) && decide ((IntKind.wrap .i64 ((i : Int) - a)) < (d.length : Int)))) (cond (decide (0 ≤ (i : Int)) && decide ((i : Int) < ((((m.map fun b => (b.toNat : Int)).length) : Nat) : Int))) (some (.inl ((IntKind.wrap .i64 ((i : Int) + 1)), (J_2_xs_x31.set (i : Int).toNat (sbyte (bs d) (IntKind.wrap .i64 ((i : Int) - a))))))) none) none) (some (.inl ((IntKind.wrap .i64 ((i : Int) + 1)), J_2_xs_x31)))) (some (.inl ((IntKind.wrap .i64 ((i : Int) + 1)), J_2_xs_x31)))) (some (.inl ((IntKind.wrap .i64 ((i : Int) + 1)), J_2_xs_x31))))))
        = (some (.inl (((i + 1 : Nat) : Int), (t.take (i + 1) ++ m.drop (i + 1)).map fun b => (b.toNat : Int))) : Option ((Int × List Int) ⊕ O_rApply)) := by
    intro t hl i hi t1 t2 t3
    have w1 : IntKind.wrap .i64 ((i : Int) + 1) = ((i + 1 : Nat) : Int) := by rw [wrap_i64 (by omega) (by omega)]; omega
    have wa : IntKind.wrap .i64 ((i : Int) - a) = i - a := wrap_i64 (by omega) (by omega)
    have lm : (m.map fun b => (b.toNat : Int)).length = m.length := List.length_map _
    have g := take_drop_set t m hl i hi
    have ff : (255 : Int) = ((255 : UInt8).toNat : Int) := rfl
    rw [w1, wa, lm, Int.toNat_natCast]
    rcases hk with h | ⟨h, hd⟩ | ⟨h, _, hd⟩ <;> subst h
    · rw [cne (by decide), cne (by decide), bind_some', ceq rfl]
      have hn1 : n = d.length := by rw [← hn]; rfl
      by_cases h1 : a ≤ i
      · rw [cpos h1]
        by_cases h2 : (i : Int) < a + n
        · rw [cpos h2, cand (by omega) (by omega), cand (by omega) (by omega), sbyte_bs, ints_set]
          have e := t1 rfl
          rw [if_pos ⟨h1, h2⟩] at e
          rw [← e, g]
        · rw [cneg h2]
          have e := t1 rfl
          rw [if_neg (by omega)] at e
          rw [take_drop_same t m hl i hi e]
      · rw [cneg h1]
        have e := t1 rfl
        rw [if_neg (by omega)] at e
        rw [take_drop_same t m hl i hi e]
    · rw [cne (by decide), ceq rfl]
      have hn1 : n = 4096 := by rw [← hn]; rfl
      by_cases h1 : a ≤ i
      · rw [cpos h1]
        by_cases h2 : (i : Int) < a + 4096
        · rw [cpos h2, cand (by omega) (by omega), bind_some', cne (by decide), ff, ints_set]
          have e := t2 rfl
          rw [if_pos ⟨h1, by omega⟩] at e
          rw [← e, g]
        · rw [cneg h2, bind_some', cne (by decide)]
          have e := t2 rfl
          rw [if_neg (by omega)] at e
          rw [take_drop_same t m hl i hi e]
      · rw [cneg h1, bind_some', cne (by decide)]
        have e := t2 rfl
        rw [if_neg (by omega)] at e
        rw [take_drop_same t m hl i hi e]
    · rw [ceq rfl, cand (by omega) (by omega), bind_some', cne (by decide), ff, ints_set]
      have e := t3 rfl
      rw [← e, g]
  -- what it comes to
  by_cases hc : k ≠ 3 ∧ a > m.length - n
  · have hb : ∀ (f : Unit ⊕ O_rApply → Option O_rApply), ((cond (k != 3) (cond (decide (a > (m.length : Int) - n)) (some (.inr ((ByteArray.mk #[]), 1))) (some (.inl ()))) (some (.inl ()))) : Option (Unit ⊕ O_rApply)).bind f = f (.inr ((ByteArray.mk #[]), 1)) := by
      intro f; rw [cbne hc.1, cpos hc.2]; rfl
    rw [hb]
    show some (bs [], (1 : Int)) = _
    by_cases h2 : k = 2
    · rw [if_pos h2] at hn; unfold applyT; rw [if_pos h2, if_pos (by omega)]
    · rw [if_neg h2] at hn; unfold applyT; rw [if_neg h2, if_neg hc.1, if_pos (by omega)]
  · have hb : ∀ (f : Unit ⊕ O_rApply → Option O_rApply), ((cond (k != 3) (cond (decide (a > (m.length : Int) - n)) (some (.inr ((ByteArray.mk #[]), 1))) (some (.inl ()))) (some (.inl ()))) : Option (Unit ⊕ O_rApply)).bind f = f (.inl ()) := by
      intro f
      by_cases h3 : k = 3
      · rw [cbeq h3]; rfl
      · rw [cbne h3, cneg (by omega)]; rfl
    rw [hb]
    show cond (decide (m.length ≤ 140737488355328)) _ none = _
    rw [cpos hm]
    suffices hs : ∃ t : List UInt8, t.length = m.length ∧ (∀ (i : Nat) (hi : i < m.length),
        (k = 1 → t.getD i 0 = if a ≤ i ∧ (i : Int) < a + n then d.getD ((i : Int) - a).toNat 0 else m[i]) ∧
        (k = 2 → t.getD i 0 = if a ≤ i ∧ (i : Int) < a + n then 255 else m[i]) ∧ (k = 3 → t.getD i 0 = 255)) ∧ applyT m k a d = (t, 0) by
      obtain ⟨t, hl, ht, he⟩ := hs
      rw [he]
      refine loopO_for (fun i => ((i : Int), (t.take i ++ m.drop i).map fun b => (b.toNat : Int))) m.length (fun i hi => ?_) ?_
      · have hi' : i < t.length := by omega
        have eg : t.getD i 0 = t[i] := by simp [List.getD_eq_getElem?_getD, List.getElem?_eq_getElem hi']
        have h := ht i hi
        rw [eg] at h
        have hlen : ((m.map fun b => (b.toNat : Int)).length : Int) = m.length := by rw [List.length_map]
        show cond (decide ((i : Int) < ((((m.map fun b => (b.toNat : Int)).length) : Nat) : Int))) _ _ = _
        rw [cpos (by omega)]
        exact step t hl i hi' h.1 h.2.1 h.2.2
      · have hlen : ((m.map fun b => (b.toNat : Int)).length : Int) = m.length := by rw [List.length_map]
        show cond (decide ((m.length : Int) < ((((m.map fun b => (b.toNat : Int)).length) : Nat) : Int))) _ _ = _
        have ex : (t.take m.length ++ m.drop m.length) = t := by rw [List.drop_length, List.append_nil, ← hl, List.take_length]
        rw [cneg (by omega), ex, cbytes, strOf_map]
    rcases hk with h | ⟨h, hd⟩ | ⟨h, ha, hd⟩
    · have hn1 : n = d.length := by rw [← hn, if_neg (by omega)]
      refine ⟨m.take a.toNat ++ d ++ m.drop (a.toNat + d.length), by simp; omega, fun i hi => ⟨fun _ => ?_, fun h2 => by omega, fun h3 => by omega⟩, by unfold applyT; rw [if_neg (by omega), if_neg (by omega), if_neg (by omega)]⟩
      rw [List.getD_eq_getElem?_getD]
      by_cases h1 : i < a.toNat
      · rw [if_neg (by omega), List.append_assoc, List.getElem?_append_left (by simp; omega), List.getElem?_take_of_lt h1, List.getElem?_eq_getElem hi]; rfl
      by_cases h2 : i < a.toNat + d.length
      · rw [if_pos (by omega), List.append_assoc, List.getElem?_append_right (by simp; omega), List.getElem?_append_left (by simp; omega), List.getD_eq_getElem?_getD]
        congr 2; simp; omega
      · rw [if_neg (by omega), List.getElem?_append_right (by simp; omega), List.getElem?_drop]
        have e : a.toNat + d.length + (i - (m.take a.toNat ++ d).length) = i := by simp; omega
        rw [e, List.getElem?_eq_getElem hi]; rfl
    · have hn1 : n = 4096 := by rw [← hn, if_pos h]
      have hf : (ffs 4096).length = 4096 := ffs_length _
      refine ⟨m.take a.toNat ++ ffs 4096 ++ m.drop (a.toNat + 4096), by simp [hf]; omega, fun i hi => ⟨fun h2 => by omega, fun _ => ?_, fun h3 => by omega⟩, by unfold applyT; rw [if_pos h, if_neg (by omega)]⟩
      rw [List.getD_eq_getElem?_getD]
      by_cases h1 : i < a.toNat
      · rw [if_neg (by omega), List.append_assoc, List.getElem?_append_left (by simp; omega), List.getElem?_take_of_lt h1, List.getElem?_eq_getElem hi]; rfl
      by_cases h2 : i < a.toNat + 4096
      · rw [if_pos (by omega), List.append_assoc, List.getElem?_append_right (by simp; omega), List.getElem?_append_left (by simp [hf]; omega)]
        unfold ffs; rw [List.getElem?_replicate, if_pos (by simp; omega)]; rfl
      · rw [if_neg (by omega), List.getElem?_append_right (by simp [hf]; omega), List.getElem?_drop]
        have e : a.toNat + 4096 + (i - (m.take a.toNat ++ ffs 4096).length) = i := by simp [hf]; omega
        rw [e, List.getElem?_eq_getElem hi]; rfl
    · refine ⟨ffs m.length, ffs_length _, fun i hi => ⟨fun h2 => by omega, fun h3 => by omega, fun _ => ?_⟩, by unfold applyT; rw [if_neg (by omega), if_pos h]⟩
      unfold ffs; rw [List.getD_eq_getElem?_getD, List.getElem?_replicate, if_pos hi]; rfl
end Go.Proofs.Ytjkcpckjaoehkaa
