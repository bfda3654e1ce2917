/-
  Records; SealTorn: the law.
-/
import Derived.Test.YtnpopijjjfjenaaDoorLawC
namespace Go.Proofs.YtnpopijjjfjenaaDoor
open Go.Vc
set_option linter.unusedVariables false

theorem commandL_len (k a : Int) (d : List UInt8) : (commandL k a d).length = 5 + d.length := by unfold commandL; simp [fourL_len]; omega
theorem Record_eq (seq : Nat) (hs : seq < 4294967296) (k a : Int) (d : List UInt8) : f_Record (seq : Int) k a (bs d) = some (if okF k a d = true then (bs (wrapL seq (commandL k a d)), 0) else (bs [], 1)) := by
  unfold f_Record
  rw [Command_eq, bind_some']
  by_cases h : okF k a d = true
  · obtain ⟨a0, a1, d1⟩ := okF_addr h
    rw [if_pos h, if_pos h]
    show cond ((0 : Int) != 0) _ (Option.bind (f_Wrap (seq : Int) (bs (commandL k a d))) _) = _
    rw [cbeq rfl, Wrap_eq _ hs, if_neg (by rw [commandL_len]; omega), bind_some']
  · rw [if_neg h, if_neg h]; rfl
def recordedL (s : List UInt8) : Int × Int × Int × List UInt8 × Int :=
  if (openL s).2.2 ≠ 0 then (0, 0, 0, [], (openL s).2.2) else
  if (commandedL (openL s).2.1).2.2.2 ≠ 0 then (0, 0, 0, [], (commandedL (openL s).2.1).2.2.2) else
  (((openL s).1 : Int), (commandedL (openL s).2.1).1, (commandedL (openL s).2.1).2.1, (commandedL (openL s).2.1).2.2.1, 0)
theorem openL_len (s : List UInt8) : (openL s).2.1.length ≤ s.length := by
  unfold openL
  repeat' split
  all_goals simp
  all_goals omega
theorem Recorded_eq (s : List UInt8) (hl : s.length ≤ 140737488351232) : f_Recorded (bs s) = some ((recordedL s).1, (recordedL s).2.1, (recordedL s).2.2.1, bs (recordedL s).2.2.2.1, (recordedL s).2.2.2.2) := by
  unfold f_Recorded recordedL
  have ho := openL_len s
  rw [Open_eq, bind_some']
  show cond ((openL s).2.2 != 0) _ (Option.bind (f_Commanded (bs (openL s).2.1)) _) = _
  by_cases h : (openL s).2.2 = 0
  rotate_left
  · rw [cbne h, if_pos h]; rfl
  rw [cbeq h, if_neg (by simpa using h), Commanded_eq _ (by omega), bind_some']
  show cond ((commandedL (openL s).2.1).2.2.2 != 0) _ _ = _
  by_cases h2 : (commandedL (openL s).2.1).2.2.2 = 0
  · rw [cbeq h2, if_neg (by simpa using h2)]
  · rw [cbne h2, if_pos h2]; rfl
theorem fourL_inj {m n : Nat} (hm : m < 4294967296) (hn : n < 4294967296) (h : fourL m = fourL n) : m = n := by
  have key : ∀ x, x < 4294967296 → numL (fourL x) = x := fun x hx => by
    show (UInt8.ofNat x).toNat + 256 * (UInt8.ofNat (x / 256)).toNat + 65536 * (UInt8.ofNat (x / 65536)).toNat + 16777216 * (UInt8.ofNat (x / 16777216)).toNat = x
    simp only [UInt8.toNat_ofNat']
    omega
  rw [← key m hm, ← key n hn, h]
theorem wrapL_take (seq : Nat) (body : List UInt8) : (wrapL seq body).take 4 = fourL seq := by unfold wrapL headL; rw [List.append_assoc, List.append_assoc, List.append_assoc, List.append_assoc]; exact List.take_left (l₁ := fourL seq)
theorem wrapL_drop (seq : Nat) (body : List UInt8) (h : body.length ≤ 51) : (wrapL seq body).drop 60 = fourL seq := by
  unfold wrapL
  have e : (headL seq body ++ fourL (sumN (headL seq body))).length = 60 := by rw [List.length_append, headL_len seq body h, fourL_len]
  rw [← e]; exact List.drop_left
theorem torn_20 (a b : List UInt8) (ha : a.length = 64) (hb : b.length = 64) (ea : a.take 4 = a.drop 60) (eb : b.take 4 = b.drop 60) (hne : a.take 4 ≠ b.take 4) (c : Nat) (hc : c ≤ 64)
    (h : (a.take c ++ b.drop c).take 4 = (a.take c ++ b.drop c).drop 60) : a.take c ++ b.drop c = a ∨ a.take c ++ b.drop c = b := by
  have hl : (a.take c).length = c := by simp; omega
  rw [List.take_append, List.drop_append, hl, List.drop_drop] at h
  by_cases c1 : c ≤ 4
  · right
    have e1 : (a.take c).take 4 = a.take c := List.take_of_length_le (by omega)
    have e2 : (a.take c).drop 60 = [] := List.drop_of_length_le (by omega)
    rw [e1, e2, List.nil_append, show c + (60 - c) = 60 by omega, ← eb, show b.take 4 = b.take (c + (4 - c)) by rw [show c + (4 - c) = 4 by omega], List.take_add] at h
    have h3 := (List.append_inj h (by simp; omega)).1
    rw [h3, List.take_append_drop]
  by_cases c2 : c ≤ 60
  · exfalso
    have e2 : (a.take c).drop 60 = [] := List.drop_of_length_le (by omega)
    rw [List.take_take, show min 4 c = 4 by omega, show 4 - c = 0 by omega, List.take_zero, List.append_nil, e2, List.nil_append, show c + (60 - c) = 60 by omega, ← eb] at h
    exact hne h
  · left
    rw [List.take_take, show min 4 c = 4 by omega, show 4 - c = 0 by omega, List.take_zero, List.append_nil, show c + (60 - c) = c by omega, ea] at h
    have e3 : a.drop 60 = (a.take c).drop 60 ++ a.drop c := by
      have := congrArg (List.drop 60) (List.take_append_drop c a)
      rw [List.drop_append, hl, List.drop_drop, show c + (60 - c) = c by omega] at this
      exact this.symm
    rw [e3] at h
    rw [← List.append_cancel_left h, List.take_append_drop]
theorem openL_20 (s : List UInt8) (hl : s.length = 64) (h : s.take 4 ≠ s.drop 60) : openL s = (0, [], 20) := by
  unfold openL; rw [if_neg (by simpa using hl), if_pos h]
theorem Torn_eq (p q : Nat) (hp : p < 4294967296) (hq : q < 4294967296) (k a : Int) (d : List UInt8) (k2 a2 : Int) (d2 : List UInt8) (cut : Int) : f_SealTorn (p : Int) k a (bs d) (q : Int) k2 a2 (bs d2) cut = some true := by
  unfold f_SealTorn
  rw [awake_eq, bind_some', ctrueF (b := !true) rfl, Record_eq _ hp, bind_some', Record_eq _ hq]
  by_cases h1 : okF k a d = true
  rotate_left
  · rw [if_neg h1]
    by_cases h2 : okF k2 a2 d2 = true
    · rw [if_pos h2]; rfl
    · rw [if_neg h2]; rfl
  rw [if_pos h1]
  by_cases h2 : okF k2 a2 d2 = true
  rotate_left
  · rw [if_neg h2]; rfl
  rw [if_pos h2]
  have l1 : (commandL k a d).length ≤ 51 := by rw [commandL_len]; have := okF_addr h1; omega
  have l2 : (commandL k2 a2 d2).length ≤ 51 := by rw [commandL_len]; have := okF_addr h2; omega
  have ha := wrapL_len p _ l1
  have hb := wrapL_len q _ l2
  have ta := wrapL_take p (commandL k a d)
  have tb := wrapL_take q (commandL k2 a2 d2)
  have da := wrapL_drop p _ l1
  have db := wrapL_drop q _ l2
  generalize wrapL p (commandL k a d) = A at ha ta da ⊢
  generalize wrapL q (commandL k2 a2 d2) = B at hb tb db ⊢
  show Option.bind (some (bs B, (0 : Int))) _ = _
  rw [bind_some']
  show cond ((0 : Int) != 0) _ (cond ((0 : Int) != 0) _ (cond ((p : Int) == (q : Int)) _ _)) = _
  rw [cbeq rfl, cbeq rfl]
  by_cases hpq : p = q
  · rw [ceq (by omega)]
  rw [cne (by omega), Let_eq]
  obtain ⟨c, hc, hc2⟩ : ∃ c : Nat, (if (if (64 : Int) < cut then 64 else cut) > 0 then (if (64 : Int) < cut then 64 else cut) else 0) = (c : Int) ∧ c ≤ 64 := by
    refine ⟨(if (if (64 : Int) < cut then 64 else cut) > 0 then (if (64 : Int) < cut then 64 else cut) else 0).toNat, ?_, ?_⟩ <;> (repeat' split) <;> omega
  rw [hc, bs_size, bs_size, cand (by omega) (by omega), cand (by decide) (by omega), cand (by omega) (by omega), cand (by omega) (by omega), Int.toNat_natCast, bs_extract, bs_extract]
  have e1 : (A.drop 0).take (c - 0) = A.take c := by simp
  have e2 : (B.drop c).take (B.length - c) = B.drop c := List.take_of_length_le (by simp)
  have lt : (A.take c ++ B.drop c).length = 64 := by simp; omega
  rw [e1, e2, cfits (by rw [bs_size, bs_size]; simp; omega), bs_append, Recorded_eq _ (by omega), bind_some']
  show cond ((bs (A.take c ++ B.drop c)).toList == (bs A).toList) _ (cond ((bs (A.take c ++ B.drop c)).toList == (bs B).toList) _ (some ((recordedL (A.take c ++ B.drop c)).2.2.2.2 == 20))) = _
  rw [beq_bs, beq_bs]
  by_cases h3 : A.take c ++ B.drop c = A
  · rw [cpos h3]
  by_cases h4 : A.take c ++ B.drop c = B
  · rw [cneg h3, cpos h4]
  rw [cneg h3, cneg h4]
  have h5 : (A.take c ++ B.drop c).take 4 ≠ (A.take c ++ B.drop c).drop 60 := fun h5 => by
    rcases torn_20 A B ha hb (by rw [ta, da]) (by rw [tb, db]) (by rw [ta, tb]; exact fun h => hpq (fourL_inj hp hq h)) c hc2 h5 with h | h
    · exact h3 h
    · exact h4 h
  have e5 : recordedL (A.take c ++ B.drop c) = (0, 0, 0, [], 20) := by unfold recordedL; rw [openL_20 _ lt h5]; rfl
  rw [e5]; rfl
set_option maxRecDepth 100000 in
theorem rd_rec {w : World} {l : List Value} (h : ∃ n, Rd Tryd.prog w n 50 l) : ∃ (q : Nat) (k a : Int) (d : ByteArray), l = [.int .u32 (q : Int), .int .i64 k, .int .i64 a, .string d] ∧ q < 4294967296 ∧ d.size ≤ maxLen := by
  obtain ⟨n, h⟩ := h
  obtain ⟨hl, m', hf⟩ := Rd.struct Tryd.underlying50 h
  have f0 := hf 0 _ rfl
  have f1 := hf 1 _ rfl
  obtain ⟨x0, e0, w0⟩ := Rd.int (k := .u32) (by first | rfl | kernel_rfl) f0
  obtain ⟨k, a, d, e1, _, _, hd⟩ := rd_cmd ⟨_, f1⟩
  have hx := wf_u32 w0
  have hl' : l.length = 4 := hl.trans (by kernel_rfl)
  refine ⟨x0.toNat, k, a, d, ?_, by omega, hd⟩
  rw [show ((x0.toNat : Nat) : Int) = x0 by omega]
  match l, hl' with
  | [v0, v1, v2, v3], _ =>
    have e0' : [v0] = [.int .u32 x0] := e0
    have e1' : [v1, v2, v3] = [.int .i64 k, .int .i64 a, .string d] := e1
    rw [List.cons.injEq] at e0'
    rw [e0'.1, e1']
theorem law_SealTorn (w : World) (l0 : List Value) (w0 : ∃ n, Rd Tryd.prog w n 50 l0) (l1 : List Value) (w1 : ∃ n, Rd Tryd.prog w n 50 l1) (a2 : Int) (w2 : (Lit.int .i64 a2).wf = true) :
    Calls Tryd.prog n_SealTorn #[.agg l0.toArray, .agg l1.toArray, .int .i64 a2] w fun e w' => e = .returned (.bool true) ∧ Chg (fun _ => False) w w' := by
  obtain ⟨p, k, a, d, rfl, hp, _⟩ := rd_rec w0
  obtain ⟨q, k2, b, d2, rfl, hq, _⟩ := rd_rec w1
  have e : f_SealTorn (p : Int) k a d (q : Int) k2 b d2 a2 = some true := Torn_eq p q hp hq k a d.data.toList k2 b d2.data.toList a2
  exact (t_SealTorn e trivial).mono fun e w' h => ⟨h.1, h.2.quiet⟩
end Go.Proofs.YtnpopijjjfjenaaDoor
