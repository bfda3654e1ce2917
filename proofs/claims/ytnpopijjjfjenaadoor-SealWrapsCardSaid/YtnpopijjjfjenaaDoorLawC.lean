/-
  SealCommands: the law.
-/
import Derived.Test.YtnpopijjjfjenaaDoorCmd
import Derived.Test.YtnpopijjjfjenaaDoorRead
namespace Go.Proofs.YtnpopijjjfjenaaDoor
open Go.Vc
set_option linter.unusedVariables false

theorem beq_self_int (a : Int) : (a == a) = true := by simp
theorem Commands_eq (k a : Int) (d b m : List UInt8) (hb : b.length ≤ 140737488351232) (hm : m.length ≤ 140737488351232) : f_SealCommands k a (bs d) (bs b) (bs m) = some true := by
  unfold f_SealCommands
  rw [awake_eq, bind_some', ctrueF (b := !true) rfl, Command_eq, rCommand_eq]
  obtain ⟨x, y, hxy, hy⟩ : ∃ x y, (if okF k a d = true then (bs (commandL k a d), 0) else (bs [], 1) : O_Command) = (bs x, y) ∧ (if okF k a d = true then (0 : Int) else 1) = y := by
    by_cases h : okF k a d = true
    · exact ⟨commandL k a d, 0, by rw [if_pos h], by rw [if_pos h]⟩
    · exact ⟨[], 1, by rw [if_neg h], by rw [if_neg h]⟩
  rw [hxy, bind_some']
  show Option.bind (some (bs x, y)) _ = _
  rw [bind_some']
  show Option.bind (f_Commanded (bs b)) _ = _
  rw [Commanded_eq _ (by omega), bind_some']
  show Option.bind (f_rCommanded (bs b)) _ = _
  rw [rCommanded_eq _ (by omega), bind_some']
  show Option.bind (f_sApply (bs m) k a (bs d)) _ = _
  rw [sApply_eq _ (by omega), bind_some']
  show Option.bind (f_rApply (bs m) k a (bs d)) _ = _
  rw [rApply_eq _ (by omega), bind_some']
  show cond ((bs x).toList == (bs x).toList) (cond (y == y) (Option.bind (f_sCheck k a (bs d)) _) _) _ = _
  rw [beq_bs, cpos rfl, ctrueT (beq_self_int _), sCheck_eq, hy, bind_some', ctrueT (beq_self_int _), beq_bs', beq_self_int, beq_self_int, decide_eq_true rfl]
  show cond ((commandedL b).2.2.2 == (commandedL b).2.2.2) _ _ = _
  rw [ctrueT (beq_self_int _), beq_bs, cpos rfl, beq_self_int]
set_option maxRecDepth 100000 in
theorem rd_cmd {w : World} {l : List Value} (h : ∃ n, Rd Tryd.prog w n 36 l) : ∃ (k a : Int) (d : ByteArray), l = [.int .i64 k, .int .i64 a, .string d] ∧ (Lit.int .i64 k).wf = true ∧ (Lit.int .i64 a).wf = true ∧ d.size ≤ maxLen := by
  obtain ⟨n, h⟩ := h
  obtain ⟨hl, m', hf⟩ := Rd.struct Tryd.underlying36 h
  have f0 := hf 0 _ rfl
  have f1 := hf 1 _ rfl
  have f2 := hf 2 _ rfl
  obtain ⟨x0, e0, w0⟩ := Rd.int (k := .i64) (by first | rfl | kernel_rfl) f0
  obtain ⟨x1, e1, w1⟩ := Rd.int (k := .i64) (by first | rfl | kernel_rfl) f1
  obtain ⟨x2, e2, w2⟩ := Rd.str (by first | rfl | kernel_rfl) f2
  exact ⟨x0, x1, x2, list3 (hl.trans (by first | rfl | kernel_rfl)) (one_at (o := 0) (by first | rfl | kernel_rfl) e0) (one_at (o := 1) (by first | rfl | kernel_rfl) e1) (one_at (o := 2) (by first | rfl | kernel_rfl) e2), w0, w1, w2⟩
theorem law_SealCommands (w : World) (l0 : List Value) (w0 : ∃ n, Rd Tryd.prog w n 36 l0) (a1 : ByteArray) (w1 : a1.size ≤ 140737488351232) (a2 : ByteArray) (w2 : a2.size ≤ 140737488351232) :
    Calls Tryd.prog n_SealCommands #[.agg l0.toArray, .string a1, .string a2] w fun e w' => e = .returned (.bool true) ∧ Chg (fun _ => False) w w' := by
  obtain ⟨k, a, d, rfl, _, _, _⟩ := rd_cmd w0
  have e : f_SealCommands k a d a1 a2 = some true := Commands_eq k a d.data.toList a1.data.toList a2.data.toList (by rw [Array.length_toList]; exact w1) (by rw [Array.length_toList]; exact w2)
  exact (t_SealCommands e trivial).mono fun e w' h => ⟨h.1, h.2.quiet⟩
end Go.Proofs.YtnpopijjjfjenaaDoor
