/-
  ThumbFields: the law.
-/
import Derived.Test.YtigpcfocaipicaaG
import Derived.Test.YtigpcfocaipicaaGood2
namespace Go.Proofs.Ytigpcfocaipicaa
open Go.Vc
set_option linter.unusedVariables false

theorem base {v : Bool} : ∃ b, Let v (fun s => (some s : Option Bool)) = some b := ⟨_, rfl⟩
theorem chain {v : Bool} {rest : Option Bool} (h : ∃ b, rest = some b) : ∃ b, Let v (fun s => cond s (some s) rest) = some b := by
  cases v
  · exact h
  · exact ⟨_, rfl⟩
set_option maxRecDepth 100000 in
theorem Decode_ok (q : Nat) (hq : q < 65536) : ok (f_Decode (q : Int)) Good := by
  obtain ⟨a, ha, a0, a1⟩ : ∃ a : Int, f_field (q : Int) 11 2 = some a ∧ 0 ≤ a ∧ a < 4 := field_in q hq 11 2 (by decide) (by decide)
  obtain ⟨g, hg, g0, g1⟩ : ∃ a : Int, f_field (q : Int) 8 3 = some a ∧ 0 ≤ a ∧ a < 8 := field_in q hq 8 3 (by decide) (by decide)
  obtain ⟨c, hc, c0, c1⟩ : ∃ a : Int, f_field (q : Int) 8 4 = some a ∧ 0 ≤ a ∧ a < 16 := field_in q hq 8 4 (by decide) (by decide)
  obtain ⟨u, hu⟩ : ∃ a : Bool, f_bit (q : Int) 11 = some a := bit_in q hq 11 (by decide)
  have hw : IntKind.wrap .u32 (q : Int) = (q : Int) := wrap_u32 (by omega) (by omega)
  have e : bits .and .u32 (q : Int) 255 = ((q % 256 : Nat) : Int) := by rw [and32 8 (by decide) (by decide) (by omega) (by omega)]; rfl
  have w1 : IntKind.wrap .i64 (bits .and .u32 (q : Int) 255) = ((q % 256 : Nat) : Int) := by rw [e, wrap_i64 (by omega) (by omega)]
  unfold f_Decode
  simp only [hw, ha, hg, hc, hu, w1, bind_some']
  refine ok_bind (Q := fun _ => True) (ok_true (fun _ => trivial) (chain base)) fun s _ => ok_cond (fun _ => ok_bind (shifts_ok q hq) fun x hx => ok_some hx) (fun _ => ?_)
  refine ok_bind (Q := fun _ => True) (ok_true (fun _ => trivial) (chain base)) fun s _ => ok_cond (fun _ => ?_) (fun _ => ?_)
  · obtain rfl | rfl | rfl | rfl : a = 0 ∨ a = 1 ∨ a = 2 ∨ a = 3 := by omega
    · exact ⟨_, rfl, by simp only [Good, show ixL ([13, 10, 4, 2] : List Int) 0 = 13 from rfl]; simp <;> omega⟩
    · exact ⟨_, rfl, by simp only [Good, show ixL ([13, 10, 4, 2] : List Int) 1 = 10 from rfl]; simp <;> omega⟩
    · exact ⟨_, rfl, by simp only [Good, show ixL ([13, 10, 4, 2] : List Int) 2 = 4 from rfl]; simp <;> omega⟩
    · exact ⟨_, rfl, by simp only [Good, show ixL ([13, 10, 4, 2] : List Int) 3 = 2 from rfl]; simp <;> omega⟩
  refine ok_let (ok_cond (fun _ => ok_bind (fourth_ok q hq) fun x hx => ok_some hx) (fun _ => ?_))
  refine ok_bind (Q := fun _ => True) (ok_true (fun _ => trivial) (chain (chain (chain (chain base))))) fun s _ => ok_cond (fun _ => ok_bind (memory_ok q hq) fun x hx => ok_some hx) (fun _ => ?_)
  refine ok_let (ok_cond (fun _ => ?_) (fun _ => ?_))
  · refine ok_cond (fun _ => ?_) (fun _ => ?_) <;> (refine ok_some ?_; simp only [Good]; simp <;> omega)
  refine ok_let (ok_cond (fun _ => ok_bind (stack_ok q hq) fun x hx => ok_some hx) (fun _ => ?_))
  refine ok_let (ok_cond (fun _ => ?_) (fun _ => ?_))
  · refine ok_some ?_; simp only [Good]; simp <;> omega
  refine ok_let (ok_cond (fun _ => ?_) (fun _ => ?_))
  · refine ok_cond (fun _ => ?_) (fun h1 => ok_cond (fun _ => ?_) (fun h2 => ?_))
    · refine ok_some ?_; simp only [Good]; simp <;> omega
    · refine ok_some ?_; simp only [Good]; simp <;> omega
    · have n1 : c ≠ 14 := beq_eq_false_iff_ne.1 h1
      have n2 : c ≠ 15 := beq_eq_false_iff_ne.1 h2
      have n3 : c < 14 := by omega
      refine ok_some ?_
      exact ⟨by decide, .inr ⟨rfl, c0, n3⟩, by decide, by decide, by decide, by decide, by decide, by decide, by decide, rfl, rfl, rfl, rfl, .inl rfl⟩
  refine ok_let (ok_cond (fun _ => ?_) (fun _ => ?_))
  · refine ok_cond (fun _ => ?_) (fun _ => ?_) <;> (refine ok_some ?_; simp only [Good]; simp <;> omega)
  refine ok_cond (fun _ => ?_) (fun _ => ?_) <;> (refine ok_some ?_; simp only [Good]; simp <;> omega)
theorem awake_eq : f_awake = some true := by decide +kernel
theorem Fields_eq (q : Nat) (hq : q < 65536) : f_ThumbFields (q : Int) = some true := by
  unfold f_ThumbFields
  obtain ⟨⟨x0, x1, x2, x3, x4, x5, x6, x7, x8, x9, x10, x11, x12, x13, x14, x15, x16, x17, x18, x19, x20, x21, x22, x23⟩, hr, good⟩ := Decode_ok q hq
  simp only [Good] at good
  obtain ⟨g0, g1, g2, g4, g5, g6, g7, g11, g20, rfl, rfl, rfl, rfl, g18⟩ := good
  rw [awake_eq, bind_some', ctrueF (b := !true) rfl, hr, bind_some']
  have r1 : 0 ≤ x1 ∧ x1 ≤ 15 := by omega
  refine loopO_for (fun i => (i : Int)) 6 (fun i hi => ?_) ?_
  · have w1 : IntKind.wrap .i64 ((i : Int) + 1) = ((i + 1 : Nat) : Int) := by rw [wrap_i64 (by omega) (by omega)]; omega
    have key : 0 ≤ ixL ([x1, x2, x4, x5, x6, x7] : List Int) (i : Int) ∧ ixL ([x1, x2, x4, x5, x6, x7] : List Int) (i : Int) ≤ 15 := by
      obtain rfl | rfl | rfl | rfl | rfl | rfl : i = 0 ∨ i = 1 ∨ i = 2 ∨ i = 3 ∨ i = 4 ∨ i = 5 := by omega
      · exact r1
      · exact g2
      · exact g4
      · exact g5
      · exact g6
      · exact g7
    show cond (decide ((i : Int) < ((6 : Nat) : Int))) (cond (decide (0 ≤ (i : Int)) && decide ((i : Int) < ((6 : Nat) : Int))) (cond (decide (ixL ([x1, x2, x4, x5, x6, x7] : List Int) (i : Int) < 0)) _ (cond (decide (ixL ([x1, x2, x4, x5, x6, x7] : List Int) (i : Int) > 15)) _ (some (Sum.inl (IntKind.wrap .i64 ((i : Int) + 1)))))) _) _ = _
    rw [cpos (by omega), cand (by omega) (by omega), cneg (by omega), cneg (by omega), w1]
  · show cond (decide (((6 : Nat) : Int) < ((6 : Nat) : Int))) _ (cond (decide (x0 ≥ 0)) (cond (decide (x0 ≤ 13)) (cond (x1 == 14) _ _) _) _) = _
    rw [cneg (by decide), cpos g0.1, cpos g0.2]
    by_cases h : x1 = 14
    · rw [ceq h, cpos g11.1, cpos g11.2, cpos g20.1, cpos g20.2]
      show cond (!x18) (some (Sum.inr true)) (some (Sum.inr (x0 == 8))) = _
      rcases g18 with rfl | rfl
      · rfl
      · cases x18 <;> rfl
    · rw [cne h, ceq (by omega), cpos (by omega), cpos g11.1, cpos g11.2, cpos g20.1, cpos g20.2]
      show cond (!x18) (some (Sum.inr true)) (some (Sum.inr (x0 == 8))) = _
      rcases g18 with rfl | rfl
      · rfl
      · cases x18 <;> rfl
theorem law_ThumbFields (w : World) (a0 : Int) (w0 : (Lit.int .u16 a0).wf = true) :
    Calls Try.prog n_ThumbFields #[.int .u16 a0] w fun e w' => e = .returned (.bool true) ∧ Chg (fun _ => False) w w' := by
  have hx := wf_u16 w0
  obtain ⟨q, rfl⟩ := Int.eq_ofNat_of_zero_le hx.1
  exact (t_ThumbFields (Fields_eq q (by omega)) trivial).mono fun e w' h => ⟨h.1, h.2.quiet⟩
end Go.Proofs.Ytigpcfocaipicaa
