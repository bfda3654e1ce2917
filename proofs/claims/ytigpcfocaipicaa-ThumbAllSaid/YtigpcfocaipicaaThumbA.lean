/-
  ThumbAll: the law.
-/
import Derived.Test.YtigpcfocaipicaaThumb
namespace Go.Proofs.Ytigpcfocaipicaa
open Go.Vc
set_option linter.unusedVariables false
set_option linter.unusedSimpArgs false

theorem andNot255 (q : Nat) (hq : q < 65536) (i : Nat) (hi : i < 256) : bits .or .u16 (bits .andNot .u16 (q : Int) 255) (i : Int) = ((q / 256 * 256 + i : Nat) : Int) := by
  have e : bits .andNot .u16 (q : Int) 255 = bits .and .u16 (q : Int) 65280 := by
    show IntKind.wrap .u16 ((BitVec.ofInt 16 (q : Int) &&& ~~~ BitVec.ofInt 16 255).toNat : Int) = IntKind.wrap .u16 ((BitVec.ofInt 16 (q : Int) &&& BitVec.ofInt 16 65280).toNat : Int)
    rw [show ~~~ BitVec.ofInt 16 255 = BitVec.ofInt 16 65280 from by decide]
  have e2 : bits .and .u16 (q : Int) 65280 = ((q / 256 * 256 : Nat) : Int) := by
    have : (65280 : Int) = (((2 ^ 8 - 1) * 2 ^ 8 : Nat) : Int) := by decide
    rw [this, u16_and_nat q _ (by omega) (by decide), nat_and_high]
    show ((q / 256 % 256 * 256 : Nat) : Int) = _
    omega
  have e3 : bits .or .u16 ((q / 256 * 256 : Nat) : Int) (i : Int) = bits .or .u16 (i : Int) ((q / 256 * 256 : Nat) : Int) := by
    show IntKind.wrap .u16 ((BitVec.ofInt 16 _ ||| BitVec.ofInt 16 _).toNat : Int) = IntKind.wrap .u16 ((BitVec.ofInt 16 _ ||| BitVec.ofInt 16 _).toNat : Int)
    rw [BitVec.or_comm]
  rw [e, e2, e3, or16 8 (by decide) (by omega) (by simp; omega) (by omega) (by omega) (by simp)]
  omega
theorem ThumbAll_eq (q : Nat) (hq : q < 65536) : f_ThumbAll (q : Int) = some true := by
  unfold f_ThumbAll
  rw [awake_eq, bind_some', cfalse (show (!true) = false from rfl)]
  refine loopO_for (fun i : Nat => (i : Int)) 256 (fun i hi => ?_) ?_
  · show cond (decide ((i : Int) < 256)) (Let _ _) _ = some (Sum.inl ((i + 1 : Nat) : Int))
    rw [cpos (by omega), Let_eq, show IntKind.wrap .u16 (i : Int) = (i : Int) by rw [wr_u16]; omega, andNot255 q hq i hi]
    obtain ⟨x0, x1, x2, x3, x4, x5, x6, x7, x8, x9, x10, x11, x12, x13, x14, x16, x17, x18, x20, x23, e1, e2⟩ := both (q / 256 * 256 + i) (by omega)
    rw [e1, bind_some', e2]
    show cond _ _ (some (Sum.inl (IntKind.wrap .i64 ((i : Int) + 1)))) = _
    rw [cfalse (by simp), wrap_i64 (by omega) (by omega)]; rfl
  · rfl
theorem law_ThumbAll (w : World) (a0 : Int) (w0 : (Lit.int .u16 a0).wf = true) :
    Calls Try.prog n_ThumbAll #[.int .u16 a0] w fun e w' => e = .returned (.bool true) ∧ Chg (fun _ => False) w w' := by
  have hx := wf_u16 w0
  obtain ⟨q, rfl⟩ := Int.eq_ofNat_of_zero_le hx.1
  exact (t_ThumbAll (ThumbAll_eq q (by omega)) trivial).mono fun e w' h => ⟨h.1, h.2.quiet⟩
end Go.Proofs.Ytigpcfocaipicaa
