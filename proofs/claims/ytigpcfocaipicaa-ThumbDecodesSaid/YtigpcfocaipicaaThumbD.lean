/-
  ThumbDecodes: the law.
-/
import Derived.Test.YtigpcfocaipicaaThumb
namespace Go.Proofs.Ytigpcfocaipicaa
open Go.Vc
set_option linter.unusedVariables false
set_option linter.unusedSimpArgs false

theorem ThumbDecodes_eq (q : Nat) (hq : q < 65536) : f_ThumbDecodes (q : Int) = some true := by
  unfold f_ThumbDecodes
  obtain ⟨x0, x1, x2, x3, x4, x5, x6, x7, x8, x9, x10, x11, x12, x13, x14, x16, x17, x18, x20, x23, e1, e2⟩ := both q hq
  rw [awake_eq, bind_some', cfalse (show (!true) = false from rfl), e1, bind_some', e2]
  simp [Let]
theorem law_ThumbDecodes (w : World) (a0 : Int) (w0 : (Lit.int .u16 a0).wf = true) :
    Calls Try.prog n_ThumbDecodes #[.int .u16 a0] w fun e w' => e = .returned (.bool true) ∧ Chg (fun _ => False) w w' := by
  have hx := wf_u16 w0
  obtain ⟨q, rfl⟩ := Int.eq_ofNat_of_zero_le hx.1
  exact (t_ThumbDecodes (ThumbDecodes_eq q (by omega)) trivial).mono fun e w' h => ⟨h.1, h.2.quiet⟩
end Go.Proofs.Ytigpcfocaipicaa
