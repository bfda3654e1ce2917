/-
  BiosBack: the law.
-/
import Derived.Test.YtnobglfjinehfaaBioBack
import Derived.Test.YtnobglfjinehfaaRo
namespace Go.Proofs.Ytnobglfjinehfaa
open Go.Vc
set_option linter.unusedVariables false
theorem law_BiosBack (w : World) (a0 : Option Addr) (n0 c0 : Nat) (w0 : Rds Try.prog w 5 a0 n0 c0) (a1 : Int) (w1 : (Lit.int .i64 a1).wf = true) :
    Calls Try.prog 4 #[.slice a0 n0 c0, .int .i64 a1] w fun e w' => e = .returned (.bool true) ∧ Chg (fun _ => False) w w' := by
  obtain ⟨xs, rfl, hr, hx⟩ := ro_int (k := .u8) w0 (by first | rfl | kernel_rfl) (by first | rfl | kernel_rfl)
  exact (t_BiosBack (BiosBack_eq xs a1 (fun x h => wf_u8 (hx x h))) trivial hr not_foot_nil rfl).mono fun e w' h => ⟨h.1, h.2.quiet⟩
end Go.Proofs.Ytnobglfjinehfaa
