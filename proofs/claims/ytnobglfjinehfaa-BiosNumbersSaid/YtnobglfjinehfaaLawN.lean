/-
  BiosNumbers, BiosRight: the laws.
-/
import Derived.Test.YtnobglfjinehfaaBioC
import Derived.Test.YtnobglfjinehfaaRo
namespace Go.Proofs.Ytnobglfjinehfaa
open Go.Vc
set_option linter.unusedVariables false
theorem law_BiosNumbers (w : World) (a0 : Int) (w0 : (Lit.int .i32 a0).wf = true) (a1 : Int) (w1 : (Lit.int .i32 a1).wf = true) (a2 : Int) (w2 : (Lit.int .i64 a2).wf = true) :
    Calls Try.prog 7 #[.int .i32 a0, .int .i32 a1, .int .i64 a2] w fun e w' => e = .returned (.bool true) ∧ Chg (fun _ => False) w w' :=
  (t_BiosNumbers (BiosNumbers_eq (wf_i32 w0) (wf_i32 w1)) trivial).mono fun e w' h => ⟨h.1, h.2.quiet⟩
theorem law_BiosRight (w : World) (a0 : Int) (w0 : (Lit.int .i32 a0).wf = true) (a1 : Int) (w1 : (Lit.int .i32 a1).wf = true) (a2 : Int) (w2 : (Lit.int .i64 a2).wf = true) :
    Calls Try.prog 5 #[.int .i32 a0, .int .i32 a1, .int .i64 a2] w fun e w' => e = .returned (.bool true) ∧ Chg (fun _ => False) w w' :=
  (t_BiosRight (BiosRight_eq (wf_i32 w0) (wf_i32 w1)) trivial).mono fun e w' h => ⟨h.1, h.2.quiet⟩
end Go.Proofs.Ytnobglfjinehfaa
