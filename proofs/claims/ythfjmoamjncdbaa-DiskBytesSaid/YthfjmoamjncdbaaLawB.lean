/-
  DiskBytes, DiskKept: the laws.
-/
import Derived.Test.YthfjmoamjncdbaaKept
import Derived.Test.YthfjmoamjncdbaaLawA
namespace Go.Proofs.Ythfjmoamjncdbaa
open Go.Vc
set_option linter.unusedVariables false

theorem law_DiskBytes (w : World) (a0 : Option Addr) (n0 c0 : Nat) (w0 : Rds Try.prog w 9 a0 n0 c0) (b0 : n0 * 16 ≤ 140737488351232) (a1 : Option Addr) (n1 c1 : Nat) (w1 : Rds Try.prog w 9 a1 n1 c1) (b1 : n1 * 16 ≤ 140737488351232) (a2 : Option Addr) (n2 c2 : Nat) (w2 : Rds Try.prog w 44 a2 n2 c2) (b2 : n2 * 16 ≤ 140737488351232) :
    Calls Try.prog n_DiskBytes #[.slice a0 n0 c0, .slice a1 n1 c1, .slice a2 n2 c2] w fun e w' => e = .returned (.bool true) ∧ Chg (fun _ => False) w w' := by
  obtain ⟨xs, rfl, hr, hx⟩ := ro_str w0 (by first | rfl | kernel_rfl) (by first | rfl | kernel_rfl)
  obtain ⟨ys, rfl, hs, hy⟩ := ro_str w1 (by first | rfl | kernel_rfl) (by first | rfl | kernel_rfl)
  obtain ⟨zs, rfl, ht, hz⟩ := ro_pick w2
  exact (t_DiskBytes (DiskBytes_eq xs ys zs (by omega) (by omega) (by omega)) trivial hr not_foot_nil hs not_foot_nil ht not_foot_nil rfl rfl rfl).mono fun e w' h => ⟨h.1, h.2.quiet⟩
theorem law_DiskKept (w : World) (a0 : Option Addr) (n0 c0 : Nat) (w0 : Rds Try.prog w 3 a0 n0 c0) (b0 : n0 * 8 ≤ 140737488351232) (a1 : Int) (w1 : (Lit.int .u32 a1).wf = true) :
    Calls Try.prog n_DiskKept #[.slice a0 n0 c0, .int .u32 a1] w fun e w' => e = .returned (.bool true) ∧ Chg (fun _ => False) w w' := by
  obtain ⟨xs, rfl, hr, hx⟩ := ro_int (k := .i64) w0 (by first | rfl | kernel_rfl) (by first | rfl | kernel_rfl)
  exact (t_DiskKept (DiskKept_eq xs a1) trivial hr not_foot_nil rfl).mono fun e w' h => ⟨h.1, h.2.quiet⟩
end Go.Proofs.Ythfjmoamjncdbaa
