/-
  FlashFolds, FlashRuns: the laws.
-/
import Derived.Test.YtjkcpckjaoehkaaFolds
namespace Go.Proofs.Ytjkcpckjaoehkaa
open Go.Vc
set_option linter.unusedVariables false

theorem ro_put {w : World} {p : Option Addr} {n c : Nat} (h : Rds Try.prog w 33 p n c) :
    ∃ xs : List E33, n = xs.length ∧ RoAt el33 w p c xs ∧ ∀ x ∈ xs, (0 ≤ x.Addr ∧ x.Addr < 4294967296) ∧ 0 ≤ x.Byte ∧ x.Byte < 256 :=
  ro_of h (by first | rfl | kernel_rfl) _ fun cs m hc => by
    obtain ⟨hl, m', hf⟩ := Rd.struct Try.underlying33 hc
    have f0 := hf 0 _ rfl
    have f1 := hf 1 _ rfl
    obtain ⟨x0, e0, w0⟩ := Rd.int (k := .u32) (by first | rfl | kernel_rfl) f0
    obtain ⟨x1, e1, w1⟩ := Rd.int (k := .u8) (by first | rfl | kernel_rfl) f1
    exact ⟨⟨x0, x1⟩, list2 (hl.trans (by first | rfl | kernel_rfl)) (one_at (o := 0) (by first | rfl | kernel_rfl) e0) (one_at (o := 1) (by first | rfl | kernel_rfl) e1), wf_u32 w0, wf_u8 w1⟩

theorem law_FlashFolds (w : World) (a0 : Bool) (a1 : Option Addr) (n1 c1 : Nat) (w1 : Rds Try.prog w 33 a1 n1 c1) :
    Calls Try.prog n_FlashFolds #[.bool a0, .slice a1 n1 c1] w fun e w' => e = .returned (.bool true) ∧ Chg (fun _ => False) w w' := by
  obtain ⟨xs, rfl, hr, hx⟩ := ro_put w1
  exact (t_FlashFolds (FlashFolds_eq a0 xs hx) trivial hr not_foot_nil).mono fun e w' h => ⟨h.1, h.2.quiet⟩
theorem law_FlashRuns (w : World) (a0 : Bool) (a1 : Option Addr) (n1 c1 : Nat) (w1 : Rds Try.prog w 33 a1 n1 c1) (a2 : Option Addr) (n2 c2 : Nat) (w2 : Rds Try.prog w 31 a2 n2 c2) :
    Calls Try.prog n_FlashRuns #[.bool a0, .slice a1 n1 c1, .slice a2 n2 c2] w fun e w' => e = .returned (.bool true) ∧ Chg (fun _ => False) w w' := by
  obtain ⟨xs, rfl, hr, hx⟩ := ro_put w1
  obtain ⟨ys, rfl, hs, hy⟩ := ro_int (k := .u32) w2 (by first | rfl | kernel_rfl) (by first | rfl | kernel_rfl)
  exact (t_FlashRuns (FlashRuns_eq a0 xs ys hx fun y h => wf_u32 (hy y h)) trivial hr not_foot_nil hs not_foot_nil).mono fun e w' h => ⟨h.1, h.2.quiet⟩
end Go.Proofs.Ytjkcpckjaoehkaa
