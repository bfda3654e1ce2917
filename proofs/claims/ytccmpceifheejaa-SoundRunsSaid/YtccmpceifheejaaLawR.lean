/-
  SoundRuns: the law.
-/
import Derived.Test.YtccmpceifheejaaAk
import Derived.Test.YtccmpceifheejaaRo
namespace Go.Proofs.Ytccmpceifheejaa
open Go.Vc
set_option linter.unusedVariables false
theorem e42_of {w : World} {m : Nat} {cs : List Value} (hc : Rd Try.prog w m 42 cs) : ∃ x : E42, cs = el42.enc x ∧ (0 ≤ x.X ∧ x.X < 4294967296) := by
  obtain ⟨hl, m', hf⟩ := Rd.struct Try.underlying42 hc
  have f0 := hf 0 _ rfl
  have f1 := hf 1 _ rfl
  have f2 := hf 2 _ rfl
  have f3 := hf 3 _ rfl
  obtain ⟨x0, e0, w0⟩ := Rd.int (k := .i64) (by first | rfl | kernel_rfl) f0
  obtain ⟨x1, e1, w1⟩ := Rd.int (k := .i64) (by first | rfl | kernel_rfl) f1
  obtain ⟨x2, e2, w2⟩ := Rd.int (k := .i64) (by first | rfl | kernel_rfl) f2
  obtain ⟨x3, e3, w3⟩ := Rd.int (k := .u32) (by first | rfl | kernel_rfl) f3
  have h4 : cs = [.int .i64 x0, .int .i64 x1, .int .i64 x2, .int .u32 x3] := by
    have hl := hl.trans (show Try.prog.cellsOf 42 = 4 by first | rfl | kernel_rfl)
    have g0 := one_at (o := 0) (by first | rfl | kernel_rfl) e0
    have g1 := one_at (o := 1) (by first | rfl | kernel_rfl) e1
    have g2 := one_at (o := 2) (by first | rfl | kernel_rfl) e2
    have g3 := one_at (o := 3) (by first | rfl | kernel_rfl) e3
    match cs, hl with
    | [a, b, c, d], _ => simp at g0 g1 g2 g3; rw [g0, g1, g2, g3]
  exact ⟨⟨x0, x1, x2, x3⟩, h4, wf_u32 w3⟩
theorem law_SoundRuns (w : World) (a0 : Option Addr) (n0 c0 : Nat) (w0 : Rds Try.prog w 42 a0 n0 c0) (b0 : n0 * 32 ≤ 140737488351232) :
    Calls Try.prog 6 #[.slice a0 n0 c0] w fun e w' => e = .returned (.bool true) ∧ Chg (fun _ => False) w w' := by
  obtain ⟨xs, rfl, hr, hx⟩ : ∃ xs : List E42, n0 = xs.length ∧ RoAt el42 w a0 c0 xs ∧ ∀ x ∈ xs, 0 ≤ x.X ∧ x.X < 4294967296 := ro_of w0 (by first | rfl | kernel_rfl) _ fun cs m hc => e42_of hc
  exact (t_SoundRuns (SoundRuns_true xs (by omega) hx) trivial hr not_foot_nil rfl).mono fun e w' h => ⟨h.1, h.2.quiet⟩
end Go.Proofs.Ytccmpceifheejaa
