/-
  JournalNone, JournalFull, JournalAgain: the laws.
-/
import Derived.Test.YtpbiilgehbiacaaDoorJLaw2
import Derived.Test.YtpbiilgehbiacaaDoorRead
namespace Go.Proofs.YtpbiilgehbiacaaDoor
open Go.Vc
set_option linter.unusedVariables false

set_option maxRecDepth 100000 in
theorem e34_of {w : World} {n : Nat} {l : List Value} (h : Rd Tryd.prog w n 34 l) : ∃ x : E34, l = el34.enc x ∧ True := by
  obtain ⟨hl, m', hf⟩ := Rd.struct Tryd.underlying34 h
  have f0 := hf 0 _ rfl
  have f1 := hf 1 _ rfl
  have f2 := hf 2 _ rfl
  obtain ⟨x0, e0, w0⟩ := Rd.int (k := .i64) (by first | rfl | kernel_rfl) f0
  obtain ⟨x1, e1, w1⟩ := Rd.int (k := .i64) (by first | rfl | kernel_rfl) f1
  obtain ⟨x2, e2, w2⟩ := Rd.str (by first | rfl | kernel_rfl) f2
  exact ⟨⟨x0, x1, x2⟩, list3 (hl.trans (by first | rfl | kernel_rfl)) (one_at (o := 0) (by first | rfl | kernel_rfl) e0) (one_at (o := 1) (by first | rfl | kernel_rfl) e1) (one_at (o := 2) (by first | rfl | kernel_rfl) e2), trivial⟩
theorem law_JournalNone (w : World) (l0 : List Value) (w0 : ∃ n, Rd Tryd.prog w n 34 l0) (a1 : ByteArray) (w1 : a1.size ≤ 140737488351232) (a2 : Int) (w2 : (Lit.int .i64 a2).wf = true) :
    Calls Tryd.prog 4 #[.agg l0.toArray, .string a1, .int .i64 a2] w fun e w' => e = .returned (.bool true) ∧ Chg (fun _ => False) w w' := by
  obtain ⟨n, h⟩ := w0
  obtain ⟨x, rfl, _⟩ := e34_of h
  exact (t_JournalNone (JournalNone_eq x.Kind x.Addr x.Data a1 a2 w1) trivial).mono fun e w' h => ⟨h.1, h.2.quiet⟩
theorem law_JournalFull (w : World) (a0 : Int) (w0 : (Lit.int .i64 a0).wf = true) (a1 : Int) (w1 : (Lit.int .i64 a1).wf = true) :
    Calls Tryd.prog 3 #[.int .i64 a0, .int .i64 a1] w fun e w' => e = .returned (.bool true) ∧ Chg (fun _ => False) w w' :=
  (t_JournalFull (JournalFull_eq a0 a1) trivial).mono fun e w' h => ⟨h.1, h.2.quiet⟩
set_option maxRecDepth 100000 in
theorem law_JournalAgain (w : World) (a0 : Option Addr) (n0 c0 : Nat) (w0 : Rds Tryd.prog w 34 a0 n0 c0) (a1 : Int) (w1 : (Lit.int .i64 a1).wf = true) (a2 : ByteArray) (w2 : a2.size ≤ 140737488351232) :
    Calls Tryd.prog 6 #[.slice a0 n0 c0, .int .i64 a1, .string a2] w fun e w' => e = .returned (.bool true) ∧ Chg (fun _ => False) w w' := by
  obtain ⟨xs, rfl, hr, hx⟩ : ∃ xs : List E34, n0 = xs.length ∧ RoAt el34 w a0 c0 xs ∧ ∀ x ∈ xs, True := ro_of w0 (by first | rfl | kernel_rfl) _ fun cs m hc => e34_of hc
  exact (t_JournalAgain (JournalAgain_eq xs a1 a2 w2) trivial hr not_foot_nil rfl).mono fun e w' h => ⟨h.1, h.2.quiet⟩
end Go.Proofs.YtpbiilgehbiacaaDoor
