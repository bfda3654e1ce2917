/-
  JournalParts: the law.
-/
import Derived.Test.YtpbiilgehbiacaaDoorJParts
import Derived.Test.YtpbiilgehbiacaaDoorJLawR
namespace Go.Proofs.YtpbiilgehbiacaaDoor
open Go.Vc
set_option linter.unusedVariables false

theorem rds_cap {P : Program} {w : World} {e : TypeId} {p : Option Addr} {n c : Nat} (h : Rds P w e p n c) : n ≤ maxLen := by
  rcases h with ⟨rfl, rfl, rfl⟩ | ⟨a, m, rfl, hn, hc, he⟩
  · exact Nat.zero_le _
  · omega
theorem Rd.slice {P : Program} {w : World} {n : Nat} {t e : TypeId} {cs : List Value} (hu : P.underlying t = some (.slice e)) (h : Rd P w n t cs) : ∃ p l c, cs = [.slice p l c] ∧ Rds P w e p l c := by
  cases n with
  | zero => exact h.elim
  | succ n =>
    unfold Rd at h
    rw [hu] at h
    rcases h with rfl | ⟨a, l, c, rfl, h2, h3, h4⟩
    · exact ⟨none, 0, 0, rfl, .inl ⟨rfl, rfl, rfl⟩⟩
    · exact ⟨some a, l, c, rfl, .inr ⟨a, n, rfl, h2, h3, h4⟩⟩
set_option maxRecDepth 100000 in
theorem ro_pick {w : World} {p : Option Addr} {n c : Nat} (h : Rds Tryd.prog w 89 p n c) :
    ∃ xs : List E89, n = xs.length ∧ RoAt el89 w p c xs ∧ ∀ x ∈ xs, True :=
  ro_of h (by first | rfl | kernel_rfl) _ fun cs m hc => by
    obtain ⟨hl, m', hf⟩ := Rd.struct Tryd.underlying89 hc
    have f0 := hf 0 _ rfl
    have f1 := hf 1 _ rfl
    obtain ⟨x0, e0, w0⟩ := Rd.int (k := .i64) (by first | rfl | kernel_rfl) f0
    obtain ⟨x1, e1, w1⟩ := Rd.int (k := .i64) (by first | rfl | kernel_rfl) f1
    exact ⟨⟨x0, x1⟩, list2 (hl.trans (by first | rfl | kernel_rfl)) (one_at (o := 0) (by first | rfl | kernel_rfl) e0) (one_at (o := 1) (by first | rfl | kernel_rfl) e1), trivial⟩
set_option maxRecDepth 100000 in
theorem ro_broken {w : World} {p : Option Addr} {n c : Nat} (h : Rds Tryd.prog w 48 p n c) :
    ∃ xs : List E48, n = xs.length ∧ RoAt el48 w p c xs ∧ ∀ x ∈ xs, ((x.Fuel ≤ 9223372036854775807 ∧ x.More ≤ 9223372036854775807) ∧ x.Picks.length ≤ 9223372036854775807 ∧ x.Again.length ≤ 9223372036854775807) ∧ RoAt el89 w x.Picks_p x.Picks_c x.Picks ∧ RoAt el89 w x.Again_p x.Again_c x.Again :=
  ro_of h (by first | rfl | kernel_rfl) _ fun cs m hc => by
    obtain ⟨hl, m', hf⟩ := Rd.struct Tryd.underlying48 hc
    have f0 := hf 0 _ rfl
    have f1 := hf 1 _ rfl
    have f2 := hf 2 _ rfl
    have f3 := hf 3 _ rfl
    obtain ⟨x0, e0, w0⟩ := Rd.int (k := .i64) (by first | rfl | kernel_rfl) f0
    obtain ⟨p1, l1, c1, e1, w1⟩ := Rd.slice (e := 89) (by first | rfl | kernel_rfl) f1
    obtain ⟨x2, e2, w2⟩ := Rd.int (k := .i64) (by first | rfl | kernel_rfl) f2
    obtain ⟨p3, l3, c3, e3, w3⟩ := Rd.slice (e := 89) (by first | rfl | kernel_rfl) f3
    obtain ⟨ps, rfl, hr1, _⟩ := ro_pick w1
    obtain ⟨qs, rfl, hr3, _⟩ := ro_pick w3
    have hm1 := rds_cap w1
    have hm3 := rds_cap w3
    unfold maxLen at hm1 hm3
    exact ⟨⟨x0, ps, x2, qs, p1, c1, p3, c3⟩, list4 (hl.trans (by first | rfl | kernel_rfl)) (one_at (o := 0) (by first | rfl | kernel_rfl) e0) (one_at (o := 1) (by first | rfl | kernel_rfl) e1) (one_at (o := 2) (by first | rfl | kernel_rfl) e2) (one_at (o := 3) (by first | rfl | kernel_rfl) e3),
      ⟨⟨(wf_i64 w0).2, (wf_i64 w2).2⟩, hm1, hm3⟩, hr1, hr3⟩
set_option maxRecDepth 100000 in
theorem law_JournalParts (w : World) (a0 : Option Addr) (n0 c0 : Nat) (w0 : Rds Tryd.prog w 34 a0 n0 c0) (a1 : Int) (w1 : (Lit.int .i64 a1).wf = true) (a2 : Option Addr) (n2 c2 : Nat) (w2 : Rds Tryd.prog w 48 a2 n2 c2) :
    Calls Tryd.prog 5 #[.slice a0 n0 c0, .int .i64 a1, .slice a2 n2 c2] w fun e w' => e = .returned (.bool true) ∧ Chg (fun _ => False) w w' := by
  obtain ⟨xs, rfl, hr, hx⟩ : ∃ xs : List E34, n0 = xs.length ∧ RoAt el34 w a0 c0 xs ∧ ∀ x ∈ xs, True := ro_of w0 (by first | rfl | kernel_rfl) _ fun cs m hc => e34_of hc
  obtain ⟨ys, rfl, hs, hy⟩ := ro_broken w2
  exact (t_JournalParts (JournalParts_eq xs a1 ys (fun y h => (hy y h).1)) trivial hr not_foot_nil hs not_foot_nil (fun x h => ⟨⟨(hy x h).2.1, not_foot_nil⟩, ⟨(hy x h).2.2, not_foot_nil⟩, trivial⟩) rfl rfl).mono fun e w' h => ⟨h.1, h.2.quiet⟩
end Go.Proofs.YtpbiilgehbiacaaDoor
