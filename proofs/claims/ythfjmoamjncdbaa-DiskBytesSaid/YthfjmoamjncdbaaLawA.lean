/-
  DiskNone, DiskRuns: the laws.
-/
import Derived.Test.YthfjmoamjncdbaaDiskRuns
namespace Go.Proofs.Ythfjmoamjncdbaa
open Go.Vc
set_option linter.unusedVariables false

theorem ro_pick {w : World} {p : Option Addr} {n c : Nat} (h : Rds Try.prog w 44 p n c) :
    ∃ xs : List E44, n = xs.length ∧ RoAt el44 w p c xs ∧ ∀ x ∈ xs, True :=
  ro_of h (by first | rfl | kernel_rfl) _ fun cs m hc => by
    obtain ⟨hl, m', hf⟩ := Rd.struct Try.underlying44 hc
    have f0 := hf 0 _ rfl
    have f1 := hf 1 _ rfl
    obtain ⟨x0, e0, w0⟩ := Rd.int (k := .i64) (by first | rfl | kernel_rfl) f0
    obtain ⟨x1, e1, w1⟩ := Rd.int (k := .i64) (by first | rfl | kernel_rfl) f1
    exact ⟨⟨x0, x1⟩, list2 (hl.trans (by first | rfl | kernel_rfl)) (one_at (o := 0) (by first | rfl | kernel_rfl) e0) (one_at (o := 1) (by first | rfl | kernel_rfl) e1), trivial⟩
theorem list5 {cs : List Value} {a b c d e : Value} (h : cs.length = 5) (h0 : cs[0]? = some a) (h1 : cs[1]? = some b) (h2 : cs[2]? = some c) (h3 : cs[3]? = some d) (h4 : cs[4]? = some e) : cs = [a, b, c, d, e] := by
  match cs, h with
  | [x, y, z, w, v], _ => simp at h0 h1 h2 h3 h4; rw [h0, h1, h2, h3, h4]
theorem rds_cap {P : Program} {w : World} {e : TypeId} {p : Option Addr} {n c : Nat} (h : Rds P w e p n c) : n ≤ maxLen := by
  rcases h with ⟨rfl, rfl, rfl⟩ | ⟨a, m, rfl, hn, hc, he⟩
  · exact Nat.zero_le _
  · omega
theorem Rd.slice {P : Program} {w : World} {n : Nat} {t e : TypeId} {cs : List Value} (hu : P.underlying t = some (.slice e)) (h : Rd P w n t cs) : ∃ p l c, cs = [.slice p l c] ∧ Rds P w e p l c := by
  cases n with
  | zero => exact h.elim
  | succ n =>
    unfold Rd at h
    rw [hu] at h
    rcases h with rfl | ⟨a, l, c, rfl, h2, h3, h4⟩
    · exact ⟨none, 0, 0, rfl, .inl ⟨rfl, rfl, rfl⟩⟩
    · exact ⟨some a, l, c, rfl, .inr ⟨a, n, rfl, h2, h3, h4⟩⟩
theorem ro_call {w : World} {p : Option Addr} {n c : Nat} (h : Rds Try.prog w 52 p n c) :
    ∃ xs : List E52, n = xs.length ∧ RoAt el52 w p c xs ∧ ∀ x ∈ xs, ((-9223372036854775808 ≤ x.N ∧ x.N ≤ 9223372036854775807) ∧ x.Picks.length ≤ 9223372036854775807) ∧ RoAt el44 w x.Picks_p x.Picks_c x.Picks :=
  ro_of h (by first | rfl | kernel_rfl) _ fun cs m hc => by
    obtain ⟨hl, m', hf⟩ := Rd.struct Try.underlying52 hc
    have f0 := hf 0 _ rfl
    have f1 := hf 1 _ rfl
    have f2 := hf 2 _ rfl
    have f3 := hf 3 _ rfl
    have f4 := hf 4 _ rfl
    obtain ⟨x0, e0, w0⟩ := Rd.int (k := .i64) (by first | rfl | kernel_rfl) f0
    obtain ⟨x1, e1, w1⟩ := Rd.int (k := .i64) (by first | rfl | kernel_rfl) f1
    obtain ⟨x2, e2, w2⟩ := Rd.str (by first | rfl | kernel_rfl) f2
    obtain ⟨x3, e3, w3⟩ := Rd.int (k := .i64) (by first | rfl | kernel_rfl) f3
    obtain ⟨q, l, k, e4, w4⟩ := Rd.slice (e := 44) (by first | rfl | kernel_rfl) f4
    obtain ⟨ps, rfl, hr, _⟩ := ro_pick w4
    have hm := rds_cap w4
    exact ⟨⟨x0, x1, x2, x3, ps, q, k⟩, list5 (hl.trans (by first | rfl | kernel_rfl)) (one_at (o := 0) (by first | rfl | kernel_rfl) e0) (one_at (o := 1) (by first | rfl | kernel_rfl) e1) (one_at (o := 2) (by first | rfl | kernel_rfl) e2) (one_at (o := 3) (by first | rfl | kernel_rfl) e3) (one_at (o := 4) (by first | rfl | kernel_rfl) e4),
      ⟨wf_i64 w3, by unfold maxLen at hm; exact hm⟩, hr⟩

theorem law_DiskNone (w : World) (a0 : Int) (w0 : (Lit.int .i64 a0).wf = true) (a1 : ByteArray) (w1 : a1.size ≤ 140737488351232) (a2 : Option Addr) (n2 c2 : Nat) (w2 : Rds Try.prog w 44 a2 n2 c2) (b2 : n2 * 16 ≤ 140737488351232) :
    Calls Try.prog n_DiskNone #[.int .i64 a0, .string a1, .slice a2 n2 c2] w fun e w' => e = .returned (.bool true) ∧ Chg (fun _ => False) w w' := by
  obtain ⟨xs, rfl, hr, hx⟩ := ro_pick w2
  exact (t_DiskNone (DiskNone_eq a0 a1 xs) trivial hr not_foot_nil rfl).mono fun e w' h => ⟨h.1, h.2.quiet⟩
theorem law_DiskRuns (w : World) (a0 : Int) (w0 : (Lit.int .i64 a0).wf = true) (a1 : Option Addr) (n1 c1 : Nat) (w1 : Rds Try.prog w 52 a1 n1 c1) (b1 : n1 * 64 ≤ 140737488351232) :
    Calls Try.prog n_DiskRuns #[.int .i64 a0, .slice a1 n1 c1] w fun e w' => e = .returned (.bool true) ∧ Chg (fun _ => False) w w' := by
  obtain ⟨xs, rfl, hr, hx⟩ := ro_call w1
  exact (t_DiskRuns (DiskRuns_eq a0 xs (by omega) fun x h => (hx x h).1) trivial hr not_foot_nil (fun x h => ⟨⟨(hx x h).2, not_foot_nil⟩, trivial⟩) rfl).mono fun e w' h => ⟨h.1, h.2.quiet⟩
end Go.Proofs.Ythfjmoamjncdbaa
