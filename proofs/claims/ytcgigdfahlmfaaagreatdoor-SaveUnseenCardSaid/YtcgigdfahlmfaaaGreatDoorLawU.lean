/-
  SaveUnseen: the law.
-/
import Derived.Test.YtcgigdfahlmfaaaGreatDoorUnZ
import Derived.Test.YtcgigdfahlmfaaaGreatDoorRead
namespace Go.Proofs.YtcgigdfahlmfaaaGreatDoor
open Go.Vc
set_option linter.unusedVariables false
theorem rds_cap {P : Program} {w : World} {e : TypeId} {p : Option Addr} {n c : Nat} (h : Rds P w e p n c) : n ≤ maxLen := by
  rcases h with ⟨rfl, rfl, rfl⟩ | ⟨a, m, rfl, hn, hc, he⟩
  · exact Nat.zero_le _
  · omega
theorem Rd.slice {P : Program} {w : World} {n : Nat} {t e : TypeId} {cs : List Value} (hu : P.underlying t = some (.slice e)) (h : Rd P w n t cs) : ∃ p l c, cs = [.slice p l c] ∧ Rds P w e p l c := by
  cases n with
  | zero => exact h.elim
  | succ n =>
    unfold Rd at h
    rw [hu] at h
    rcases h with rfl | ⟨a, l, c, rfl, h2, h3, h4⟩
    · exact ⟨none, 0, 0, rfl, .inl ⟨rfl, rfl, rfl⟩⟩
    · exact ⟨some a, l, c, rfl, .inr ⟨a, n, rfl, h2, h3, h4⟩⟩
theorem list5 {cs : List Value} {a b c d e : Value} (h : cs.length = 5) (h0 : cs[0]? = some a) (h1 : cs[1]? = some b) (h2 : cs[2]? = some c) (h3 : cs[3]? = some d) (h4 : cs[4]? = some e) : cs = [a, b, c, d, e] := by
  match cs, h with
  | [x, y, z, w, v], _ => simp at h0 h1 h2 h3 h4; rw [h0, h1, h2, h3, h4]
set_option maxRecDepth 100000 in
theorem ro_pick {w : World} {p : Option Addr} {n c : Nat} (h : Rds Tryz.prog w 113 p n c) :
    ∃ xs : List E113, n = xs.length ∧ RoAt el113 w p c xs ∧ ∀ x ∈ xs, True :=
  ro_of h (by first | rfl | kernel_rfl) _ fun cs m hc => by
    obtain ⟨hl, m', hf⟩ := Rd.struct Tryz.underlying113 hc
    have f0 := hf 0 _ rfl
    have f1 := hf 1 _ rfl
    obtain ⟨x0, e0, w0⟩ := Rd.int (k := .i64) (by first | rfl | kernel_rfl) f0
    obtain ⟨x1, e1, w1⟩ := Rd.int (k := .i64) (by first | rfl | kernel_rfl) f1
    exact ⟨⟨x0, x1⟩, list2 (hl.trans (by first | rfl | kernel_rfl)) (one_at (o := 0) (by first | rfl | kernel_rfl) e0) (one_at (o := 1) (by first | rfl | kernel_rfl) e1), trivial⟩
set_option maxRecDepth 100000 in
theorem ro_call {w : World} {p : Option Addr} {n c : Nat} (h : Rds Tryz.prog w 35 p n c) :
    ∃ xs : List E35, n = xs.length ∧ RoAt el35 w p c xs ∧ ∀ x ∈ xs, okU x ∧ RoAt el113 w x.Picks_p x.Picks_c x.Picks :=
  ro_of h (by first | rfl | kernel_rfl) _ fun cs m hc => by
    obtain ⟨hl, m', hf⟩ := Rd.struct Tryz.underlying35 hc
    have f0 := hf 0 _ rfl
    have f1 := hf 1 _ rfl
    have f2 := hf 2 _ rfl
    have f3 := hf 3 _ rfl
    have f4 := hf 4 _ rfl
    obtain ⟨x0, e0, w0⟩ := Rd.int (k := .i64) (by first | rfl | kernel_rfl) f0
    obtain ⟨x1, e1, w1⟩ := Rd.int (k := .u32) (by first | rfl | kernel_rfl) f1
    obtain ⟨x2, e2, w2⟩ := Rd.int (k := .u8) (by first | rfl | kernel_rfl) f2
    obtain ⟨x3, e3, w3⟩ := Rd.int (k := .i64) (by first | rfl | kernel_rfl) f3
    obtain ⟨p4, l4, c4, e4, w4⟩ := Rd.slice (e := 113) (by first | rfl | kernel_rfl) f4
    have hm4 := rds_cap w4
    unfold maxLen at hm4
    obtain ⟨ps, rfl, hr4, _⟩ := ro_pick w4
    exact ⟨⟨x0, x1, x2, x3, ps, p4, c4⟩, list5 (hl.trans (by first | rfl | kernel_rfl)) (one_at (o := 0) (by first | rfl | kernel_rfl) e0) (one_at (o := 1) (by first | rfl | kernel_rfl) e1) (one_at (o := 2) (by first | rfl | kernel_rfl) e2) (one_at (o := 3) (by first | rfl | kernel_rfl) e3) (one_at (o := 4) (by first | rfl | kernel_rfl) e4),
      ⟨⟨wf_u32 w1, wf_u8 w2⟩, (wf_i64 w3).2, Nat.le_trans hm4 (by decide)⟩, hr4⟩
theorem law_SaveUnseen (w : World) (a0 : Int) (w0 : (Lit.int .i64 a0).wf = true) (a1 : Int) (w1 : (Lit.int .i64 a1).wf = true) (a2 : Option Addr) (n2 c2 : Nat) (w2 : Rds Tryz.prog w 35 a2 n2 c2) :
    Calls Tryz.prog 5 #[.int .i64 a0, .int .i64 a1, .slice a2 n2 c2] w fun e w' => e = .returned (.bool true) ∧ Chg (fun _ => False) w w' := by
  obtain ⟨xs, rfl, hr, hx⟩ := ro_call w2
  exact (t_SaveUnseen (SaveUnseen_eq a0 a1 xs fun x h => (hx x h).1) trivial hr not_foot_nil (fun x h => ⟨⟨(hx x h).2, not_foot_nil⟩, trivial⟩) rfl).mono fun e w' h => ⟨h.1, h.2.quiet⟩
end Go.Proofs.YtcgigdfahlmfaaaGreatDoor
