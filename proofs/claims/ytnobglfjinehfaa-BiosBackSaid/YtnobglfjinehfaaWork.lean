/-
  How a Work reads; BiosCopies: the law.
-/
import Derived.Test.YtnobglfjinehfaaBioD
import Derived.Test.YtnobglfjinehfaaRo
namespace Go.Proofs.Ytnobglfjinehfaa
open Go.Vc
set_option linter.unusedVariables false
theorem list7 {cs : List Value} {a b c d e f g : Value} (h : cs.length = 7) (h0 : cs[0]? = some a) (h1 : cs[1]? = some b) (h2 : cs[2]? = some c) (h3 : cs[3]? = some d) (h4 : cs[4]? = some e) (h5 : cs[5]? = some f) (h6 : cs[6]? = some g) : cs = [a, b, c, d, e, f, g] := by
  match cs, h with
  | [x, y, z, w, v, u, t], _ => simp at h0 h1 h2 h3 h4 h5 h6; rw [h0, h1, h2, h3, h4, h5, h6]
theorem work_of {w : World} {l : List Value} (h : ∃ n, Rd Try.prog w n 25 l) :
    ∃ (p : Option Addr) (k : Nat) (xs : List Int) (a b c : Int) (d : Bool) (e f : Int), l = [.slice p xs.length k, .int .u32 a, .int .u32 b, .int .u32 c, .bool d, .int .i64 e, .int .u32 f] ∧
      RoAt (elI .u8) w p k xs ∧ okB xs ∧ (0 ≤ a ∧ a < 4294967296) ∧ (0 ≤ b ∧ b < 4294967296) ∧ (0 ≤ c ∧ c < 4294967296) ∧ (-9223372036854775808 ≤ e ∧ e ≤ 9223372036854775807) ∧ (0 ≤ f ∧ f < 4294967296) := by
  obtain ⟨n, hc⟩ := h
  obtain ⟨hl, m', hf⟩ := Rd.struct Try.underlying25 hc
  have f0 := hf 0 _ rfl
  have f1 := hf 1 _ rfl
  have f2 := hf 2 _ rfl
  have f3 := hf 3 _ rfl
  have f4 := hf 4 _ rfl
  have f5 := hf 5 _ rfl
  have f6 := hf 6 _ rfl
  obtain ⟨p, n0, k, e0, w0⟩ := Rd.slice (e := 5) (by first | rfl | kernel_rfl) f0
  obtain ⟨x1, e1, w1⟩ := Rd.int (k := .u32) (by first | rfl | kernel_rfl) f1
  obtain ⟨x2, e2, w2⟩ := Rd.int (k := .u32) (by first | rfl | kernel_rfl) f2
  obtain ⟨x3, e3, w3⟩ := Rd.int (k := .u32) (by first | rfl | kernel_rfl) f3
  obtain ⟨x4, e4⟩ := Rd.bool (by first | rfl | kernel_rfl) f4
  obtain ⟨x5, e5, w5⟩ := Rd.int (k := .i64) (by first | rfl | kernel_rfl) f5
  obtain ⟨x6, e6, w6⟩ := Rd.int (k := .u32) (by first | rfl | kernel_rfl) f6
  obtain ⟨xs, rfl, hr, hx⟩ := ro_int (k := .u8) w0 (by first | rfl | kernel_rfl) (by first | rfl | kernel_rfl)
  have h7 := list7 (hl.trans (show Try.prog.cellsOf 25 = 7 by first | rfl | kernel_rfl)) (one_at (o := 0) (by first | rfl | kernel_rfl) e0) (one_at (o := 1) (by first | rfl | kernel_rfl) e1) (one_at (o := 2) (by first | rfl | kernel_rfl) e2) (one_at (o := 3) (by first | rfl | kernel_rfl) e3) (one_at (o := 4) (by first | rfl | kernel_rfl) e4) (one_at (o := 5) (by first | rfl | kernel_rfl) e5) (one_at (o := 6) (by first | rfl | kernel_rfl) e6)
  exact ⟨p, k, xs, x1, x2, x3, x4, x5, x6, h7, hr, fun x h => wf_u8 (hx x h), wf_u32 w1, wf_u32 w2, wf_u32 w3, wf_i64 w5, wf_u32 w6⟩
theorem law_BiosCopies (w : World) (l0 : List Value) (w0 : ∃ n, Rd Try.prog w n 25 l0) :
    Calls Try.prog 6 #[.agg l0.toArray] w fun e w' => e = .returned (.bool true) ∧ Chg (fun _ => False) w w' := by
  obtain ⟨p, k, xs, a, b, c, d, e, f, rfl, hr, hok, ha, hb, hc, he, hf⟩ := work_of w0
  exact (t_BiosCopies (BiosCopies_eq xs a b c d e f ha hb hc) trivial hr not_foot_nil rfl).mono fun e w' h => ⟨h.1, h.2.quiet⟩
end Go.Proofs.Ytnobglfjinehfaa
