/-
  A buffer that is nil.
-/
import Derived.Test.YtiipgdankpgcoaaBuf
import Derived.Test.YtiipgdankpgcoaaRead
namespace Go.Proofs.Ytiipgdankpgcoaa
open Go.Vc
set_option linter.unusedVariables false

theorem cells3 : Try.prog.cellsOf 3 = 1 := by kernel_rfl
theorem cells26 : Try.prog.cellsOf 26 = 1 := by kernel_rfl
theorem cells31 : Try.prog.cellsOf 31 = 6 := by kernel_rfl

theorem call_cells {w : World} {l : List Value} (h : ∃ n, Rd Try.prog w n 31 l) : ∃ a b c d e f : Int, l = [.int .i64 a, .int .u32 b, .int .i64 c, .int .i64 d, .int .i64 e, .int .i64 f] := by
  obtain ⟨n, h⟩ := h
  obtain ⟨hl, m, hf⟩ := Rd.struct Try.underlying31 h
  rw [cells31] at hl
  match l, hl with
  | [c0, c1, c2, c3, c4, c5], _ =>
    obtain ⟨x0, e0, _⟩ := Rd.int Try.underlying3 (hf 0 _ rfl)
    obtain ⟨x1, e1, _⟩ := Rd.int Try.underlying26 (hf 1 _ rfl)
    obtain ⟨x2, e2, _⟩ := Rd.int Try.underlying3 (hf 2 _ rfl)
    obtain ⟨x3, e3, _⟩ := Rd.int Try.underlying3 (hf 3 _ rfl)
    obtain ⟨x4, e4, _⟩ := Rd.int Try.underlying3 (hf 4 _ rfl)
    obtain ⟨x5, e5, _⟩ := Rd.int Try.underlying3 (hf 5 _ rfl)
    simp [cells3] at e0 e2 e3 e4 e5
    simp [cells26] at e1
    exact ⟨x0, x1, x2, x3, x4, x5, by simp [e0, e1, e2, e3, e4, e5]⟩

theorem restN_ok (w : World) (c s : Int) : Calls Try.prog n_RestN #[.pointer none, .int .i64 c, .int .i64 s] w fun e w' => e = .returned (.tuple #[]) ∧ w' = w := by
  apply c_RestN; exact ⟨rfl, rfl⟩
theorem dropN_ok (w : World) : Calls Try.prog n_DropN #[.pointer none] w fun e w' => e = .returned (.tuple #[]) ∧ w' = w := by
  apply c_DropN; exact ⟨rfl, rfl⟩
theorem keptN_ok (w : World) : Calls Try.prog n_KeptN #[.pointer none] w fun e w' => e = .returned (.tuple #[.int .u32 0, .int .i64 0]) ∧ w' = w := by
  apply c_KeptN; exact ⟨rfl, rfl⟩
theorem fetchN_ok (w : World) (a b c d : Int) : Calls Try.prog n_FetchN #[.pointer none, .int .u32 a, .int .i64 b, .int .i64 c, .int .i64 d] w fun e w' => e = .returned (.int .i64 0) ∧ w' = w := by
  apply c_FetchN; exact ⟨rfl, rfl⟩

theorem law_AheadNone (w : World) (l0 : List Value) (w0 : ∃ n, Rd Try.prog w n 31 l0) :
    Calls Try.prog n_AheadNone #[.agg l0.toArray] w fun e w' => e = .returned (.bool true) ∧ Chg (fun _ => False) w w' := by
  obtain ⟨x0, x1, x2, x3, x4, x5, rfl⟩ := call_cells w0
  apply c_AheadNone
  unfold p_AheadNone
  refine Nw_blk (cs := [_, _, _, _, _, _]) fun w1 h1 c1 s1 => ?_
  refine (awake_ok w1).mono fun e w2 ⟨he, c2⟩ => ⟨_, he, cnd (fun h => by cases h) (fun _ => ?_)⟩
  have h2 := h1.keep c2 (fun h => h)
  refine ⟨_, h2.cell 2, _, h2.cell 5, ?_⟩
  refine (restN_ok w2 _ _).mono fun e w3 ⟨he, hw⟩ => ⟨he, ?_⟩
  subst hw
  refine (dropN_ok w3).mono fun e w4 ⟨he, hw⟩ => ⟨he, ?_⟩
  subst hw
  refine (keptN_ok w4).mono fun e w5 ⟨he, hw⟩ => ⟨_, _, he, ?_⟩
  subst hw
  refine ⟨_, h2.cell 1, _, h2.cell 3, _, h2.cell 4, _, h2.cell 5, ?_⟩
  refine (fetchN_ok w5 _ _ _ _).mono fun e w6 ⟨he, hw⟩ => ⟨_, he, ?_⟩
  subst hw
  exact cnd (fun _ => cnd (fun _ => ⟨rfl, c1.then c2 fun _ _ h => h⟩) (fun h => by cases h)) (fun h => by cases h)

end Go.Proofs.Ytiipgdankpgcoaa
