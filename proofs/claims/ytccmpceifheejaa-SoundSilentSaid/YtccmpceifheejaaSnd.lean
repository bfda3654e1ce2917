/-
  The unit of sound over silent channels: awake, and the laws. (Printed by wip/s23/mk2.py.)
-/
import Derived.Test.YtccmpceifheejaaPsg
import Derived.Test.YtccmpceifheejaaRead
namespace Go.Proofs.Ytccmpceifheejaa
open Go.Vc
set_option linter.unusedVariables false
set_option linter.unusedSimpArgs false

section
variable {w0 : List Int} {n0 : Int} {w1 : List Int} {n1 mix dir : Int} {ma : Bool} {bias : Int} {out : List E38} {next now b : Int}
theorem Write_any2 {q nx nw b' : Int} {o : List E38} (hrun : cRun w0 n0 w1 n1 mix dir ma bias out next now b q = some (rRun nx nw b' o)) (r x : Int) (hr : r ≠ 2) (l0 : w0.length ≤ 32) (l1 : w1.length ≤ 32) :
    ∃ n0' n1' mix' dir' bias' w0' w1', cWrite w0 n0 w1 n1 mix dir ma bias out next now b q r x = some (rWrite n0' n1' mix' dir' ma bias' nx nw b' w0' w1' o) ∧ w0'.length ≤ 32 ∧ w1'.length ≤ 32 := by
  unfold cRun at hrun
  unfold cWrite f_Write
  rw [hrun, bind_some']
  by_cases h0 : r = 0
  · refine ⟨n0, n1, bits .and .u16 x 65399, dir, bias, w0, w1, ?_, l0, l1⟩
    show cond (r == 0) _ _ = _
    rw [ceq h0]
  by_cases h1 : r = 1
  · have key : ∀ y : Option O_Write, (∃ r, y = some r ∧ ∃ n0' n1' w0' w1', r = rWrite n0' n1' mix (bits .and .u16 x 30479) ma bias nx nw b' w0' w1' o ∧ w0'.length ≤ 32 ∧ w1'.length ≤ 32) → ∃ n0' n1' mix' dir' bias' w0' w1', y = some (rWrite n0' n1' mix' dir' ma bias' nx nw b' w0' w1' o) ∧ w0'.length ≤ 32 ∧ w1'.length ≤ 32 := by
      rintro y ⟨r, rfl, n0', n1', w0', w1', rfl, a, c⟩; exact ⟨n0', n1', _, _, _, w0', w1', rfl, a, c⟩
    refine key _ ?_
    show ∃ y, cond (r == 0) _ (cond (r == 1) _ _) = some y ∧ _
    rw [cne h0, ceq h1]
    refine loopO_ex _ (fun (n : Nat) (s : Int × Int × Int × List Int × List Int) => ∃ (i : Nat) (n0' n1' : Int) (w0' w1' : List Int), s = ((i : Int), n0', n1', w0', w1') ∧ n = 2 - i ∧ i ≤ 2 ∧ w0'.length ≤ 32 ∧ w1'.length ≤ 32) ?_ 2 _ ⟨0, n0, n1, w0, w1, rfl, rfl, by omega, l0, l1⟩
    rintro n s ⟨i, m0, m1, v0, v1, rfl, rfl, hi, q0, q1⟩
    obtain rfl | rfl | rfl : i = 0 ∨ i = 1 ∨ i = 2 := by omega
    · left
      cases hc : (bits .and .u16 (Int.fdiv x (2 ^ 11)) 1 == 1)
      · refine ⟨(1, m0, m1, v0, v1), 1, ?_, by omega, 1, m0, m1, v0, v1, rfl, rfl, by omega, q0, q1⟩
        show cond (bits .and .u16 (Int.fdiv x (2 ^ 11)) 1 == 1) _ _ = _
        rw [hc]; rfl
      · refine ⟨(1, 0, m1, [], v1), 1, ?_, by omega, 1, 0, m1, [], v1, rfl, rfl, by omega, by simp, q1⟩
        show cond (bits .and .u16 (Int.fdiv x (2 ^ 11)) 1 == 1) _ _ = _
        rw [hc]; rfl
    · left
      cases hc : (bits .and .u16 (Int.fdiv x (2 ^ 15)) 1 == 1)
      · refine ⟨(2, m0, m1, v0, v1), 0, ?_, by omega, 2, m0, m1, v0, v1, rfl, rfl, by omega, q0, q1⟩
        show cond (bits .and .u16 (Int.fdiv x (2 ^ 15)) 1 == 1) _ _ = _
        rw [hc]; rfl
      · refine ⟨(2, m0, 0, v0, []), 0, ?_, by omega, 2, m0, 0, v0, [], rfl, rfl, by omega, q0, by simp⟩
        show cond (bits .and .u16 (Int.fdiv x (2 ^ 15)) 1 == 1) _ _ = _
        rw [hc]; rfl
    · right
      exact ⟨_, rfl, m0, m1, v0, v1, rfl, q0, q1⟩
  by_cases h3 : r = 3
  · refine ⟨n0, n1, mix, dir, bits .and .u16 x 1022, w0, w1, ?_, l0, l1⟩
    show cond (r == 0) _ (cond (r == 1) _ (cond (r == 2) _ (cond (r == 3) _ _))) = _
    rw [cne h0, cne h1, cne hr, ceq h3]
  · refine ⟨n0, n1, mix, dir, bias, w0, w1, ?_, l0, l1⟩
    show cond (r == 0) _ (cond (r == 1) _ (cond (r == 2) _ (cond (r == 3) _ _))) = _
    rw [cne h0, cne h1, cne hr, cne h3]
theorem Write_bias {q nx nw b' : Int} {o : List E38} (hrun : cRun w0 n0 w1 n1 mix dir ma bias out next now b q = some (rRun nx nw b' o)) (x : Int) :
    cWrite w0 n0 w1 n1 mix dir ma bias out next now b q 3 x = some (rWrite n0 n1 mix dir ma (bits .and .u16 x 1022) nx nw b' w0 w1 o) := by
  unfold cRun at hrun
  unfold cWrite f_Write
  rw [hrun, bind_some']; rfl
theorem Write_on {q nx nw b' : Int} {o : List E38} (hrun : cRun w0 n0 w1 n1 mix dir ma bias out next now b q = some (rRun nx nw b' o)) :
    cWrite w0 n0 w1 n1 mix dir ma bias out next now b q 2 128 = some (rWrite n0 n1 mix dir true bias nx nw b' w0 w1 o) := by
  unfold cRun at hrun
  unfold cWrite f_Write
  rw [hrun, bind_some']; rfl
theorem Write_772 {q nx nw b' : Int} {o : List E38} (hrun : cRun w0 n0 w1 n1 mix dir ma bias out next now b q = some (rRun nx nw b' o)) :
    cWrite w0 n0 w1 n1 mix dir ma bias out next now b q 1 772 = some (rWrite n0 n1 mix 772 ma bias nx nw b' w0 w1 o) := by
  unfold cRun at hrun
  unfold cWrite f_Write
  rw [hrun, bind_some']
  exact loopO_for (fun i => ((i : Int), n0, n1, w0, w1)) 2 (fun i hi => by
    obtain rfl | rfl : i = 0 ∨ i = 1 := by omega
    all_goals rfl) rfl

/-! ### Feed -/
def fd (g : Int → Int) (x : Int) (w : List Int) (k : Nat) : List Int := if w.length < 32 then w ++ [g (Int.fdiv x (2 ^ (min (IntKind.wrap .i64 (8 * (k : Int))).toNat 32)))] else w
def fdL (g : Int → Int) (x : Int) (w : List Int) : Nat → List Int
  | 0 => w
  | k + 1 => fd g x (fdL g x w k) k
theorem fd_len {g : Int → Int} {x : Int} {w : List Int} {k : Nat} (h : w.length ≤ 32) : (fd g x w k).length ≤ 32 := by
  unfold fd; split
  · simp; omega
  · exact h
theorem fdL_len {g : Int → Int} {x : Int} {w : List Int} (h : w.length ≤ 32) : ∀ k, (fdL g x w k).length ≤ 32
  | 0 => h
  | k + 1 => fd_len (fdL_len h k)
theorem wrap8 (k : Nat) (hk : k < 4) : (decide (0 ≤ IntKind.wrap .i64 (8 * (k : Int)))) = true := by rw [wrap_i64 (by omega) (by omega)]; simp; omega
theorem Feed_0 (x : Int) (h : w0.length ≤ 32) : cFeed w0 n0 w1 n1 mix dir ma bias out next now b 0 x = some (fdL (IntKind.wrap .u8) x w0 4, w1) := by
  unfold cFeed f_Feed
  rw [cneg (by decide), cneg (by decide)]
  refine loopO_for (fun i => ((i : Int), fdL (IntKind.wrap .u8) x w0 i, w1)) 4 (fun i hi => ?_) rfl
  have hl := fdL_len (g := IntKind.wrap .u8) (x := x) h i
  show cond (decide ((i : Int) < 4)) (cond (decide (0 ≤ (0 : Int)) && decide ((0 : Int) < ((2 : Nat) : Int))) (cond ((0 : Int) == 0) _ _) _) _ = some (Sum.inl (((i + 1 : Nat) : Int), fd (IntKind.wrap .u8) x (fdL (IntKind.wrap .u8) x w0 i) i, w1))
  rw [cpos (by omega), cand (by decide) (by decide), ceq rfl, wrap_i64 (x := (i : Int) + 1) (by omega) (by omega)]
  unfold fd
  by_cases hc : (fdL (IntKind.wrap .u8) x w0 i).length < 32
  · rw [cpos (by omega), ctrue (wrap8 i hi), cpos (by simp; omega), if_pos hc]; rfl
  · rw [cneg (by omega), if_neg hc]; rfl
theorem Feed_1 (x : Int) (h : w1.length ≤ 32) : cFeed w0 n0 w1 n1 mix dir ma bias out next now b 1 x = some (w0, fdL (IntKind.wrap .u8) x w1 4) := by
  unfold cFeed f_Feed
  rw [cneg (by decide), cneg (by decide)]
  refine loopO_for (fun i => ((i : Int), w0, fdL (IntKind.wrap .u8) x w1 i)) 4 (fun i hi => ?_) rfl
  have hl := fdL_len (g := IntKind.wrap .u8) (x := x) h i
  show cond (decide ((i : Int) < 4)) (cond (decide (0 ≤ (1 : Int)) && decide ((1 : Int) < ((2 : Nat) : Int))) (cond ((1 : Int) == 0) _ _) _) _ = some (Sum.inl (((i + 1 : Nat) : Int), w0, fd (IntKind.wrap .u8) x (fdL (IntKind.wrap .u8) x w1 i) i))
  rw [cpos (by omega), cand (by decide) (by decide), cne (by decide), wrap_i64 (x := (i : Int) + 1) (by omega) (by omega)]
  unfold fd
  by_cases hc : (fdL (IntKind.wrap .u8) x w1 i).length < 32
  · rw [cpos (by omega), ctrue (wrap8 i hi), cpos (by simp; omega), if_pos hc]; rfl
  · rw [cneg (by omega), if_neg hc]; rfl
theorem Feed_any (i x : Int) (h : w0.length ≤ 32) (h' : w1.length ≤ 32) : ∃ w0' w1', cFeed w0 n0 w1 n1 mix dir ma bias out next now b i x = some (w0', w1') ∧ w0'.length ≤ 32 ∧ w1'.length ≤ 32 := by
  by_cases h0 : i = 0
  · subst h0; exact ⟨_, _, Feed_0 x h, fdL_len h 4, h'⟩
  by_cases h1 : i = 1
  · subst h1; exact ⟨_, _, Feed_1 x h', h, fdL_len h' 4⟩
  refine ⟨w0, w1, ?_, h, h'⟩
  unfold cFeed f_Feed
  by_cases h2 : i < 0
  · rw [cpos h2]
  · rw [cneg h2, cpos (by omega)]

/-! ### Over -/
theorem Over_off {q nx nw b' : Int} {o : List E38} (hrun : cRun w0 n0 w1 n1 mix dir false bias out next now b q = some (rRun nx nw b' o)) (t : Int) :
    cOver w0 n0 w1 n1 mix dir false bias out next now b q t = some (rOver 0 n0 n1 nx nw b' w0 w1 o) := by
  unfold cRun at hrun
  unfold cOver f_Over
  rw [hrun, bind_some']
  refine loopO_for (fun i => (0, (i : Int), n0, n1, w0, w1)) 2 (fun i hi => ?_) rfl
  obtain rfl | rfl : i = 0 ∨ i = 1 := by omega
  · cases hc : (IntKind.wrap .i64 (bits .and .u16 (Int.fdiv dir (2 ^ 10)) 1) != t)
    · show cond (IntKind.wrap .i64 (bits .and .u16 (Int.fdiv dir (2 ^ 10)) 1) != t) _ _ = _
      rw [hc]; rfl
    · show cond (IntKind.wrap .i64 (bits .and .u16 (Int.fdiv dir (2 ^ 10)) 1) != t) _ _ = _
      rw [hc]; rfl
  · cases hc : (IntKind.wrap .i64 (bits .and .u16 (Int.fdiv dir (2 ^ 14)) 1) != t)
    · show cond (IntKind.wrap .i64 (bits .and .u16 (Int.fdiv dir (2 ^ 14)) 1) != t) _ _ = _
      rw [hc]; rfl
    · show cond (IntKind.wrap .i64 (bits .and .u16 (Int.fdiv dir (2 ^ 14)) 1) != t) _ _ = _
      rw [hc]; rfl
/-- A byte is taken, or none. -/
theorem Over_any {q nx nw b' : Int} {o : List E38} (hrun : cRun w0 n0 w1 n1 mix 0 true bias out next now b q = some (rRun nx nw b' o)) (t : Int) (h : w0.length ≤ 32) (h' : w1.length ≤ 32) :
    ∃ hu n0' n1' w0' w1', cOver w0 n0 w1 n1 mix 0 true bias out next now b q t = some (rOver hu n0' n1' nx nw b' w0' w1' o) ∧ w0'.length ≤ 32 ∧ w1'.length ≤ 32 := by
  unfold cRun at hrun
  unfold cOver f_Over
  rw [hrun, bind_some']
  have key : ∀ y : Option O_Over, (∃ r, y = some r ∧ ∃ hu n0' n1' w0' w1', r = rOver hu n0' n1' nx nw b' w0' w1' o ∧ w0'.length ≤ 32 ∧ w1'.length ≤ 32) → ∃ hu n0' n1' w0' w1', y = some (rOver hu n0' n1' nx nw b' w0' w1' o) ∧ w0'.length ≤ 32 ∧ w1'.length ≤ 32 := by
    rintro y ⟨r, rfl, hu, n0', n1', w0', w1', rfl, a, c⟩; exact ⟨hu, n0', n1', w0', w1', rfl, a, c⟩
  refine key _ ?_
  refine loopO_ex _ (fun (n : Nat) (s : Int × Int × Int × Int × List Int × List Int) => ∃ (i : Nat) (hu n0' n1' : Int) (w0' w1' : List Int), s = (hu, (i : Int), n0', n1', w0', w1') ∧ n = 2 - i ∧ i ≤ 2 ∧ w0'.length ≤ 32 ∧ w1'.length ≤ 32) ?_ 2 _ ⟨0, 0, n0, n1, w0, w1, rfl, rfl, by omega, h, h'⟩
  rintro n s ⟨i, hu, m0, m1, v0, v1, rfl, rfl, hi, hv0, hv1⟩
  obtain rfl | rfl | rfl : i = 0 ∨ i = 1 ∨ i = 2 := by omega
  · left
    by_cases ht : (0 : Int) = t
    · by_cases hp : ((v0.length : Nat) : Int) > 0
      · by_cases h16 : ((v0.length - 1 : Nat) : Int) ≤ 16
        · refine ⟨(bits .or .i64 hu 1, 1, IntKind.wrap .i64 (IntKind.wrap .i8 (ixL v0 0)), m1, (v0.drop 1).take (v0.length - 1), v1), 1, ?_, by omega, 1, bits .or .i64 hu 1, _, m1, _, v1, rfl, rfl, by omega, by simp; omega, hv1⟩
          show cond ((0 : Int) != t) _ (cond (decide (((v0.length : Nat) : Int) > 0)) _ _) = _
          rw [cbeq ht, cpos hp, cand (by omega) (by omega), cand (by omega) (by omega), cand (by omega) (by omega), cpos h16]; rfl
        · refine ⟨(hu, 1, IntKind.wrap .i64 (IntKind.wrap .i8 (ixL v0 0)), m1, (v0.drop 1).take (v0.length - 1), v1), 1, ?_, by omega, 1, hu, _, m1, _, v1, rfl, rfl, by omega, by simp; omega, hv1⟩
          show cond ((0 : Int) != t) _ (cond (decide (((v0.length : Nat) : Int) > 0)) _ _) = _
          rw [cbeq ht, cpos hp, cand (by omega) (by omega), cand (by omega) (by omega), cand (by omega) (by omega), cneg h16]; rfl
      · refine ⟨(bits .or .i64 hu 1, 1, m0, m1, v0, v1), 1, ?_, by omega, 1, _, m0, m1, v0, v1, rfl, rfl, by omega, hv0, hv1⟩
        show cond ((0 : Int) != t) _ (cond (decide (((v0.length : Nat) : Int) > 0)) _ _) = _
        rw [cbeq ht, cneg hp, cpos (by omega)]; rfl
    · refine ⟨(hu, 1, m0, m1, v0, v1), 1, ?_, by omega, 1, hu, m0, m1, v0, v1, rfl, rfl, by omega, hv0, hv1⟩
      show cond ((0 : Int) != t) _ _ = _
      rw [cbne ht]; rfl
  · left
    by_cases ht : (0 : Int) = t
    · by_cases hp : ((v1.length : Nat) : Int) > 0
      · by_cases h16 : ((v1.length - 1 : Nat) : Int) ≤ 16
        · refine ⟨(bits .or .i64 hu 2, 2, m0, IntKind.wrap .i64 (IntKind.wrap .i8 (ixL v1 0)), v0, (v1.drop 1).take (v1.length - 1)), 0, ?_, by omega, 2, bits .or .i64 hu 2, m0, _, v0, _, rfl, rfl, by omega, hv0, by simp; omega⟩
          show cond ((0 : Int) != t) _ (cond (decide (((v1.length : Nat) : Int) > 0)) _ _) = _
          rw [cbeq ht, cpos hp, cand (by omega) (by omega), cand (by omega) (by omega), cand (by omega) (by omega), cpos h16]; rfl
        · refine ⟨(hu, 2, m0, IntKind.wrap .i64 (IntKind.wrap .i8 (ixL v1 0)), v0, (v1.drop 1).take (v1.length - 1)), 0, ?_, by omega, 2, hu, m0, _, v0, _, rfl, rfl, by omega, hv0, by simp; omega⟩
          show cond ((0 : Int) != t) _ (cond (decide (((v1.length : Nat) : Int) > 0)) _ _) = _
          rw [cbeq ht, cpos hp, cand (by omega) (by omega), cand (by omega) (by omega), cand (by omega) (by omega), cneg h16]; rfl
      · refine ⟨(bits .or .i64 hu 2, 2, m0, m1, v0, v1), 0, ?_, by omega, 2, _, m0, m1, v0, v1, rfl, rfl, by omega, hv0, hv1⟩
        show cond ((0 : Int) != t) _ (cond (decide (((v1.length : Nat) : Int) > 0)) _ _) = _
        rw [cbeq ht, cneg hp, cpos (by omega)]; rfl
    · refine ⟨(hu, 2, m0, m1, v0, v1), 0, ?_, by omega, 2, hu, m0, m1, v0, v1, rfl, rfl, by omega, hv0, hv1⟩
      show cond ((0 : Int) != t) _ _ = _
      rw [cbne ht]; rfl
  · right
    exact ⟨_, rfl, hu, m0, m1, v0, v1, rfl, hv0, hv1⟩
theorem Over_772 {q nx nw b' : Int} {o : List E38} {x : Int} {l : List Int} (hrun : cRun (x :: l) n0 [] n1 mix 772 true bias out next now b q = some (rRun nx nw b' o)) (hl : l.length ≤ 32) :
    cOver (x :: l) n0 [] n1 mix 772 true bias out next now b q 0 = some (rOver (if l.length ≤ 16 then 3 else 2) (IntKind.wrap .i64 (IntKind.wrap .i8 x)) n1 nx nw b' l [] o) := by
  unfold cRun at hrun
  unfold cOver f_Over
  rw [hrun, bind_some']
  have ht : ((x :: l).drop 1).take ((x :: l).length - 1) = l := by simp
  by_cases h16 : l.length ≤ 16
  · rw [if_pos h16]
    refine loopO_for (fun i => match i with | 0 => ((0 : Int), (0 : Int), n0, n1, x :: l, ([] : List Int)) | 1 => (1, 1, IntKind.wrap .i64 (IntKind.wrap .i8 x), n1, l, []) | _ => (3, 2, IntKind.wrap .i64 (IntKind.wrap .i8 x), n1, l, [])) 2 (fun i hi => ?_) ?_
    · obtain rfl | rfl : i = 0 ∨ i = 1 := by omega
      · show cond (decide ((((x :: l).length : Nat) : Int) > 0)) _ _ = some (Sum.inl ((1 : Int), (1 : Int), IntKind.wrap .i64 (IntKind.wrap .i8 x), n1, l, ([] : List Int)))
        have hx : (x :: l).length = l.length + 1 := rfl
        rw [cpos (by omega), cand (by omega) (by omega), cand (by omega) (by omega), cand (by omega) (by omega), ht, cpos (by omega)]; rfl
      · rfl
    · rfl
  · rw [if_neg h16]
    refine loopO_for (fun i => match i with | 0 => ((0 : Int), (0 : Int), n0, n1, x :: l, ([] : List Int)) | 1 => (0, 1, IntKind.wrap .i64 (IntKind.wrap .i8 x), n1, l, []) | _ => (2, 2, IntKind.wrap .i64 (IntKind.wrap .i8 x), n1, l, [])) 2 (fun i hi => ?_) ?_
    · obtain rfl | rfl : i = 0 ∨ i = 1 := by omega
      · show cond (decide ((((x :: l).length : Nat) : Int) > 0)) _ _ = some (Sum.inl ((0 : Int), (1 : Int), IntKind.wrap .i64 (IntKind.wrap .i8 x), n1, l, ([] : List Int)))
        have hx : (x :: l).length = l.length + 1 := rfl
        rw [cpos (by omega), cand (by omega) (by omega), cand (by omega) (by omega), cand (by omega) (by omega), ht, cneg (by omega)]; rfl
      · rfl
    · rfl
theorem Take_eq {q nx nw b' : Int} {o : List E38} (hrun : cRun w0 n0 w1 n1 mix dir ma bias out next now b q = some (rRun nx nw b' o)) : cTake w0 n0 w1 n1 mix dir ma bias out next now b q = some (rTake nx nw b' o) := by
  unfold cRun at hrun
  unfold cTake f_Take
  rw [hrun, bind_some']
end

/-! ### awake -/
theorem ex_run {w0 : List Int} {n0 : Int} {w1 : List Int} {n1 mix dir : Int} {ma : Bool} {bias next now b q : Int} (out : List E38) (h0 : 0 ≤ now) (h1 : now ≤ 1000000000000) (hn : now ≤ next ∧ next ≤ 1000000000000) (hq : q < next) (hl : out.length ≤ 1000000000000) :
    ∃ b', cRun w0 n0 w1 n1 mix dir ma bias out next now b q = some (rRun next (if now < q then q else now) b' out) := by
  obtain ⟨b2, hp⟩ := pRun_eq (now := now) (q := q) b (by omega) (by omega) (by omega)
  refine ⟨b2, ?_⟩
  unfold cRun f_Run
  rw [loopO_eq]
  have e : ∀ y : Option O_Run, (y.bind fun z => some (Sum.inr z : O_Run ⊕ O_Run)) = (y.bind fun z => some (Sum.inr z)) := fun _ => rfl
  show (cond (decide (next ≤ q)) _ ((cPRun now b q).bind _)).bind _ = _
  rw [cneg (by omega), hp, bind_some', bind_some']
theorem new0 : cRun [] 0 [] 0 0 0 false 512 [] 512 0 0 0 = some (rRun 512 0 0 []) := by
  unfold cRun f_Run
  rw [loopO_eq]
  have hp : cPRun 0 0 0 = some (rz 0 0) := by
    unfold cPRun f_pRun; rw [loopO_eq]; rfl
  show (cond (decide ((512 : Int) ≤ 0)) _ ((cPRun 0 0 0).bind _)).bind _ = _
  rw [cneg (by decide), hp, bind_some', bind_some']
theorem awake_eq : f_awake = some true := by
  unfold f_awake
  show ((f_New).bind _) = _
  rw [show f_New = some () from rfl, bind_some']
  show ((cWrite [] 0 [] 0 0 0 false 512 [] 512 0 0 0 2 128).bind _) = _
  rw [Write_on new0, bind_some']
  obtain ⟨b1, r1⟩ := ex_run (w0 := []) (n0 := 0) (w1 := []) (n1 := 0) (mix := 0) (dir := 0) (ma := true) (bias := 512) (next := 512) (now := 0) (b := 0) (q := 0) [] (by decide) (by decide) (by decide) (by decide) (by decide)
  show ((cWrite [] 0 [] 0 0 0 true 512 [] 512 0 0 0 1 772).bind _) = _
  rw [Write_772 r1, bind_some']
  show ((cFeed [] 0 [] 0 0 772 true 512 [] 512 0 b1 0 16).bind _) = _
  have hf : cFeed [] 0 [] 0 0 772 true 512 [] 512 0 b1 0 16 = some ([16, 0, 0, 0], []) := by rw [Feed_0 16 (by decide)]; rfl
  rw [hf, bind_some']
  obtain ⟨b2, r2⟩ := ex_run (w0 := [16, 0, 0, 0]) (n0 := 0) (w1 := []) (n1 := 0) (mix := 0) (dir := 772) (ma := true) (bias := 512) (next := 512) (now := 0) (b := b1) (q := 0) [] (by decide) (by decide) (by decide) (by decide) (by decide)
  show ((cOver [16, 0, 0, 0] 0 [] 0 0 772 true 512 [] 512 0 b1 0 0).bind _) = _
  rw [Over_772 r2 (by decide), bind_some']
  obtain ⟨b3, r3⟩ := Run_eq (w0 := [0, 0, 0]) (n0 := 16) (w1 := []) (n1 := 0) (mix := 0) (dir := 772) (ma := true) (bias := 512) (out := []) (next := 512) (now := 0) (b := b2) (v := 2048) (q := 512) (fun out next now b k hk => side_loud _ 16 _ _ _ _ _ _ (by decide) (by decide) k hk) (by decide) (by decide) (by decide) (by decide) (by decide)
  show ((cTake [0, 0, 0] 16 [] 0 0 772 true 512 [] 512 0 b2 512).bind _) = _
  rw [Take_eq r3, bind_some']
  rfl
theorem SoundNone_eq (a b c d : Int) : f_SoundNone a b c d = some true := by
  unfold f_SoundNone
  rw [awake_eq]
  rfl
end Go.Proofs.Ytccmpceifheejaa
