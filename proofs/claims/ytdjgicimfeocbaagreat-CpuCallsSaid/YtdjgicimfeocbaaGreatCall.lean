/-
  CpuCalls: the handlers, and the nine steps.
-/
import Derived.Test.YtdjgicimfeocbaaGreatAwC
import Derived.Test.YtdjgicimfeocbaaGreatStart
import Derived.Laws.BitsAllLaws
namespace Go.Proofs.YtdjgicimfeocbaaGreat
open Go.Vc
set_option linter.unusedVariables false
set_option linter.unusedSimpArgs false

theorem al_even {c a : Int} {k : Nat} (h : W c = k) (h4 : a % (k : Int) = 0) : al c a = a := by unfold al; rw [h]; omega
theorem At_eq {p0 p1 : Int} {af mv : Bool} {r o h s : Nat → Int} {c : Int} {m : Nat → Int} {log : List E51} (c0 : 0 ≤ c) (c1 : c < 4294967296) : f_At p0 p1 af mv r o h s c m log = some ((r 15 - 2 * (W c : Int)) % 4294967296) := by
  unfold f_At
  rw [show (15 : Int) = ((15 : Nat) : Int) from rfl, Get_eq 15 (by decide), bind_some', thumbed_eq c0 c1, bind_some', Let_eq, wr_u32, wr_u32]
  have hw := W_or c
  rw [wrap_i64 (x := 2 * (W c : Int)) (by omega) (by omega)]
  show some ((r 15 - 2 * (W c : Int) % 4294967296) % 4294967296) = _
  congr 1
  rcases hw with e | e <;> rw [e] <;> omega
theorem slot_mod {c d : Int} (c0 : 0 ≤ c) (c1 : c < 4294967296) (d0 : 0 ≤ d) (d1 : d < 4294967296) (h : c % 32 = d % 32) : f_slot c = f_slot d := by
  unfold f_slot
  rw [and32 5 (by decide) (by decide) c0 c1, and32 5 (by decide) (by decide) d0 d1]
  show cond (c % 32 == 17) _ (cond (c % 32 == 18) _ (cond (c % 32 == 19) _ (cond (c % 32 == 23) _ (cond (c % 32 == 27) _ _)))) = cond (d % 32 == 17) _ (cond (d % 32 == 18) _ (cond (d % 32 == 19) _ (cond (d % 32 == 23) _ (cond (d % 32 == 27) _ _))))
  rw [h]
theorem SetStatus_slot {r o h s : Nat → Int} {c d : Int} (hs : f_slot c = f_slot d) : f_SetStatus r o h s c d = some (r, o, h, d) := by
  obtain ⟨k, e, _⟩ := slot_ex (c := c)
  unfold f_SetStatus
  rw [e, bind_some', ← hs, e, bind_some', ceq rfl]
theorem With_ex {c : Int} (c0 : 0 ≤ c) (c1 : c < 4294967296) (f1 f2 f3 f4 : Bool) : ∃ x : Int, f_With c f1 f2 f3 f4 = some x ∧ 0 ≤ x ∧ x < 4294967296 ∧ x % 268435456 = c % 268435456 := by
  unfold f_With
  rw [and32 28 (by decide) (by decide) c0 c1]
  refine loopO_ex (fun x => 0 ≤ x ∧ x < 4294967296 ∧ x % 268435456 = c % 268435456) (fun n (s : Int × Int) => ∃ i : Nat, n = 4 - i ∧ i ≤ 4 ∧ s.2 = (i : Int) ∧ 0 ≤ s.1 ∧ s.1 < ((2 ^ (28 + i) : Nat) : Int) ∧ s.1 % 268435456 = c % 268435456) ?_ 4 _ ⟨0, rfl, by omega, rfl, by omega, by show c % ((2 ^ 28 : Nat) : Int) < ((2 ^ 28 : Nat) : Int); omega, by show c % ((2 ^ 28 : Nat) : Int) % 268435456 = _; omega⟩
  rintro n ⟨x, j⟩ ⟨i, rfl, hi, hj, x0, x1, x2⟩
  have hj' : j = (i : Int) := hj
  subst hj'
  have x0' : 0 ≤ x := x0
  have x1' : x < ((2 ^ (28 + i) : Nat) : Int) := x1
  have x2' : x % 268435456 = c % 268435456 := x2
  by_cases h4 : i = 4
  · subst h4
    refine .inr ⟨x, rfl, x0', ?_, x2'⟩
    exact x1'
  · refine .inl ?_
    have i4 : i < 4 := by omega
    have hp : ((2 ^ (28 + i) : Nat) : Int) < 4294967296 ∧ ((2 ^ (28 + (i + 1)) : Nat) : Int) = 2 * ((2 ^ (28 + i) : Nat) : Int) ∧ ((2 ^ (28 + i) : Nat) : Int) % 268435456 = 0 := by
      match i, i4 with
      | 0, _ => decide
      | 1, _ => decide
      | 2, _ => decide
      | 3, _ => decide
    have e : IntKind.wrap .u32 ((1 : Int) * 2 ^ (min (28 + (i : Int)).toNat 32)) = ((2 ^ (28 + i) : Nat) : Int) := by
      rw [show (28 + (i : Int)).toNat = 28 + i by omega, show min (28 + i) 32 = 28 + i by omega, wr_u32, show (1 : Int) * 2 ^ (28 + i) = ((2 ^ (28 + i) : Nat) : Int) by rw [Int.one_mul]; exact (Int.natCast_pow 2 (28 + i)).symm]
      omega
    by_cases hb : ixL [f4, f3, f2, f1] (i : Int) = true
    · refine ⟨(x + ((2 ^ (28 + i) : Nat) : Int), (i : Int) + 1), 4 - (i + 1), ?_, by omega, i + 1, rfl, by omega, rfl, by show 0 ≤ x + _; omega, by show x + _ < _; rw [hp.2.1]; omega, by show (x + _) % _ = _; omega⟩
      show cond (decide ((i : Int) < 4)) _ _ = _
      rw [cpos (by omega), cand (by omega) (by omega), ctrue hb, wrap_i64 (x := 28 + (i : Int)) (by omega) (by omega), cpos (by omega), Let_eq, wrap_i64 (by omega) (by omega), e, or32 (28 + i) (by omega) x0' x1' (by omega) hp.1 Int.emod_self]
    · refine ⟨(x, (i : Int) + 1), 4 - (i + 1), ?_, by omega, i + 1, rfl, by omega, rfl, x0', by show x < _; rw [hp.2.1]; omega, x2'⟩
      show cond (decide ((i : Int) < 4)) _ _ = _
      rw [cpos (by omega), cand (by omega) (by omega), cfalse (by simpa using hb), wrap_i64 (by omega) (by omega)]
section
variable {p0 p1 : Int} {af mv : Bool} {r o h s : Nat → Int} {c : Int} {m : Nat → Int} {log : List E51}
theorem put_15 {x : Int} : f_put p0 p1 af mv r o h s c m log 15 x = some (true, rup r 15 x) := by
  unfold f_put
  rw [show (15 : Int) = ((15 : Nat) : Int) from rfl, Set_eq 15 (by decide), bind_some', ceq rfl]
theorem branch_link {k cd im : Int} : f_branch p0 p1 af mv r o h s c m log k cd 0 false 0 0 0 0 im false 0 0 false false false false false false false false 0 true false false = some (true, rup (rup r 14 ((r 15 - 4) % 4294967296)) 15 ((r 15 + im) % 4294967296)) := by
  unfold f_branch
  rw [ctrue rfl, show (15 : Int) = ((15 : Nat) : Int) from rfl, Get_eq 15 (by decide), bind_some', wr_u32, show (14 : Int) = ((14 : Nat) : Int) from rfl, Set_eq 14 (by decide), bind_some', Get_eq 15 (by decide), bind_some', rup_ne _ _ (by decide), wr_u32]
  rw [show ((15 : Nat) : Int) = (15 : Int) from rfl, put_15, bind_some']
theorem link_near {k cd im : Int} : f_link p0 p1 af false r o h s c m log k cd 0 false 0 0 0 0 im false 0 0 false false false false false false false false 0 false false false = some (false, rup r 14 ((r 15 + im) % 4294967296)) := by
  unfold f_link
  rw [ceq rfl, show (15 : Int) = ((15 : Nat) : Int) from rfl, Get_eq 15 (by decide), bind_some', wr_u32, show (14 : Int) = ((14 : Nat) : Int) from rfl, Set_eq 14 (by decide), bind_some']
end
end Go.Proofs.YtdjgicimfeocbaaGreat
