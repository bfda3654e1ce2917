/-
  What the channels give.
-/
import Derived.Test.YtccmpceifheejaaWr
namespace Go.Proofs.Ytccmpceifheejaa
open Go.Vc
set_option linter.unusedVariables false
set_option linter.unusedSimpArgs false
set_option maxHeartbeats 4000000
structure POk (S : PS) : Prop where
  pg : 0 ≤ S.page ∧ S.page < 2
  lv : 0 ≤ S.level ∧ S.level < 5
def oSq (c : Ch) : Int := cond c.on (cond (decide (c.at' < ixL ([1, 2, 4, 6] : List Int) c.duty)) c.volume 0) 0
def oNz (S : PS) : Int := cond S.c3.on (cond (S.lfsr % 2 == 0) S.c3.volume 0) 0
theorem z32 {k : Int} (h : 0 ≤ k ∧ k < 32) : ixL ([0, 0, 0, 0, 0, 0, 0, 0, 0, 0, 0, 0, 0, 0, 0, 0, 0, 0, 0, 0, 0, 0, 0, 0, 0, 0, 0, 0, 0, 0, 0, 0] : List Int) k = 0 := by
  show ixL (List.replicate 32 (0 : Int)) k = 0
  rw [ixL_eq (by simp; omega)]
  exact List.getElem_replicate _
theorem at_ix {p a : Int} (hp : 0 ≤ p ∧ p < 2) (ha : 0 ≤ a ∧ a < 64) : 0 ≤ Int.tmod (IntKind.wrap .i64 ((IntKind.wrap .i64 (16 * p)) + (IntKind.wrap .i64 (Int.tdiv a 2)))) 32 ∧ Int.tmod (IntKind.wrap .i64 ((IntKind.wrap .i64 (16 * p)) + (IntKind.wrap .i64 (Int.tdiv a 2)))) 32 < ((32 : Nat) : Int) := by
  rw [tdiv_nn ha.1, wrap_i64 (x := a / 2) (by omega) (by omega), wrap_i64 (x := 16 * p) (by omega) (by omega), wrap_i64 (x := 16 * p + a / 2) (by omega) (by omega), tmod_nn (by omega)]
  omega
theorem wave_p {p a l : Int} (hp : 0 ≤ p ∧ p < 2) (ha : 0 ≤ a ∧ a < 64) (hl : 0 ≤ l ∧ l < 5) : (cond ((decide (0 ≤ (Int.tmod (IntKind.wrap .i64 ((IntKind.wrap .i64 (16 * p)) + (IntKind.wrap .i64 (Int.tdiv a 2)))) 32)) && decide ((Int.tmod (IntKind.wrap .i64 ((IntKind.wrap .i64 (16 * p)) + (IntKind.wrap .i64 (Int.tdiv a 2)))) 32) < ((32 : Nat) : Int)))) (cond ((decide (0 ≤ (IntKind.wrap .i64 (4 - (IntKind.wrap .i64 (4 * (bits .and .i64 a 1)))))))) (Let ((IntKind.wrap .i64 (bits .and .u8 (Int.fdiv (ixL ([0, 0, 0, 0, 0, 0, 0, 0, 0, 0, 0, 0, 0, 0, 0, 0, 0, 0, 0, 0, 0, 0, 0, 0, 0, 0, 0, 0, 0, 0, 0, 0] : List Int) (Int.tmod (IntKind.wrap .i64 ((IntKind.wrap .i64 (16 * p)) + (IntKind.wrap .i64 (Int.tdiv a 2)))) 32)) (2 ^ (min (IntKind.wrap .i64 (4 - (IntKind.wrap .i64 (4 * (bits .and .i64 a 1))))).toNat 8))) 15)) : Int) fun s8 => (cond (decide (0 ≤ l) && decide (l < ((5 : Nat) : Int))) (cond ((decide (0 ≤ (2 : Int)) && decide ((2 : Int) < ((4 : Nat) : Int)))) (some (IntKind.wrap .i64 (Int.tdiv (ixL ([0, (IntKind.wrap .i64 (4 * s8)), (IntKind.wrap .i64 (2 * s8)), s8, (IntKind.wrap .i64 (3 * s8))] : List Int) l) 4))) none) none)) none) none) = some 0 := by
  have hi := at_ix hp ha
  rw [cand hi.1 hi.2, and64 1 (by decide) (by decide), show ((2 ^ 1 : Nat) : Int) = 2 by decide, wrap_i64 (x := 4 * (a % 2)) (by omega) (by omega), wrap_i64 (x := 4 - 4 * (a % 2)) (by omega) (by omega), cpos (by omega), Let_eq, z32 ⟨hi.1, hi.2⟩, Int.zero_fdiv, show bits .and .u8 0 15 = 0 by decide, show IntKind.wrap .i64 0 = 0 by decide, cand hl.1 (show l < ((5 : Nat) : Int) from hl.2), cand (by decide) (by decide)]
  obtain rfl | rfl | rfl | rfl | rfl : l = 0 ∨ l = 1 ∨ l = 2 ∨ l = 3 ∨ l = 4 := by omega
  all_goals rfl
theorem wave_r {p a l : Int} (hp : 0 ≤ p ∧ p < 2) (ha : 0 ≤ a ∧ a < 64) (hl : 0 ≤ l ∧ l < 5) : (cond ((decide (0 ≤ (Int.tmod (IntKind.wrap .i64 ((IntKind.wrap .i64 (16 * p)) + (IntKind.wrap .i64 (Int.tdiv a 2)))) 32)) && decide ((Int.tmod (IntKind.wrap .i64 ((IntKind.wrap .i64 (16 * p)) + (IntKind.wrap .i64 (Int.tdiv a 2)))) 32) < ((32 : Nat) : Int)))) (cond ((Int.tmod a 2) == 0) (Let ((IntKind.wrap .i64 (Int.tdiv (IntKind.wrap .i64 (ixL ([0, 0, 0, 0, 0, 0, 0, 0, 0, 0, 0, 0, 0, 0, 0, 0, 0, 0, 0, 0, 0, 0, 0, 0, 0, 0, 0, 0, 0, 0, 0, 0] : List Int) (Int.tmod (IntKind.wrap .i64 ((IntKind.wrap .i64 (16 * p)) + (IntKind.wrap .i64 (Int.tdiv a 2)))) 32))) 16)) : Int) fun s7 => (cond ((decide (0 ≤ l) && decide (l < ((5 : Nat) : Int)))) (cond ((decide (0 ≤ (2 : Int)) && decide ((2 : Int) < ((4 : Nat) : Int)))) (some (IntKind.wrap .i64 (Int.tdiv (IntKind.wrap .i64 ((Int.tmod s7 16) * (ixL ([(0 : Int), (4 : Int), (2 : Int), (1 : Int), (3 : Int)] : List Int) l))) 4))) none) none)) (cond ((decide (0 ≤ l) && decide (l < ((5 : Nat) : Int)))) (cond ((decide (0 ≤ (2 : Int)) && decide ((2 : Int) < ((4 : Nat) : Int)))) (some (IntKind.wrap .i64 (Int.tdiv (IntKind.wrap .i64 ((Int.tmod (IntKind.wrap .i64 (ixL ([0, 0, 0, 0, 0, 0, 0, 0, 0, 0, 0, 0, 0, 0, 0, 0, 0, 0, 0, 0, 0, 0, 0, 0, 0, 0, 0, 0, 0, 0, 0, 0] : List Int) (Int.tmod (IntKind.wrap .i64 ((IntKind.wrap .i64 (16 * p)) + (IntKind.wrap .i64 (Int.tdiv a 2)))) 32))) 16) * (ixL ([(0 : Int), (4 : Int), (2 : Int), (1 : Int), (3 : Int)] : List Int) l))) 4))) none) none)) none) = some 0 := by
  have hi := at_ix hp ha
  rw [cand hi.1 hi.2, Let_eq, z32 ⟨hi.1, hi.2⟩, cand hl.1 (show l < ((5 : Nat) : Int) from hl.2), cand (by decide) (by decide)]
  cases (Int.tmod a 2 == 0) <;> (obtain rfl | rfl | rfl | rfl | rfl : l = 0 ∨ l = 1 ∨ l = 2 ∨ l = 3 ∨ l = 4 := by omega) <;> rfl
theorem sq_p {α : Type} {c : Ch} (hd : 0 ≤ c.duty ∧ c.duty < 4) (F : Int → α) : (cond c.on (cond (decide (0 ≤ c.duty) && decide (c.duty < ((4 : Nat) : Int))) (cond (decide (c.at' < ixL ([1, 2, 4, 6] : List Int) c.duty)) (some (F c.volume)) (some (F 0))) none) (some (F 0))) = some (F (oSq c)) := by
  rw [cand hd.1 (show c.duty < ((4 : Nat) : Int) from hd.2)]
  unfold oSq
  cases c.on
  · rfl
  cases (decide (c.at' < ixL ([1, 2, 4, 6] : List Int) c.duty)) <;> rfl
theorem Out_eq {S : PS} (h : GOk S) (hp : POk S) : k_Out S = some (oSq S.c0, oSq S.c1, 0, oNz S) := by
  unfold k_Out pA f_Out
  refine loopO_for (fun i => match i with
    | 0 => ((0 : Int), (0 : Int), (0 : Int))
    | 1 => ((1 : Int), oSq S.c0, (0 : Int))
    | _ => ((2 : Int), oSq S.c0, oSq S.c1)) 2 ?_ ?_
  · intro i hi
    obtain rfl | rfl : i = 0 ∨ i = 1 := by omega
    · exact sq_p h.c0.d (fun v => (Sum.inl ((1 : Int), v, (0 : Int)) : (Int × Int × Int) ⊕ O_Out))
    · exact sq_p h.c1.d (fun v => (Sum.inl ((2 : Int), oSq S.c0, v) : (Int × Int × Int) ⊕ O_Out))
  · have hb : bits .and .i64 S.lfsr 1 = S.lfsr % 2 := by rw [and64 1 (by decide) (by decide)]; rfl
    refine (bind_of 0 ?_).trans ?_
    · cases hon : S.c2.on
      · rfl
      show cond (!S.two) _ _ = _
      cases S.two
      · exact wave_p hp.pg (by rw [tmod_nn h.c2.a.1]; omega) hp.lv
      · exact wave_p hp.pg h.c2.a hp.lv
    · show cond S.c3.on (cond (bits .and .i64 S.lfsr 1 == 0) _ _) _ = _
      rw [hb]
      unfold oNz
      cases S.c3.on
      · rfl
      cases (S.lfsr % 2 == 0) <;> rfl
theorem rOut_eq (U : US) {S : PS} (hU : U.ps = S) (h : GOk S) (hp : POk S) : k_rOut U = some (oSq S.c0, oSq S.c1, 0, oNz S) := by
  subst hU
  obtain ⟨u0, u1, u2, u3, u4, u5, u6, u7, u8, u9, u10, u11, u12, S⟩ := U
  have h : GOk S := h
  have hp : POk S := hp
  unfold k_rOut rA f_rOut
  refine loopO_for (fun i => match i with
    | 0 => ((0 : Int), (0 : Int), (0 : Int), (0 : Int), (0 : Int))
    | 1 => ((1 : Int), oSq S.c0, (0 : Int), (0 : Int), (0 : Int))
    | _ => ((2 : Int), oSq S.c0, oSq S.c1, (0 : Int), (0 : Int))) 2 ?_ ?_
  · intro i hi
    obtain rfl | rfl : i = 0 ∨ i = 1 := by omega
    · exact sq_p h.c0.d (fun v => (Sum.inl ((1 : Int), v, (0 : Int), (0 : Int), (0 : Int)) : (Int × Int × Int × Int × Int) ⊕ O_rOut))
    · exact sq_p h.c1.d (fun v => (Sum.inl ((2 : Int), oSq S.c0, v, (0 : Int), (0 : Int)) : (Int × Int × Int × Int × Int) ⊕ O_rOut))
  · have hb : Int.tmod S.lfsr 2 = S.lfsr % 2 := tmod_nn h.lf.1
    refine (bind_of 0 ?_).trans ?_
    · rw [cand (by decide) (by decide)]
      show cond S.c2.on _ _ = _
      cases hon : S.c2.on
      · rfl
      show cond (!S.two) _ _ = _
      cases S.two
      · exact wave_r hp.pg (by rw [tmod_nn h.c2.a.1]; omega) hp.lv
      · exact wave_r hp.pg h.c2.a hp.lv
    · show cond S.c3.on (cond (Int.tmod S.lfsr 2 == 0) _ _) _ = _
      rw [hb]
      unfold oNz
      cases S.c3.on
      · rfl
      cases (S.lfsr % 2 == 0) <;> rfl
end Go.Proofs.Ytccmpceifheejaa
