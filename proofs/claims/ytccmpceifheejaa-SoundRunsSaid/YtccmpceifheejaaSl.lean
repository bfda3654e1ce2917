/-
  Which channels play; what a side gives.
-/
import Derived.Test.YtccmpceifheejaaOu
namespace Go.Proofs.Ytccmpceifheejaa
open Go.Vc
set_option linter.unusedVariables false
set_option linter.unusedSimpArgs false
set_option maxHeartbeats 4000000
def p1 (a : Bool) : Int := cond a 1 0
def p2 (a b : Bool) : Int := cond b (cond a 3 2) (p1 a)
def p3 (a b c : Bool) : Int := cond c (p2 a b + 4) (p2 a b)
def p4 (a b c d : Bool) : Int := cond d (p3 a b c + 8) (p3 a b c)
def playA (S : PS) : Int := p4 S.c0.on S.c1.on S.c2.on S.c3.on
theorem Playing_eq (S : PS) : k_Playing S = some (playA S) := by
  unfold k_Playing pA f_Playing playA
  rw [cand (by decide) (by decide), cand (by decide) (by decide)]
  generalize S.c0.on = a
  generalize S.c1.on = b
  generalize S.c2.on = c
  generalize S.c3.on = d
  refine loopO_for (fun i => match i with
    | 0 => ((0 : Int), (0 : Int))
    | 1 => (p1 a, (1 : Int))
    | 2 => (p2 a b, (2 : Int))
    | 3 => (p3 a b c, (3 : Int))
    | _ => (p4 a b c d, (4 : Int))) 4 ?_ ?_
  · intro i hi
    obtain rfl | rfl | rfl | rfl : i = 0 ∨ i = 1 ∨ i = 2 ∨ i = 3 := by omega
    · cases a <;> rfl
    · cases a <;> cases b <;> rfl
    · cases a <;> cases b <;> cases c <;> rfl
    · cases a <;> cases b <;> cases c <;> cases d <;> rfl
  · rfl
theorem rPlaying_eq (U : US) {S : PS} (hU : U.ps = S) : k_rPlaying U = some (playA S) := by
  subst hU
  unfold k_rPlaying rA f_rPlaying playA
  generalize U.ps.c0.on = a
  generalize U.ps.c1.on = b
  generalize U.ps.c2.on = c
  generalize U.ps.c3.on = d
  refine loopO_for (fun i => match i with
    | 0 => ((0 : Int), (3 : Int))
    | 1 => (p1 d, (2 : Int))
    | 2 => (p2 c d, (1 : Int))
    | 3 => (p3 b c d, (0 : Int))
    | _ => (p4 a b c d, (-1 : Int))) 4 ?_ ?_
  · intro i hi
    obtain rfl | rfl | rfl | rfl : i = 0 ∨ i = 1 ∨ i = 2 ∨ i = 3 := by omega
    · cases d <;> rfl
    · cases c <;> cases d <;> rfl
    · cases b <;> cases c <;> cases d <;> rfl
    · cases a <;> cases b <;> cases c <;> cases d <;> rfl
  · rfl
def btm (m : Int) (j : Nat) : Bool := m / 2 ^ j % 2 == 1
theorem pw {j : Nat} (hj : j ≤ 15) : (1 : Int) ≤ 2 ^ j := by
  have e : ((2 : Int) ^ j) = (((2 : Nat) ^ j : Nat) : Int) := by simp
  have h3 : 0 < (2 : Nat) ^ j := Nat.pow_pos (by decide)
  rw [e]; omega
theorem div_u16 {m d : Int} (h : 0 ≤ m ∧ m < 65536) (hd : 1 ≤ d) : 0 ≤ m / d ∧ m / d < 65536 := by
  have h1 := Int.ediv_nonneg h.1 (show 0 ≤ d by omega)
  have h2 := Int.ediv_le_self d h.1
  omega
theorem bp {m : Int} (h : 0 ≤ m ∧ m < 65536) (j : Nat) (hj : j ≤ 15) : (bits .and .u16 (Int.fdiv m (2 ^ j)) 1 == 1) = btm m j := by
  have h2 := pw hj
  have h3 := div_u16 h h2
  rw [fdiv_pos (by omega), and16 1 (by decide) (by decide) h3.1 h3.2]
  rfl
theorem br {m : Int} (h : 0 ≤ m ∧ m < 65536) (j : Nat) (hj : j ≤ 15) {J : Int} (hJ : J = (j : Int)) : f_rbit m J = some (btm m j) := by
  subst hJ
  have h2 := pw hj
  have h3 := div_u16 h h2
  show cond (decide (0 ≤ (j : Int))) (some (Int.tmod (Int.fdiv m (2 ^ (min (j : Int).toNat 16))) 2 == 1)) none = _
  rw [cpos (by omega), show min (j : Int).toNat 16 = j by omega, fdiv_pos (by omega), tmod_nn h3.1]
  rfl
def ad (b : Bool) (s x : Int) : Int := cond b (IntKind.wrap .i64 (s + x)) s
theorem ad_range {b : Bool} {s x m : Int} (hs : 0 ≤ s ∧ s ≤ m) (hx : 0 ≤ x ∧ x ≤ 15) (hm : m ≤ 1000) : 0 ≤ ad b s x ∧ ad b s x ≤ m + 15 := by
  unfold ad
  cases b
  · show 0 ≤ s ∧ s ≤ m + 15; omega
  · show 0 ≤ IntKind.wrap .i64 (s + x) ∧ IntKind.wrap .i64 (s + x) ≤ m + 15
    rw [wrap_i64 (by omega) (by omega)]; omega
def gA (s m : Int) (j : Nat) : Int := s * (m / 2 ^ j % 8 + 1)
theorem gA_range {s m : Int} {j : Nat} (hs : 0 ≤ s ∧ s ≤ 60) : 0 ≤ gA s m j ∧ gA s m j ≤ 480 := by
  unfold gA
  have : 0 ≤ m / 2 ^ j % 8 ∧ m / 2 ^ j % 8 < 8 := by omega
  generalize m / 2 ^ j % 8 = v at this
  obtain rfl | rfl | rfl | rfl | rfl | rfl | rfl | rfl : v = 0 ∨ v = 1 ∨ v = 2 ∨ v = 3 ∨ v = 4 ∨ v = 5 ∨ v = 6 ∨ v = 7 := by omega
  all_goals omega
def shA (g d : Int) : Int := if d % 4 = 0 then g / 4 else if d % 4 = 1 then g / 2 else g
theorem shA_range {g d : Int} (hg : 0 ≤ g ∧ g ≤ 480) : 0 ≤ shA g d ∧ shA g d ≤ 480 := by
  unfold shA; split
  · omega
  split <;> omega
def fA (b b2 : Bool) (s n : Int) : Int := cond b (cond b2 (s + 4 * n) (s + 2 * n)) s
theorem fA_range {b b2 : Bool} {s n lo hi : Int} (hs : lo ≤ s ∧ s ≤ hi) (hn : -128 ≤ n ∧ n ≤ 127) : lo - 512 ≤ fA b b2 s n ∧ fA b b2 s n ≤ hi + 512 := by
  unfold fA
  cases b <;> cases b2 <;> simp only [cond_true, cond_false] <;> omega
def clA (s bias : Int) : Int := IntKind.wrap .i16 (32 * ((if s + bias < 0 then 0 else if s + bias > 1023 then 1023 else s + bias) - bias))
theorem gain_p {s m : Int} (hs : 0 ≤ s ∧ s ≤ 60) (h : 0 ≤ m ∧ m < 65536) (j : Nat) (hj : j ≤ 15) : IntKind.wrap .i64 (s * (IntKind.wrap .i64 ((IntKind.wrap .i64 (bits .and .u16 (Int.fdiv m (2 ^ j)) 7)) + 1))) = gA s m j := by
  have h2 := pw hj
  have h3 := div_u16 h h2
  have hr := gA_range (m := m) (j := j) hs
  rw [fdiv_pos (by omega), and16 3 (by decide) (by decide) h3.1 h3.2, show ((2 ^ 3 : Nat) : Int) = 8 by decide, wrap_i64 (x := m / 2 ^ j % 8) (by omega) (by omega), wrap_i64 (x := m / 2 ^ j % 8 + 1) (by omega) (by omega)]
  exact wrap_i64 (x := gA s m j) (by omega) (by omega)
theorem gain_r {s m : Int} (hs : 0 ≤ s ∧ s ≤ 60) (h : 0 ≤ m ∧ m < 65536) (j : Nat) (hj : j ≤ 15) : IntKind.wrap .i64 (s * (IntKind.wrap .i64 ((IntKind.wrap .i64 (Int.tmod (Int.fdiv m (2 ^ j)) 8)) + 1))) = gA s m j := by
  have h2 := pw hj
  have h3 := div_u16 h h2
  have hr := gA_range (m := m) (j := j) hs
  rw [fdiv_pos (by omega), tmod_nn h3.1, wrap_i64 (x := m / 2 ^ j % 8) (by omega) (by omega), wrap_i64 (x := m / 2 ^ j % 8 + 1) (by omega) (by omega)]
  exact wrap_i64 (x := gA s m j) (by omega) (by omega)
theorem sh_p {g d : Int} (hd : 0 ≤ d ∧ d < 65536) : 0 ≤ bits .and .u16 d 3 ∧ bits .and .u16 d 3 < ((4 : Nat) : Int) ∧ 0 ≤ ixL ([2, 1, 0, 0] : List Int) (bits .and .u16 d 3) ∧ Int.fdiv g (2 ^ (min (ixL ([2, 1, 0, 0] : List Int) (bits .and .u16 d 3)).toNat 64)) = shA g d := by
  rw [and16 2 (by decide) (by decide) hd.1 hd.2, show ((2 ^ 2 : Nat) : Int) = 4 by decide]
  unfold shA
  have : 0 ≤ d % 4 ∧ d % 4 < 4 := by omega
  generalize d % 4 = v at this ⊢
  refine ⟨this.1, this.2, ?_⟩
  obtain rfl | rfl | rfl | rfl : v = 0 ∨ v = 1 ∨ v = 2 ∨ v = 3 := by omega
  · exact ⟨by decide, fdiv_pos (b := 4) (by decide)⟩
  · exact ⟨by decide, fdiv_pos (b := 2) (by decide)⟩
  · exact ⟨by decide, (fdiv_pos (b := 1) (by decide)).trans (Int.ediv_one g)⟩
  · exact ⟨by decide, (fdiv_pos (b := 1) (by decide)).trans (Int.ediv_one g)⟩
theorem sh_r {g d : Int} (hg : 0 ≤ g ∧ g ≤ 480) (hd : 0 ≤ d ∧ d < 65536) : 0 ≤ Int.tmod d 4 ∧ Int.tmod d 4 < ((4 : Nat) : Int) ∧ ixL ([4, 2, 1, 1] : List Int) (Int.tmod d 4) ≠ 0 ∧ IntKind.wrap .i64 (Int.tdiv g (ixL ([4, 2, 1, 1] : List Int) (Int.tmod d 4))) = shA g d := by
  rw [tmod_nn hd.1]
  unfold shA
  have : 0 ≤ d % 4 ∧ d % 4 < 4 := by omega
  generalize d % 4 = v at this ⊢
  refine ⟨this.1, this.2, ?_⟩
  obtain rfl | rfl | rfl | rfl : v = 0 ∨ v = 1 ∨ v = 2 ∨ v = 3 := by omega
  · refine ⟨by decide, ?_⟩
    show IntKind.wrap .i64 (Int.tdiv g 4) = g / 4
    rw [tdiv_nn hg.1, wrap_i64 (by omega) (by omega)]
  · refine ⟨by decide, ?_⟩
    show IntKind.wrap .i64 (Int.tdiv g 2) = g / 2
    rw [tdiv_nn hg.1, wrap_i64 (by omega) (by omega)]
  · refine ⟨by decide, ?_⟩
    show IntKind.wrap .i64 (Int.tdiv g 1) = g
    rw [tdiv_nn hg.1, Int.ediv_one, wrap_i64 (by omega) (by omega)]
  · refine ⟨by decide, ?_⟩
    show IntKind.wrap .i64 (Int.tdiv g 1) = g
    rw [tdiv_nn hg.1, Int.ediv_one, wrap_i64 (by omega) (by omega)]
theorem ff_p {α : Type} {b b2 : Bool} {s n : Int} (hs : -2000 ≤ s ∧ s ≤ 2000) (hn : -128 ≤ n ∧ n ≤ 127) (F : Int → α) :
    cond b (cond b2 (Let ((IntKind.wrap .i64 ((IntKind.wrap .i64 (2 * n)) * 2)) : Int) fun s9 => some (F (IntKind.wrap .i64 (s + s9)))) (Let ((IntKind.wrap .i64 (s + (IntKind.wrap .i64 (2 * n)))) : Int) fun s5 => some (F s5))) (some (F s)) = some (F (fA b b2 s n)) := by
  rw [Let_eq, Let_eq, wrap_i64 (x := 2 * n) (by omega) (by omega), wrap_i64 (x := 2 * n * 2) (by omega) (by omega), wrap_i64 (x := s + 2 * n * 2) (by omega) (by omega), wrap_i64 (x := s + 2 * n) (by omega) (by omega), show 2 * n * 2 = 4 * n by omega]
  cases b <;> cases b2 <;> rfl
theorem cl_p {s bias : Int} (hs : -2000 ≤ s ∧ s ≤ 2000) (hb : 0 ≤ bias ∧ bias ≤ 1023) : (IntKind.wrap .i16 (IntKind.wrap .i64 ((IntKind.wrap .i64 ((if (if (1023 : Int) < (IntKind.wrap .i64 (s + (IntKind.wrap .i64 bias))) then 1023 else (IntKind.wrap .i64 (s + (IntKind.wrap .i64 bias)))) > 0 then (if (1023 : Int) < (IntKind.wrap .i64 (s + (IntKind.wrap .i64 bias))) then 1023 else (IntKind.wrap .i64 (s + (IntKind.wrap .i64 bias)))) else 0) - (IntKind.wrap .i64 bias))) * 32))) = clA s bias := by
  rw [wrap_i64 (x := bias) (by omega) (by omega), wrap_i64 (x := s + bias) (by omega) (by omega)]
  unfold clA
  have e : (if (if (1023 : Int) < s + bias then 1023 else s + bias) > 0 then (if (1023 : Int) < s + bias then 1023 else s + bias) else 0) = (if s + bias < 0 then 0 else if s + bias > 1023 then 1023 else s + bias) := by
    split <;> split <;> split <;> omega
  rw [e]
  have r : 0 ≤ (if s + bias < 0 then 0 else if s + bias > 1023 then 1023 else s + bias) ∧ (if s + bias < 0 then 0 else if s + bias > 1023 then 1023 else s + bias) ≤ 1023 := by split <;> (try split) <;> omega
  generalize (if s + bias < 0 then 0 else if s + bias > 1023 then 1023 else s + bias) = v at r ⊢
  rw [wrap_i64 (x := v - bias) (by omega) (by omega), wrap_i64 (x := (v - bias) * 32) (by omega) (by omega), Int.mul_comm]
theorem cl_r {s bias : Int} (hs : -2000 ≤ s ∧ s ≤ 2000) (hb : 0 ≤ bias ∧ bias ≤ 1023) {α β : Type} : (cond (decide ((IntKind.wrap .i64 (s + bias)) < 0)) (Let ((IntKind.wrap .i16 (IntKind.wrap .i64 (32 * (IntKind.wrap .i64 (0 - bias))))) : Int) fun s4_1 => (some (Sum.inr (Sum.inr s4_1) : α ⊕ (β ⊕ Int)))) (cond (decide ((IntKind.wrap .i64 (s + bias)) > 1023)) (Let ((IntKind.wrap .i16 (IntKind.wrap .i64 (32 * (IntKind.wrap .i64 (1023 - bias))))) : Int) fun s4_2 => (some (.inr (.inr s4_2)))) (Let ((IntKind.wrap .i16 (IntKind.wrap .i64 (32 * (IntKind.wrap .i64 ((IntKind.wrap .i64 (s + bias)) - bias))))) : Int) fun s4_3 => (some (.inr (.inr s4_3)))))) = some (.inr (.inr (clA s bias))) := by
  unfold clA
  rw [Let_eq, Let_eq, Let_eq, wrap_i64 (x := s + bias) (by omega) (by omega)]
  by_cases h1 : s + bias < 0
  · rw [cpos h1, if_pos h1, wrap_i64 (x := 0 - bias) (by omega) (by omega), wrap_i64 (x := 32 * (0 - bias)) (by omega) (by omega)]
  rw [cneg h1, if_neg h1]
  by_cases h2 : s + bias > 1023
  · rw [cpos h2, if_pos h2, wrap_i64 (x := 1023 - bias) (by omega) (by omega), wrap_i64 (x := 32 * (1023 - bias)) (by omega) (by omega)]
  · rw [cneg h2, if_neg h2, wrap_i64 (x := s + bias - bias) (by omega) (by omega), wrap_i64 (x := 32 * (s + bias - bias)) (by omega) (by omega)]
end Go.Proofs.Ytccmpceifheejaa
