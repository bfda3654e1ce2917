/-
  The tape, and how the processors begin.
-/
import Derived.Test.YtdjgicimfeocbaaGreatG
import Derived.Test.YtdjgicimfeocbaaGreatPure
import Derived.Test.YtdjgicimfeocbaaGreatWrap2
namespace Go.Proofs.YtdjgicimfeocbaaGreat
open Go.Vc
set_option linter.unusedVariables false
set_option linter.unusedSimpArgs false

theorem or32 {a b : Int} (k : Nat) (hk : k ≤ 32) (ha0 : 0 ≤ a) (ha : a < ((2 ^ k : Nat) : Int)) (hb0 : 0 ≤ b) (hb1 : b < 4294967296) (hb : b % ((2 ^ k : Nat) : Int) = 0) : bits .or .u32 a b = a + b := by
  obtain ⟨A, rfl⟩ := Int.eq_ofNat_of_zero_le ha0
  obtain ⟨B, rfl⟩ := Int.eq_ofNat_of_zero_le hb0
  have hA : A < 2 ^ k := by exact_mod_cast ha
  have hB : B % 2 ^ k = 0 := by exact_mod_cast hb
  have hk2 : (2 : Nat) ^ k ≤ 2 ^ 32 := Nat.pow_le_pow_right (by decide) hk
  have e : A ||| B = A + B := by
    rw [← Nat.div_add_mod B (2 ^ k), hB, Nat.add_zero, Nat.or_comm, ← Nat.two_pow_add_eq_or_of_lt hA, Nat.add_comm]
  have hle : A + B < 4294967296 := by
    have h1 : A ||| B < 2 ^ 32 := Nat.or_lt_two_pow (Nat.lt_of_lt_of_le hA hk2) (by omega)
    omega
  show IntKind.u32.wrap ((BitVec.ofInt 32 (A : Int) ||| BitVec.ofInt 32 (B : Int)).toNat : Int) = _
  have e1 : (BitVec.ofInt 32 (A : Int)) = BitVec.ofNat 32 A := by simp
  have e2 : (BitVec.ofInt 32 (B : Int)) = BitVec.ofNat 32 B := by simp
  rw [e1, e2, BitVec.toNat_or, BitVec.toNat_ofNat, BitVec.toNat_ofNat, Nat.mod_eq_of_lt (show A < 2 ^ 32 by omega), Nat.mod_eq_of_lt (show B < 2 ^ 32 by omega), e, wrap_u32 (by omega) (by omega)]
  omega

/-- Bytes. -/
def Byt (m : Nat → Int) : Prop := ∀ i, 0 ≤ m i ∧ m i < 256
def mb (m : Nat → Int) (a : Int) : Int := m (a % 4096).toNat
theorem mb_bd {m : Nat → Int} (h : Byt m) (a : Int) : 0 ≤ mb m a ∧ mb m a < 256 := h _
/-- So many bytes from an address on, the lowest first. -/
def lo (m : Nat → Int) (a : Int) : Nat → Int
  | 0 => 0
  | i + 1 => lo m a i + mb m (a + i) * ((2 ^ (8 * i) : Nat) : Int)
def wd (m : Nat → Int) (a : Int) : Int := mb m a + 256 * mb m (a + 1) + 65536 * mb m (a + 2) + 16777216 * mb m (a + 3)
def hw (m : Nat → Int) (a : Int) : Int := mb m a + 256 * mb m (a + 1)
theorem lo4 (m : Nat → Int) (a : Int) : lo m a 4 = wd m a := by
  simp only [lo, wd]
  have e0 : a + ((0 : Nat) : Int) = a := by omega
  have e1 : a + ((1 : Nat) : Int) = a + 1 := by omega
  have e2 : a + ((2 : Nat) : Int) = a + 2 := by omega
  have e3 : a + ((3 : Nat) : Int) = a + 3 := by omega
  rw [e0, e1, e2, e3]
  have p0 : ((2 ^ (8 * 0) : Nat) : Int) = 1 := by decide
  have p1 : ((2 ^ (8 * 1) : Nat) : Int) = 256 := by decide
  have p2 : ((2 ^ (8 * 2) : Nat) : Int) = 65536 := by decide
  have p3 : ((2 ^ (8 * 3) : Nat) : Int) = 16777216 := by decide
  rw [p0, p1, p2, p3]; omega
theorem lo2 (m : Nat → Int) (a : Int) : lo m a 2 = hw m a := by
  simp only [lo, hw]
  have e0 : a + ((0 : Nat) : Int) = a := by omega
  have e1 : a + ((1 : Nat) : Int) = a + 1 := by omega
  rw [e0, e1]
  have p0 : ((2 ^ (8 * 0) : Nat) : Int) = 1 := by decide
  have p1 : ((2 ^ (8 * 1) : Nat) : Int) = 256 := by decide
  rw [p0, p1]; omega
theorem lo1 (m : Nat → Int) (a : Int) : lo m a 1 = mb m a := by
  simp only [lo]
  have e0 : a + ((0 : Nat) : Int) = a := by omega
  have p0 : ((2 ^ (8 * 0) : Nat) : Int) = 1 := by decide
  rw [e0, p0]; omega
theorem lo_bd {m : Nat → Int} (h : Byt m) (a : Int) : ∀ i, i ≤ 4 → 0 ≤ lo m a i ∧ lo m a i < ((2 ^ (8 * i) : Nat) : Int)
  | 0, _ => by simp [lo]
  | i + 1, hi => by
    have ih := lo_bd h a i (by omega)
    have hb := mb_bd h (a + i)
    show 0 ≤ lo m a i + mb m (a + i) * _ ∧ lo m a i + mb m (a + i) * _ < _
    rcases (show i = 0 ∨ i = 1 ∨ i = 2 ∨ i = 3 by omega) with e | e | e | e <;> subst e <;> simp only [Nat.reduceMul, Nat.reducePow, Nat.reduceAdd] at * <;> omega
theorem at_i {a i : Int} (h0 : 0 ≤ a) (h1 : a < 4294967296) (i0 : 0 ≤ i) (i1 : i < 16) : bits .and .u32 (IntKind.wrap .u32 (a + IntKind.wrap .u32 i)) 4095 = (a + i) % 4096 := by
  rw [wrap_u32 (x := i) (by omega) (by omega), wr_u32, and32 12 (by decide) (by decide) (by omega) (by omega)]
  show (a + i) % 4294967296 % 4096 = _
  omega
set_option maxRecDepth 10000 in
theorem tread_eq {m : Nat → Int} (log : List E51) (hm : Byt m) {a : Int} (h0 : 0 ≤ a) (h1 : a < 4294967296) (n : Nat) (hn : n ≤ 4) : f_tread m log a (n : Int) = some (lo m a n) := by
  unfold f_tread
  refine loopO_for (fun i => (lo m a i, (i : Int))) n (fun i hi => ?_) ?_
  · show cond (decide ((i : Int) < (n : Int))) (cond (decide (0 ≤ bits .and .u32 (IntKind.wrap .u32 (a + IntKind.wrap .u32 (i : Int))) 4095) && decide (bits .and .u32 (IntKind.wrap .u32 (a + IntKind.wrap .u32 (i : Int))) 4095 < ((4096 : Nat) : Int))) (cond (decide (0 ≤ IntKind.wrap .i64 (8 * (i : Int)))) (Let (bits .or .u32 (lo m a i) (IntKind.wrap .u32 (IntKind.wrap .u32 (m (bits .and .u32 (IntKind.wrap .u32 (a + IntKind.wrap .u32 (i : Int))) 4095).toNat) * 2 ^ (min (IntKind.wrap .i64 (8 * (i : Int))).toNat 32)))) fun s => some (Sum.inl (s, IntKind.wrap .i64 ((i : Int) + 1)))) none) none) _ = some (Sum.inl (lo m a (i + 1), ((i + 1 : Nat) : Int)))
    have hb := mb_bd hm (a + i)
    have hl := lo_bd hm a i (by omega)
    rw [cpos (by omega), at_i h0 h1 (by omega) (by omega), cand (by omega) (by omega), wrap_i64 (x := 8 * (i : Int)) (by omega) (by omega), cpos (by omega), Let_eq, wrap_i64 (x := (i : Int) + 1) (by omega) (by omega)]
    show some (Sum.inl (bits .or .u32 (lo m a i) (IntKind.wrap .u32 (IntKind.wrap .u32 (mb m (a + i)) * 2 ^ (min (8 * (i : Int)).toNat 32))), (i : Int) + 1)) = some (Sum.inl (lo m a i + mb m (a + i) * ((2 ^ (8 * i) : Nat) : Int), ((i + 1 : Nat) : Int)))
    rw [wrap_u32 (x := mb m (a + i)) (by omega) (by omega)]
    have hp : (2 : Int) ^ (min (8 * (i : Int)).toNat 32) = ((2 ^ (8 * i) : Nat) : Int) := by
      rw [show min (8 * (i : Int)).toNat 32 = 8 * i by omega]; simp
    rw [hp]
    generalize mb m (a + i) = b at hb ⊢
    generalize lo m a i = x at hl ⊢
    rcases (show i = 0 ∨ i = 1 ∨ i = 2 ∨ i = 3 by omega) with e | e | e | e <;> subst e <;> simp only [Nat.reduceMul, Nat.reducePow] at * <;> rw [wrap_u32 (by omega) (by omega)]
    · rw [or32 0 (by decide) hl.1 hl.2 (by omega) (by omega) (by simp)]; rfl
    · rw [or32 8 (by decide) hl.1 hl.2 (by omega) (by omega) (by show b * 256 % 256 = 0; omega)]; rfl
    · rw [or32 16 (by decide) hl.1 hl.2 (by omega) (by omega) (by show b * 65536 % 65536 = 0; omega)]; rfl
    · rw [or32 24 (by decide) hl.1 hl.2 (by omega) (by omega) (by show b * 16777216 % 16777216 = 0; omega)]; rfl
  · show cond (decide ((n : Int) < (n : Int))) _ _ = _
    rw [cneg (by omega)]
def acc (a w x c : Int) : E51 := ⟨0, 0, a, w, false, x, c⟩
theorem tFetch_eq {m : Nat → Int} {log : List E51} (hm : Byt m) (hl : log.length ≤ 1000000) {a : Int} (h0 : 0 ≤ a) (h1 : a < 4294967296) (n : Nat) (hn : n ≤ 4) {c : Int} (c0 : 0 ≤ c) (c1 : c < 100) : f_tFetch m log a (n : Int) c = some (lo m a n, log ++ [acc a n (lo m a n) (c + 10)]) := by
  unfold f_tFetch
  rw [tread_eq log hm h0 h1 n hn, bind_some', cpos (by simp; omega), wrap_i64 (by omega) (by omega)]; rfl
theorem rplainly_eq {m : Nat → Int} {P : Bool} {log : List E51} {io : Nat → Int} {nw ow : Int} (hm : Byt m) {a : Int} (h0 : 0 ≤ a) (h1 : a < 4294967296) (n : Nat) (hn : n ≤ 4) : ∃ x, f_rplainly P m log io nw ow a (n : Int) = some x := by
  unfold f_rplainly
  rw [wrap_i64 (by omega) (by omega)]
  obtain ⟨r, h, _⟩ := loopO_ex (f := (fun (s : (Int × Int)) => match s with | (s7, s8) => ((cond (decide (s8 ≥ 0)) (cond ((decide (0 ≤ (Int.tmod (IntKind.wrap .u32 (a + (IntKind.wrap .u32 s8))) 4096)) && decide ((Int.tmod (IntKind.wrap .u32 (a + (IntKind.wrap .u32 s8))) 4096) < ((4096 : Nat) : Int)))) (Let ((IntKind.wrap .u32 ((IntKind.wrap .u32 (256 * s7)) + (IntKind.wrap .u32 (m ((Int.tmod (IntKind.wrap .u32 (a + (IntKind.wrap .u32 s8))) 4096).toNat))))) : Int) fun s7_1 => (some (.inl (s7_1, (IntKind.wrap .i64 (s8 - 1)))))) none) (some (.inr s7))) : Option ((Int × Int) ⊕ O_rplainly)))) (fun _ => True) (fun (k : Nat) (s : Int × Int) => s.2 = (k : Int) - 1 ∧ k ≤ 4) (by
    rintro k ⟨x, y⟩ ⟨hy, hk⟩
    have hy' : y = (k : Int) - 1 := hy
    subst hy'
    show (∃ s' m', cond (decide ((k : Int) - 1 ≥ 0)) _ _ = _ ∧ _) ∨ ∃ r, cond (decide ((k : Int) - 1 ≥ 0)) _ _ = _ ∧ _
    by_cases hc : 1 ≤ k
    · left
      have hu : 0 ≤ IntKind.wrap .u32 (a + IntKind.wrap .u32 ((k : Int) - 1)) := by rw [wr_u32]; omega
      have ht : Int.tmod (IntKind.wrap .u32 (a + IntKind.wrap .u32 ((k : Int) - 1))) 4096 = IntKind.wrap .u32 (a + IntKind.wrap .u32 ((k : Int) - 1)) % 4096 := tmod_nn hu
      rw [cpos (by omega), ht, cand (by omega) (by omega), Let_eq, wrap_i64 (x := (k : Int) - 1 - 1) (by omega) (by omega)]
      exact ⟨_, k - 1, rfl, by omega, by show (k : Int) - 1 - 1 = ((k - 1 : Nat) : Int) - 1; omega, by omega⟩
    · right
      rw [cneg (by omega)]
      exact ⟨_, rfl, trivial⟩) n (0, (n : Int) - 1) ⟨rfl, hn⟩
  exact ⟨r, h⟩
theorem rFetch_eq {m : Nat → Int} {log : List E51} {io : Nat → Int} (hm : Byt m) (hl : log.length ≤ 1000000) {a : Int} (h0 : 0 ≤ a) (h1 : a < 4294967296) (n : Nat) (hn : n ≤ 4) {c : Int} : ∃ x e, f_rFetch true m log io 0 0 a (n : Int) c = some (x, log ++ [e]) := by
  obtain ⟨x, hx⟩ := rplainly_eq (P := true) (log := log) (io := io) (nw := 0) (ow := 0) hm h0 h1 n hn
  refine ⟨x, ⟨0, 0, a, n, false, x, IntKind.wrap .i64 (c + 10)⟩, ?_⟩
  unfold f_rFetch
  rw [ctrue rfl, hx, bind_some']
  unfold f_rnote
  rw [cpos (by simp; omega), bind_some']
end Go.Proofs.YtdjgicimfeocbaaGreat
