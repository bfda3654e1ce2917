/-
  The services of the console: memory, quotients, angles, sines.
-/
import Derived.Test.YtnobglfjinehfaaG
import Derived.Test.YtnobglfjinehfaaWrap
namespace Go.Proofs.Ytnobglfjinehfaa
open Go.Vc
set_option linter.unusedVariables false
set_option linter.unusedSimpArgs false

/-! ### the memory -/
def at_ (B a i : Int) : Int := (a + i - B) % 4294967296
theorem at_eq (B a i : Int) : IntKind.wrap .i64 (IntKind.wrap .u32 ((IntKind.wrap .u32 (a + (IntKind.wrap .u32 i))) - B)) = at_ B a i := by
  unfold at_; rw [wr_i64, wr_u32, wr_u32, wr_u32]; omega
theorem at_bd (B a i : Int) : 0 ≤ at_ B a i ∧ at_ B a i < 4294967296 := by unfold at_; omega
noncomputable def rdB (B : Int) (bs : List Int) (a i : Int) : Int := if at_ B a i < (bs.length : Int) then ixL bs (at_ B a i) else 0
noncomputable def rdS (B : Int) (bs : List Int) (a w : Int) : Nat → Int
  | 0 => 0
  | j + 1 => IntKind.wrap .u32 (IntKind.wrap .u32 (rdS B bs a w j * 256) + IntKind.wrap .u32 (rdB B bs a (w - 1 - j)))
theorem rdS_succ (B : Int) (bs : List Int) (a w : Int) (j : Nat) : rdS B bs a w (j + 1) = IntKind.wrap .u32 (IntKind.wrap .u32 (rdS B bs a w j * 256) + IntKind.wrap .u32 (rdB B bs a (w - 1 - j))) := rfl
noncomputable def rd (B : Int) (bs : List Int) (a w : Int) : Int := rdS B bs a w w.toNat
theorem MRead_eq {B : Int} {bs : List Int} {ns : List E59} {a w : Int} (h0 : 0 ≤ w) (h1 : w ≤ 8) : f_MRead B bs ns a w = some (rd B bs a w) := by
  unfold f_MRead rd
  rw [wrap_i64 (x := w - 1) (by omega) (by omega)]
  have e0 : ((0 : Int), w - 1) = (fun j : Nat => (rdS B bs a w j, w - 1 - (j : Int))) 0 := by simp [rdS]
  rw [e0]
  refine loopO_for (fun j : Nat => (rdS B bs a w j, w - 1 - (j : Int))) w.toNat (fun j hj => ?_) ?_
  · show cond (decide (w - 1 - (j : Int) ≥ 0)) (Let _ _) _ = _
    rw [cpos (by omega), Let_eq, at_eq]
    have hb := at_bd B a (w - 1 - (j : Int))
    by_cases hc : at_ B a (w - 1 - (j : Int)) < (bs.length : Int)
    · rw [cpos hc, cand hb.1 hc, Let_eq, wrap_i64 (by omega) (by omega)]
      show _ = some (Sum.inl (rdS B bs a w (j + 1), _))
      rw [rdS_succ]
      unfold rdB
      rw [if_pos hc, show w - 1 - (j : Int) - 1 = w - 1 - ((j + 1 : Nat) : Int) by omega]
    · rw [cneg hc, wrap_i64 (by omega) (by omega)]
      show _ = some (Sum.inl (rdS B bs a w (j + 1), _))
      rw [rdS_succ]
      unfold rdB
      rw [if_neg hc, show w - 1 - (j : Int) - 1 = w - 1 - ((j + 1 : Nat) : Int) by omega]
      have : IntKind.wrap .u32 (rdS B bs a w j * 256) = IntKind.wrap .u32 (IntKind.wrap .u32 (rdS B bs a w j * 256) + IntKind.wrap .u32 0) := by
        rw [wr_u32, wr_u32, wr_u32]; omega
      rw [← this]
  · show cond (decide (w - 1 - (w.toNat : Int) ≥ 0)) _ _ = _
    rw [cneg (by omega)]
theorem rd_bd (B : Int) (bs : List Int) (a w : Int) : 0 ≤ rd B bs a w ∧ rd B bs a w < 4294967296 := by
  unfold rd
  cases w.toNat with
  | zero => exact ⟨Int.le_refl _, show (0 : Int) < 4294967296 by decide⟩
  | succ n => unfold rdS; rw [wr_u32, wr_u32, wr_u32]; omega
/-- All bytes. -/
def okB (bs : List Int) : Prop := ∀ x ∈ bs, 0 ≤ x ∧ x < 256
theorem rdB_bd {B : Int} {bs : List Int} (h : okB bs) (a i : Int) : 0 ≤ rdB B bs a i ∧ rdB B bs a i < 256 := by
  unfold rdB
  have hb := at_bd B a i
  split
  · rename_i hc
    exact h _ (ixL_mem hb.1 hc)
  · omega
theorem rd1 {B : Int} {bs : List Int} (h : okB bs) (a : Int) : rd B bs a 1 = rdB B bs a 0 := by
  show IntKind.wrap .u32 (IntKind.wrap .u32 ((0 : Int) * 256) + IntKind.wrap .u32 (rdB B bs a (1 - 1 - ((0 : Nat) : Int)))) = _
  have := rdB_bd (B := B) h a 0
  rw [show (1 : Int) - 1 - ((0 : Nat) : Int) = 0 by decide, wr_u32, wr_u32, wr_u32]; omega
theorem rd1_bd {B : Int} {bs : List Int} (h : okB bs) (a : Int) : 0 ≤ rd B bs a 1 ∧ rd B bs a 1 < 256 := by rw [rd1 h]; exact rdB_bd h a 0
def wrS (B a x : Int) (bs : List Int) : Nat → Int × List Int
  | 0 => (x, bs)
  | i + 1 => (IntKind.wrap .u32 (Int.tdiv (wrS B a x bs i).1 256), if at_ B a i < ((wrS B a x bs i).2.length : Int) then (wrS B a x bs i).2.set (at_ B a i).toNat (IntKind.wrap .u8 (wrS B a x bs i).1) else (wrS B a x bs i).2)
def wr (B : Int) (bs : List Int) (a w x : Int) : List Int := (wrS B a x bs w.toNat).2
theorem MWrite_eq {B : Int} {bs : List Int} {ns : List E59} {a w x : Int} (h0 : 0 ≤ w) (h1 : w ≤ 8) (hn : ns.length < 9382499223533) :
    f_MWrite B bs ns a w x = some (wr B bs a w x, ns ++ [⟨a, w, x⟩]) := by
  unfold f_MWrite wr
  rw [cpos (by rw [List.length_append]; simp; omega)]
  refine loopO_for (fun i : Nat => ((wrS B a x bs i).1, (i : Int), (wrS B a x bs i).2)) w.toNat (fun i hi => ?_) ?_
  · show cond (decide ((i : Int) < w)) (Let _ _) _ = some (Sum.inl ((wrS B a x bs (i + 1)).1, ((i + 1 : Nat) : Int), (wrS B a x bs (i + 1)).2))
    rw [cpos (by omega), Let_eq, at_eq]
    have hb := at_bd B a i
    by_cases hc : at_ B a i < ((wrS B a x bs i).2.length : Int)
    · rw [cpos hc, cand hb.1 hc, wrap_i64 (by omega) (by omega)]
      simp only [wrS, if_pos hc]; rfl
    · rw [cneg hc, wrap_i64 (by omega) (by omega)]
      simp only [wrS, if_neg hc]; rfl
  · show cond (decide ((w.toNat : Int) < w)) _ _ = _
    rw [cneg (by omega)]
theorem wrS_ok {B a x : Int} {bs : List Int} (h : okB bs) : ∀ i, okB (wrS B a x bs i).2 ∧ (wrS B a x bs i).2.length = bs.length
  | 0 => ⟨h, rfl⟩
  | i + 1 => by
    obtain ⟨h1, h2⟩ := wrS_ok (B := B) (a := a) (x := x) h i
    unfold wrS
    dsimp only
    split
    · refine ⟨fun y hy => ?_, by rw [List.length_set]; exact h2⟩
      rcases List.mem_or_eq_of_mem_set hy with hy | rfl
      · exact h1 y hy
      · rw [wr_u8]; omega
    · exact ⟨h1, h2⟩
theorem wr_ok {B a w x : Int} {bs : List Int} (h : okB bs) : okB (wr B bs a w x) := (wrS_ok h _).1
theorem wr_len {B a w x : Int} {bs : List Int} (h : okB bs) : (wr B bs a w x).length = bs.length := (wrS_ok h _).2

/-! ### quotients -/
theorem Div_rDiv {a b : Int} (ha : -2147483648 ≤ a ∧ a ≤ 2147483647) (hb : -2147483648 ≤ b ∧ b ≤ 2147483647) : f_Div a b = f_rDiv a b := by
  unfold f_Div f_rDiv
  by_cases h0 : b = 0
  · rw [ceq h0, ceq h0]
  rw [cne h0, cne h0, wrap_i64 (x := a) (by omega) (by omega), wrap_i64 (x := b) (by omega) (by omega)]
  have hz : (!(b == 0)) = true := by simpa using h0
  rw [ctrue hz, ctrue hz, ctrue hz, Let_eq, Let_eq, Let_eq, ctrue hz, Let_eq, Let_eq]
  have hq : -2147483648 ≤ Int.tdiv a b ∧ Int.tdiv a b ≤ 2147483648 := by
    have := Int.natAbs_tdiv a b
    have h2 : a.natAbs.div b.natAbs ≤ a.natAbs := Nat.div_le_self _ _
    omega
  have hm := Int.tmod_add_mul_tdiv a b
  have hp : b * Int.tdiv a b = a - Int.tmod a b := by omega
  have hml : -2147483648 ≤ Int.tmod a b ∧ Int.tmod a b ≤ 2147483647 := by
    have := Int.natAbs_tmod a b
    have h2 : a.natAbs % b.natAbs ≤ a.natAbs := Nat.mod_le _ _
    rcases Int.lt_or_le a 0 with h | h
    · have h3 := Int.tmod_nonneg b (a := -a) (by omega)
      rw [Int.neg_tmod] at h3
      omega
    · have : 0 ≤ Int.tmod a b := Int.tmod_nonneg _ h
      omega
  have e1 : IntKind.wrap .i64 (b * Int.tdiv a b) = a - Int.tmod a b := by rw [hp]; exact wrap_i64 (by omega) (by omega)
  rw [wrap_i64 (x := Int.tdiv a b) (by omega) (by omega), e1, show a - (a - Int.tmod a b) = Int.tmod a b by omega, wrap_i64 (x := Int.tmod a b) (by omega) (by omega)]
  have hw := wr_i32 (Int.tdiv a b)
  generalize IntKind.wrap .i32 (Int.tdiv a b) = q at hw
  have hw2 := wr_i32 (0 - q)
  by_cases hn : q < 0
  · rw [cpos hn]
    split
    · rfl
    · have : IntKind.wrap .i32 (0 - q) = q := by omega
      rw [this]
  · rw [cneg hn, if_neg (by omega)]
/-! ### sines -/
noncomputable def sinG (m : Int) : Option Int := (cond (decide (m ≥ 128)) ((f_Sine0 (IntKind.wrap .i64 (m - 128))).bind fun (x10 : O_Sine0) => (some (IntKind.wrap .i64 (0 - x10)))) (Let ((IntKind.wrap .i64 ((IntKind.wrap .i64 (m * (IntKind.wrap .i64 (128 - m)))) * 4)) : Int) fun s3 => (Let ((IntKind.wrap .i64 (Int.tdiv (IntKind.wrap .i64 (s3 * (IntKind.wrap .i64 (12698 + (IntKind.wrap .i64 (Int.tdiv (IntKind.wrap .i64 (3686 * s3)) 16384)))))) 16384)) : Int) fun s2 => (some s2))))
theorem Sine_G (n : Int) : f_Sine n = sinG (bits .and .i64 n 255) := rfl
noncomputable def sinR (m : Int) : Option Int := (cond (decide (m > 127)) (Let ((IntKind.wrap .i64 (m - 128)) : Int) fun s0 => (Let ((IntKind.wrap .i64 ((IntKind.wrap .i64 (4 * s0)) * (IntKind.wrap .i64 (128 - s0)))) : Int) fun s4 => (Let ((IntKind.wrap .i64 ((-1) * (IntKind.wrap .i64 (Int.tdiv (IntKind.wrap .i64 (s4 * (IntKind.wrap .i64 (12698 + (IntKind.wrap .i64 (Int.tdiv (IntKind.wrap .i64 (3686 * s4)) 16384)))))) 16384)))) : Int) fun s2 => (some s2)))) (Let ((IntKind.wrap .i64 ((IntKind.wrap .i64 (4 * m)) * (IntKind.wrap .i64 (128 - m)))) : Int) fun s4_1 => (Let ((IntKind.wrap .i64 (1 * (IntKind.wrap .i64 (Int.tdiv (IntKind.wrap .i64 (s4_1 * (IntKind.wrap .i64 (12698 + (IntKind.wrap .i64 (Int.tdiv (IntKind.wrap .i64 (3686 * s4_1)) 16384)))))) 16384)))) : Int) fun s2_1 => (some s2_1))))
theorem rSine_R (n : Int) : f_rSine n = sinR (bits .and .i64 n 255) := rfl
/-- A table of sines, reckoned. -/
def sn (m : Int) : Int :=
  let p (k : Int) : Int := Int.tdiv (k * (128 - k) * 4 * (12698 + Int.tdiv (3686 * (k * (128 - k) * 4)) 16384)) 16384
  if m ≥ 128 then - p (m - 128) else p m
theorem sin_all : (List.range 256).all (fun k => decide (sinG (k : Int) = some (sn (k : Int))) && decide (sinR (k : Int) = some (sn (k : Int)))) = true := by kernel_rfl
theorem sin_one {k : Nat} (h : k < 256) : sinG (k : Int) = some (sn (k : Int)) ∧ sinR (k : Int) = some (sn (k : Int)) := by
  have := List.all_eq_true.1 sin_all k (List.mem_range.2 h)
  rw [Bool.and_eq_true, decide_eq_true_eq, decide_eq_true_eq] at this
  exact this
theorem and255 (n : Int) : bits .and .i64 n 255 = n % 256 := and64 8 (by decide) (by decide)
theorem Sine_eq (n : Int) : f_Sine n = some (sn (n % 256)) := by
  rw [Sine_G, and255]
  obtain ⟨k, hk⟩ := Int.eq_ofNat_of_zero_le (show 0 ≤ n % 256 by omega)
  rw [hk]; exact (sin_one (by omega)).1
theorem rSine_eq (n : Int) : f_rSine n = some (sn (n % 256)) := by
  rw [rSine_R, and255]
  obtain ⟨k, hk⟩ := Int.eq_ofNat_of_zero_le (show 0 ≤ n % 256 by omega)
  rw [hk]; exact (sin_one (by omega)).2
/-! ### angles -/
theorem ArcTan_r (t : Int) : f_ArcTan t = f_rArcTan t := rfl
theorem ArcTan_ex (t : Int) : ∃ r, f_ArcTan t = some r := by
  unfold f_ArcTan
  rw [Let_eq]
  refine (loopO_ex (fun _ => True) (fun (n : Nat) (s : Int × Int) => ∃ (j : Nat) (b : Int), s = (b, (j : Int)) ∧ n = 7 - j ∧ j ≤ 7) ?_ 7 _ ⟨0, 169, rfl, rfl, by omega⟩).imp fun _ h => h.1
  rintro n s ⟨j, b, rfl, rfl, hj⟩
  by_cases h : j < 7
  · left
    refine ⟨((IntKind.wrap .i32 ((Int.fdiv (IntKind.wrap .i32 (b * IntKind.wrap .i32 (0 - (Int.fdiv (IntKind.wrap .i32 (t * t)) 16384)))) 16384) + (ixL ([912, 2332, 4022, 5802, 8321, 13905, 41721] : List Int) (j : Int)))), ((j + 1 : Nat) : Int)), 7 - (j + 1), ?_, by omega, j + 1, _, rfl, rfl, by omega⟩
    show cond (decide ((j : Int) < 7)) (cond _ (Let _ _) _) _ = _
    rw [cpos (by omega), cand (by omega) (by omega), Let_eq, wrap_i64 (by omega) (by omega)]
    rfl
  · right
    refine ⟨Int.fdiv (IntKind.wrap .i32 (t * b)) 65536, ?_, trivial⟩
    show cond (decide ((j : Int) < 7)) _ (Let _ _) = _
    rw [cneg (by omega), Let_eq]
theorem ratio_r (a b : Int) : f_ratio a b = f_rratio a b := rfl
theorem ratio_ex {a b : Int} (hb : -2147483648 ≤ b ∧ b ≤ 2147483647) (h0 : b ≠ 0) : ∃ r, f_ratio a b = some r := by
  unfold f_ratio
  rw [wrap_i64 (x := b) (by omega) (by omega), ctrue (by simpa using h0)]
  exact ⟨_, rfl⟩
theorem amount_eq (x : Int) (h : -2147483648 ≤ x ∧ x ≤ 2147483647) : f_amount x = some (if IntKind.wrap .i32 (0 - x) > x then IntKind.wrap .i32 (0 - x) else x) := by
  unfold f_amount
  have := wr_i32 (0 - x)
  by_cases hx : x < 0
  · rw [cpos hx]
    split
    · rfl
    · have : IntKind.wrap .i32 (0 - x) = x := by omega
      rw [this]
  · rw [cneg hx, if_neg (by omega)]
theorem ArcTan2_r {x y : Int} (hx : -2147483648 ≤ x ∧ x ≤ 2147483647) (hy : -2147483648 ≤ y ∧ y ≤ 2147483647) : ∃ r, f_ArcTan2 x y = some r ∧ f_rArcTan2 x y = some r := by
  unfold f_ArcTan2 f_rArcTan2
  by_cases h0 : y = 0
  · rw [ceq h0, ceq h0]
    by_cases h : x < 0
    · rw [cneg (by omega), cpos h]; exact ⟨_, rfl, rfl⟩
    · rw [cpos (by omega), cneg h]; exact ⟨_, rfl, rfl⟩
  rw [cne h0, cne h0]
  by_cases h1 : x = 0
  · rw [ceq h1, ceq h1]
    by_cases h : y > 0
    · rw [cpos (by omega), cpos h]; exact ⟨_, rfl, rfl⟩
    · rw [cneg (by omega), cneg h]; exact ⟨_, rfl, rfl⟩
  rw [cne h1, cne h1, Let_eq, Let_eq, amount_eq x hx, bind_some', amount_eq y hy, bind_some']
  obtain ⟨q1, e1⟩ := ratio_ex (a := y) hx h1
  obtain ⟨q2, e2⟩ := ratio_ex (a := x) hy h0
  obtain ⟨t1, g1⟩ := ArcTan_ex q1
  obtain ⟨t2, g2⟩ := ArcTan_ex q2
  simp only [← ratio_r, ← ArcTan_r, e1, e2, bind_some', g1, g2, Let_eq]
  generalize (if IntKind.wrap .i32 (0 - x) > x then IntKind.wrap .i32 (0 - x) else x) = ax
  generalize (if IntKind.wrap .i32 (0 - y) > y then IntKind.wrap .i32 (0 - y) else y) = ay
  by_cases h2 : ax ≥ ay
  · rw [cpos h2, cpos h2, cpos h2]
    by_cases h3 : x > 0
    · rw [cpos h3, cneg (by omega)]; exact ⟨_, rfl, rfl⟩
    · rw [cneg h3, cpos (by omega)]; exact ⟨_, rfl, rfl⟩
  · rw [cneg h2, cneg h2, cneg h2]
    by_cases h3 : y > 0
    · rw [cpos h3]; exact ⟨_, rfl, rfl⟩
    · rw [cneg h3]; exact ⟨_, rfl, rfl⟩
end Go.Proofs.Ytnobglfjinehfaa
