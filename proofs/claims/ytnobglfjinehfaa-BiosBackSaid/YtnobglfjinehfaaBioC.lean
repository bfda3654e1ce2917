/-
  The run that each law makes first; BiosNumbers, BiosRight.
-/
import Derived.Test.YtnobglfjinehfaaBioB
namespace Go.Proofs.Ytnobglfjinehfaa
open Go.Vc
set_option linter.unusedVariables false
set_option linter.unusedSimpArgs false

theorem next_eq (a n B : Int) (bs : List Int) (ns : List E59) : f_next a n B bs ns = some (IntKind.wrap .u8 (rd B bs a 1), IntKind.wrap .u32 (a + 1), IntKind.wrap .i64 (n + 1)) := by
  unfold f_next; rw [MRead_eq (by decide) (by decide), bind_some']
abbrev L0 : List Int := [48, 3, 0, 0, 128, 7]
theorem put2 : f_put 100 [7] 3 0 L0 [] 7 = some (true, [7, 7], wr 0 L0 100 2 1799, [⟨100, 2, 1799⟩]) := by
  unfold f_put
  show ((f_MWrite 0 L0 [] 100 2 1799).bind _) = _
  rw [MWrite_eq (by decide) (by decide) (by decide), bind_some']; rfl
theorem put3 (bs : List Int) (ns : List E59) : f_put 100 [7, 7] 3 0 bs ns 7 = some (false, [7, 7, 7], bs, ns) := rfl
theorem awake_runs : f_runs 4 0 0 L0 [] 100 [] 3 = some (6, 2, wr 0 L0 100 2 1799, [⟨100, 2, 1799⟩], [7, 7, 7]) := by
  unfold f_runs
  rw [loopO_eq]
  show (((f_next 4 0 0 L0 []).bind _).bind _) = _
  rw [show f_next 4 0 0 L0 [] = some (128, 5, 1) from by rw [next_eq]; kernel_rfl, bind_some']
  show (((f_next 5 1 0 L0 []).bind _).bind _) = _
  rw [show f_next 5 1 0 L0 [] = some (7, 6, 2) from by rw [next_eq]; kernel_rfl, bind_some']
  show ((loopO _ _).bind _) = _
  rw [show IntKind.wrap .i64 (IntKind.wrap .i64 (IntKind.wrap .i64 (bits .and .u8 128 127) + 1) + 2) = 3 from by kernel_rfl, show ((Int.fdiv 128 128) == 1) = true from by kernel_rfl]
  rw [loopO_eq]
  show Option.bind (Option.bind (cond (decide ((0 : Int) < 3)) _ _) _) _ = _
  rw [cpos (by decide), cfalse (show (!true) = false from rfl)]
  show ((((f_put 100 [] 3 0 L0 [] 7).bind _).bind _).bind _) = _
  rw [show f_put 100 [] 3 0 L0 [] 7 = some (true, [7], L0, []) from rfl, bind_some']
  show ((loopO _ _).bind _) = _
  rw [loopO_eq]
  show Option.bind (Option.bind (cond (decide ((1 : Int) < 3)) _ _) _) _ = _
  rw [cpos (by decide), cfalse (show (!true) = false from rfl)]
  show ((((f_put 100 [7] 3 0 L0 [] 7).bind _).bind _).bind _) = _
  rw [put2, bind_some']
  show ((loopO _ _).bind _) = _
  rw [loopO_eq]
  show Option.bind (Option.bind (cond (decide ((2 : Int) < 3)) _ _) _) _ = _
  rw [cpos (by decide), cfalse (show (!true) = false from rfl)]
  show ((((f_put 100 [7, 7] 3 0 (wr 0 L0 100 2 1799) [⟨100, 2, 1799⟩] 7).bind _).bind _).bind _) = _
  rw [put3, bind_some']
  rfl
theorem awake_unpack : f_Unpack 0 L0 [] 0 100 = some (3, wr 0 (wr 0 L0 100 2 1799) 102 2 7, [⟨100, 2, 1799⟩, ⟨102, 2, 7⟩]) := by
  unfold f_Unpack f_head
  show (((f_MRead 0 L0 [] (bits .andNot .u32 0 3) 4).bind _).bind _) = _
  rw [show f_MRead 0 L0 [] (bits .andNot .u32 0 3) 4 = some 816 from by rw [MRead_eq (by decide) (by decide)]; kernel_rfl, bind_some']
  show ((f_runs 4 0 0 L0 [] 100 [] 3).bind _) = _
  rw [awake_runs, bind_some']
  show ((((f_MWrite 0 (wr 0 L0 100 2 1799) [⟨100, 2, 1799⟩] 102 2 7).bind _)).bind _) = _
  rw [MWrite_eq (by decide) (by decide) (by decide), bind_some']
  rfl
theorem awake_eq : f_awake = some true := by
  unfold f_awake
  rw [show f_Div (-7) 2 = some (-3, -1, 3) from rfl, bind_some']
  show ((f_Unpack 0 L0 [] 0 100).bind _) = _
  rw [awake_unpack, bind_some']
  obtain ⟨r, e, h0, h1, h2, h3⟩ := Sqrt_spec (x := 99) (by decide) (by decide)
  have : r = 9 := root_uniq h0 (by decide) h2 h3 (by decide) (by decide)
  subst this
  show ((f_Sqrt 99).bind _) = _
  rw [e, bind_some']; rfl
theorem u32_bd (x : Int) : 0 ≤ IntKind.wrap .u32 x ∧ IntKind.wrap .u32 x < 4294967296 := by rw [wr_u32]; omega
theorem Div_ex {a b : Int} (hb : -2147483648 ≤ b ∧ b ≤ 2147483647) : ∃ q r x, f_Div a b = some (q, r, x) := by
  unfold f_Div
  by_cases h0 : b = 0
  · rw [ceq h0]
    cases hd : decide (a < 0) <;> exact ⟨_, _, _, rfl⟩
  rw [cne h0, wrap_i64 (x := b) (by omega) (by omega)]
  have hz : (!(b == 0)) = true := by simpa using h0
  rw [ctrue hz, ctrue hz, Let_eq, Let_eq]
  cases hd : decide (IntKind.wrap .i32 (IntKind.wrap .i64 (Int.tdiv (IntKind.wrap .i64 a) b)) < 0) <;> exact ⟨_, _, _, rfl⟩
theorem BiosNumbers_eq {a b n : Int} (ha : -2147483648 ≤ a ∧ a ≤ 2147483647) (hb : -2147483648 ≤ b ∧ b ≤ 2147483647) : f_BiosNumbers a b n = some true := by
  unfold f_BiosNumbers
  rw [awake_eq, bind_some']
  show ((f_Div a b).bind _) = _
  rw [← Div_rDiv ha hb]
  obtain ⟨q, r, x, h⟩ := Div_ex (a := a) hb
  rw [h, bind_some']
  show ((some (q, r, x)).bind _) = _
  rw [bind_some']
  show cond (q == q) (cond (r == r) (cond (x == x) _ _) _) _ = _
  rw [ceq rfl, ceq rfl, ceq rfl]
  obtain ⟨u, e, h0, h1, h2, h3⟩ := Sqrt_spec (u32_bd a).1 (u32_bd a).2
  obtain ⟨v, e', g0, g1, g2, g3⟩ := rSqrt_spec (u32_bd a).1 (u32_bd a).2
  rw [e, bind_some', e', bind_some', ceq (root_uniq h0 g0 h2 h3 g2 g3)]
  obtain ⟨t, ht⟩ := ArcTan_ex a
  rw [← ArcTan_r, ht, bind_some', bind_some', ceq rfl]
  obtain ⟨z, z1, z2⟩ := ArcTan2_r ha hb
  rw [z1, bind_some', z2, bind_some', ceq rfl, Sine_eq, bind_some', rSine_eq, bind_some']
  simp
/-! ### BiosRight -/
theorem sn_all : (List.range 256).all (fun k => decide (sn (k : Int) = - sn (((k : Int) + 128) % 256)) && decide (sn (k : Int) ≤ 16384) && decide (-16384 ≤ sn (k : Int)) && (decide (k > 128) || decide (sn (k : Int) = sn ((128 - (k : Int)) % 256)))) = true := by kernel_rfl
theorem sn_one {k : Int} (h0 : 0 ≤ k) (h : k < 256) : sn k = - sn ((k + 128) % 256) ∧ sn k ≤ 16384 ∧ -16384 ≤ sn k ∧ (k ≤ 128 → sn k = sn ((128 - k) % 256)) := by
  obtain ⟨n, rfl⟩ := Int.eq_ofNat_of_zero_le h0
  have := List.all_eq_true.1 sn_all n (List.mem_range.2 (by omega))
  simp only [Bool.and_eq_true, Bool.or_eq_true, decide_eq_true_eq] at this
  obtain ⟨⟨⟨h1, h2⟩, h3⟩, h4⟩ := this
  exact ⟨h1, h2, h3, fun h => h4.resolve_left (by omega)⟩
theorem BiosRight_eq {a b n : Int} (ha : -2147483648 ≤ a ∧ a ≤ 2147483647) (hb : -2147483648 ≤ b ∧ b ≤ 2147483647) : f_BiosRight a b n = some true := by
  unfold f_BiosRight
  rw [awake_eq, bind_some']
  have hu := u32_bd a
  obtain ⟨u, e, h0, h1, h2, h3⟩ := Sqrt_spec hu.1 hu.2
  show ((f_Sqrt (IntKind.wrap .u32 a)).bind _) = _
  have hs := sq_le (a := u + 1) (b := 65536) (by omega) (by omega)
  have hs0 := Int.mul_nonneg h0 h0
  rw [e, bind_some']
  generalize IntKind.wrap .u32 a = x at hu h2 h3
  have v1 : IntKind.wrap .u64 u = u := by rw [wr_u64]; omega
  have v2 : IntKind.wrap .u64 (u + 1) = u + 1 := by rw [wr_u64]; omega
  have v3 : IntKind.wrap .u64 (u * u) = u * u := by rw [wr_u64]; omega
  have v4 : IntKind.wrap .u64 ((u + 1) * (u + 1)) = (u + 1) * (u + 1) := by
    have := sq_le (a := 0) (b := u + 1) (by omega) (by omega)
    rw [wr_u64]; omega
  have v5 : IntKind.wrap .u64 x = x := by rw [wr_u64]; omega
  rw [v1, v2, v3, v4, v5, cneg (by omega), cneg (by omega), and255]
  have hk : 0 ≤ n % 256 ∧ n % 256 < 256 := by omega
  generalize n % 256 = k at hk
  obtain ⟨k1, k2, k3, k4⟩ := sn_one hk.1 hk.2
  have em : k % 256 = k := by omega
  have ew : IntKind.wrap .i64 (k + 128) = k + 128 := wrap_i64 (by omega) (by omega)
  have ew2 : IntKind.wrap .i64 (128 - k) = 128 - k := wrap_i64 (by omega) (by omega)
  have kb := sn_one (k := (k + 128) % 256) (by omega) (by omega)
  have ew3 : IntKind.wrap .i64 (0 - sn ((k + 128) % 256)) = - sn ((k + 128) % 256) := by rw [wrap_i64 (by omega) (by omega)]; omega
  simp only [Sine_eq, bind_some', em, ew, ew2, ew3]
  rw [cbeq k1]
  have fin : ((f_Div a b).bind fun (o : O_Div) => (match o with | (x66a, x66b, x66c) => (cond (b == 0) (some true) (cond ((IntKind.wrap .i32 ((IntKind.wrap .i32 (x66a * b)) + x66b)) == a) (cond (x66b == 0) (cond (decide ((if (IntKind.wrap .i32 (0 - x66b)) > x66b then (IntKind.wrap .i32 (0 - x66b)) else x66b) < (if (IntKind.wrap .i32 (0 - b)) > b then (IntKind.wrap .i32 (0 - b)) else b))) (some true) (some (b == (-2147483648)))) (cond ((decide (x66b < 0)) == (decide (a < 0))) (cond (decide ((if (IntKind.wrap .i32 (0 - x66b)) > x66b then (IntKind.wrap .i32 (0 - x66b)) else x66b) < (if (IntKind.wrap .i32 (0 - b)) > b then (IntKind.wrap .i32 (0 - b)) else b))) (some true) (some (b == (-2147483648)))) (some (b == (-2147483648))))) (some (b == (-2147483648))))))) = (some true : Option O_BiosRight) := by
    by_cases hb0 : b = 0
    · obtain ⟨q, r, y, hd⟩ := Div_ex (a := a) hb
      rw [hd, bind_some']
      show cond (b == 0) _ _ = _
      rw [ceq hb0]
    by_cases hbm : b = -2147483648
    · obtain ⟨q, r, y, hd⟩ := Div_ex (a := a) hb
      rw [hd, bind_some']
      show cond (b == 0) _ _ = _
      rw [cne hb0]
      have : ∀ c : Bool, cond c (some true : Option Bool) (some (b == (-2147483648))) = some true := fun c => by rw [hbm]; cases c <;> rfl
      simp only [this, show (b == (-2147483648)) = true from by rw [hbm]; rfl, csame]
    have hq : (-2147483648 ≤ Int.tdiv a b ∧ Int.tdiv a b ≤ 2147483648) := by
      have := Int.natAbs_tdiv a b
      have h2 : a.natAbs.div b.natAbs ≤ a.natAbs := Nat.div_le_self _ _
      omega
    have hm := Int.tmod_add_mul_tdiv a b
    have hp : Int.tdiv a b * b = a - Int.tmod a b := by rw [Int.mul_comm]; omega
    have hab := Int.natAbs_tmod a b
    have hlt : a.natAbs % b.natAbs < b.natAbs := Nat.mod_lt _ (by omega)
    have hle : a.natAbs % b.natAbs ≤ a.natAbs := Nat.mod_le _ _
    have hsg : (a < 0 → Int.tmod a b ≤ 0) ∧ (0 ≤ a → 0 ≤ Int.tmod a b) := by
      refine ⟨fun h => ?_, fun h => Int.tmod_nonneg _ h⟩
      have h3 := Int.tmod_nonneg b (a := -a) (by omega)
      rw [Int.neg_tmod] at h3; omega
    have hd : ∃ y, f_Div a b = some (IntKind.wrap .i32 (Int.tdiv a b), Int.tmod a b, y) := by
      unfold f_Div
      rw [cne hb0, wrap_i64 (x := b) (by omega) (by omega), wrap_i64 (x := a) (by omega) (by omega)]
      have hz : (!(b == 0)) = true := by simpa using hb0
      have w1 : IntKind.wrap .i32 (Int.tmod a b) = Int.tmod a b := by rw [wr_i32]; omega
      rw [ctrue hz, ctrue hz, Let_eq, Let_eq, w1, wrap_i64 (x := Int.tdiv a b) (by omega) (by omega)]
      cases hd : decide (IntKind.wrap .i32 (Int.tdiv a b) < 0) <;> exact ⟨_, rfl⟩
    obtain ⟨y, hd⟩ := hd
    rw [hd, bind_some']
    show cond (b == 0) _ (cond ((IntKind.wrap .i32 ((IntKind.wrap .i32 (IntKind.wrap .i32 (Int.tdiv a b) * b)) + Int.tmod a b)) == a) _ _) = _
    have hqb : IntKind.wrap .i32 ((IntKind.wrap .i32 (IntKind.wrap .i32 (Int.tdiv a b) * b)) + Int.tmod a b) = a := by
      by_cases hov : Int.tdiv a b = 2147483648
      · have hbb : b = -1 := by
          have h2 : a.natAbs.div b.natAbs = 2147483648 := by have := Int.natAbs_tdiv a b; omega
          have h3 : a.natAbs / b.natAbs * b.natAbs ≤ a.natAbs := Nat.div_mul_le_self _ _
          have h4 : a.natAbs / b.natAbs = 2147483648 := h2
          rw [h4] at h3
          have : b.natAbs = 1 := by omega
          have : b = 1 ∨ b = -1 := by omega
          rcases this with h | h
          · subst h; rw [Int.tdiv_one] at hov; omega
          · exact h
        rw [hov, hbb] at hp ⊢
        rw [wr_i32, wr_i32, wr_i32]
        rw [hbb] at hlt
        omega
      · have w1 : IntKind.wrap .i32 (Int.tdiv a b) = Int.tdiv a b := by rw [wr_i32]; omega
        rw [w1, hp, wr_i32, wr_i32]; omega
    rw [cne hb0, hqb, ceq rfl]
    have mb := wr_i32 (0 - b)
    have mr := wr_i32 (0 - Int.tmod a b)
    have hmax : (if (IntKind.wrap .i32 (0 - Int.tmod a b)) > Int.tmod a b then (IntKind.wrap .i32 (0 - Int.tmod a b)) else Int.tmod a b) < (if (IntKind.wrap .i32 (0 - b)) > b then (IntKind.wrap .i32 (0 - b)) else b) := by
      split <;> split <;> omega
    rw [cpos hmax]
    by_cases hr : Int.tmod a b = 0
    · rw [ceq hr]
    · rw [cne hr]
      have : (decide (Int.tmod a b < 0) == decide (a < 0)) = true := by
        by_cases h : a < 0
        · have := hsg.1 h
          rw [decide_eq_true h, decide_eq_true (show Int.tmod a b < 0 by omega)]; rfl
        · have := hsg.2 (by omega)
          rw [decide_eq_false h, decide_eq_false (show ¬ Int.tmod a b < 0 by omega)]; rfl
      rw [ctrue this]
  by_cases hk8 : k ≤ 128
  · rw [cpos hk8, cbeq (k4 hk8)]
    rw [cneg (show ¬ (sn k > (16384 : Int)) by omega)]
    exact fin
  · rw [cneg hk8, cneg (show ¬ (sn k > (16384 : Int)) by omega)]
    exact fin
end Go.Proofs.Ytnobglfjinehfaa
