/-
  Towards BiosBack: the program's readings, with an invariant that each step keeps.
-/
import Derived.Test.YtnobglfjinehfaaBioR
namespace Go.Proofs.Ytnobglfjinehfaa
open Go.Vc
set_option linter.unusedVariables false
set_option linter.unusedSimpArgs false

theorem outer_inv {size : Int} {P : Int × Int × List Int × List E59 × List Int → Option ((Int × Int × List Int × List E59 × List Int) ⊕ (Int × Int × List Int × List E59 × List Int))} (step : S4 → S4) (J : S4 → Prop)
    (hJ : ∀ s : S4, J s → Inv size s.2) (hinv : ∀ s : S4, J s → ¬ full size s.2 → J (step s)) (hgrow : ∀ s : S4, Inv size s.2 → ¬ full size s.2 → s.2.2.2.length < (step s).2.2.2.length)
    (hP : ∀ (a n : Int) (m : M3), Inv size m → ¬ full size m → ∃ n', P (a, n, m.1, m.2.1, m.2.2) = some (if full size (step (a, m)).2 then .inr ((step (a, m)).1, n', (step (a, m)).2.1, (step (a, m)).2.2.1, (step (a, m)).2.2.2) else .inl ((step (a, m)).1, n', (step (a, m)).2.1, (step (a, m)).2.2.1, (step (a, m)).2.2.2))) :
    ∀ (d : Nat) (a n : Int) (m : M3), size - (m.2.2.length : Int) ≤ (d : Int) → J (a, m) → ¬ full size m → ∃ (a1 n1 : Int) (m' : M3), loopO P (a, n, m.1, m.2.1, m.2.2) = some (a1, n1, m'.1, m'.2.1, m'.2.2) ∧ J (a1, m') ∧ full size m' := by
  intro d
  induction d with
  | zero =>
    intro a n m hd hi hf
    exact absurd (show size ≤ (m.2.2.length : Int) by omega) hf
  | succ d ih =>
    intro a n m hd hj hf
    have hi := hJ _ hj
    obtain ⟨n', e⟩ := hP a n m hi hf
    have hg := hgrow (a, m) hi hf
    have hj' := hinv (a, m) hj hf
    by_cases h : full size (step (a, m)).2
    · refine ⟨(step (a, m)).1, n', (step (a, m)).2, ?_, hj', h⟩
      rw [loopO_eq, e, if_pos h, bind_some']
    · have hd' : size - ((step (a, m)).2.2.2.length : Int) ≤ (d : Int) := by
        have : m.2.2.length < (step (a, m)).2.2.2.length := hg
        omega
      obtain ⟨a1, n1, m', e1, e2, e3⟩ := ih (step (a, m)).1 n' (step (a, m)).2 hd' hj' h
      refine ⟨a1, n1, m', ?_, e2, e3⟩
      rw [loopO_eq, e, if_neg h, bind_some']; exact e1
theorem again_val {B to size : Int} {a n : Int} {m : M3} (J : S4 → Prop) (hJ : ∀ s, J s → Inv size s.2) (hs : ∀ s, J s → ¬ full size s.2 → J (agstep B to size s)) (hj : J (a, m)) (hf : ¬ full size m) : ∃ (a1 n1 : Int) (m' : M3), f_again a n B m.1 m.2.1 to m.2.2 size = some (a1, n1, m'.1, m'.2.1, m'.2.2) ∧ J (a1, m') ∧ full size m' := by
  unfold f_again
  refine outer_inv (agstep B to size) J hJ hs (fun s h hf => (fgo_grow 8 (s := ((s.1 + 1) % 4294967296, s.2)) h).2 hf (by decide)) ?_ size.toNat a n m (by omega) hj hf
  · intro a n m hi hf
    show ∃ n', ((f_next a n B m.1 m.2.1).bind _) = _
    rw [next_m hi, bind_some']
    have hx := nb_bd (B := B) hi a
    rw [show agstep B to size (a, m) = fgo B to size (nb B m a) 8 ((a + 1) % 4294967296, m) from rfl]
    generalize nb B m a = x at hx
    refine (fl_prog (B := B) (to := to) (size := size) (x := x) (fun a n m => .inl (a, n, m.1, m.2.1, m.2.2)) (fun a n m => .inr (a, n, m.1, m.2.1, m.2.2)) ?_ ?_ 8 ((a + 1) % 4294967296) (IntKind.wrap .i64 (n + 1)) m (by decide) hi hf).imp fun n' h => h.trans ?_
    · intro a n m; rfl
    · intro k a n m hk hi hf
      have hb1 := nb_bd (B := B) hi a
      have hb2 := nb_bd (B := B) hi ((a + 1) % 4294967296)
      have e0 : ∀ r, (cond (decide ((k : Int) ≥ 0)) (cond (decide (0 ≤ (k : Int))) r none) (some (.inr (.inl (a, n, m.1, m.2.1, m.2.2)))) : Option ((Int × Int × Int × List Int × List E59 × List Int) ⊕ ((Int × Int × List Int × List E59 × List Int) ⊕ (Int × Int × List Int × List E59 × List Int)))) = r := fun r => by rw [cpos (by omega), cpos (by omega)]
      by_cases hbit : x / ((2 ^ k : Nat) : Int) % 2 = 0
      · have ef : fstep B to size x k (a, m) = ((a + 1) % 4294967296, pt B to size (nb B m a) m) := by unfold fstep; rw [if_pos hbit]
        rw [ef]
        refine ⟨IntKind.wrap .i64 (n + 1), if_split ?_⟩
        refine (e0 (cond ((bits .and .u8 (Int.fdiv x (2 ^ (min ((k : Nat) : Int).toNat 8))) 1) == 0) ((f_next a n B m.1 m.2.1).bind _) _)).trans ?_
        rw [pow8 hk, bit8 hx.1 hx.2, ceq hbit, next_m hi, bind_some']
        show ((f_put to m.2.2 size B m.1 m.2.1 (nb B m a)).bind _) = _
        rw [put_eq hi hb1, bind_some']
        show cond (!(decide (¬ full size (pt B to size (nb B m a) m)))) _ _ = _
        by_cases h : full size (pt B to size (nb B m a) m)
        · rw [ctrue (by simpa using h), if_pos h]
        · rw [cfalse (by simpa using h), if_neg h, wrap_i64 (x := (k : Int) - 1) (by omega) (by omega)]
      · have ef : fstep B to size x k (a, m) = (((a + 1) % 4294967296 + 1) % 4294967296, cp B to size (nb B m a % 16 * 256 + nb B m ((a + 1) % 4294967296) + 1) (nb B m a / 16 + 3).toNat m) := by unfold fstep; rw [if_neg hbit]
        rw [ef]
        have hback : IntKind.wrap .i64 ((bits .or .i64 (IntKind.wrap .i64 ((IntKind.wrap .i64 (bits .and .u8 (nb B m a) 15)) * 256)) (IntKind.wrap .i64 (nb B m ((a + 1) % 4294967296)))) + 1) = nb B m a % 16 * 256 + nb B m ((a + 1) % 4294967296) + 1 := by
          rw [and8 4 (by decide) (by decide) hb1.1 hb1.2]
          simp only [show ((2 ^ 4 : Nat) : Int) = 16 by decide]
          rw [wrap_i64 (x := nb B m a % 16) (by omega) (by omega), wrap_i64 (x := nb B m a % 16 * 256) (by omega) (by omega), wrap_i64 (x := nb B m ((a + 1) % 4294967296)) (by omega) (by omega), or64 8 hb2.1 (by simpa using hb2.2) (by omega) (by omega) (by simp), wrap_i64 (by omega) (by omega)]
        have hcnt : IntKind.wrap .i64 ((IntKind.wrap .i64 (Int.fdiv (nb B m a) 16)) + 3) = nb B m a / 16 + 3 := by
          rw [fdiv_pos (by decide), wrap_i64 (x := nb B m a / 16) (by omega) (by omega), wrap_i64 (by omega) (by omega)]
        have hbk : 0 < nb B m a % 16 * 256 + nb B m ((a + 1) % 4294967296) + 1 := by omega
        have hbk2 : nb B m a % 16 * 256 + nb B m ((a + 1) % 4294967296) + 1 ≤ 5000 := by omega
        have hc0 : 0 ≤ nb B m a / 16 + 3 ∧ nb B m a / 16 + 3 ≤ 20 := by omega
        refine ⟨IntKind.wrap .i64 (IntKind.wrap .i64 (n + 1) + 1), if_split ?_⟩
        refine (e0 (cond ((bits .and .u8 (Int.fdiv x (2 ^ (min ((k : Nat) : Int).toNat 8))) 1) == 0) _ ((f_next a n B m.1 m.2.1).bind _))).trans ?_
        rw [pow8 hk, bit8 hx.1 hx.2, cne hbit, next_m hi, bind_some']
        show ((f_next ((a + 1) % 4294967296) (IntKind.wrap .i64 (n + 1)) B m.1 m.2.1).bind _) = _
        rw [next_m hi, bind_some']
        show Let _ _ = _
        rw [Let_eq, Let_eq, hback, hcnt]
        generalize nb B m a % 16 * 256 + nb B m ((a + 1) % 4294967296) + 1 = back at hbk hbk2
        generalize nb B m a / 16 + 3 = c at hc0
        obtain ⟨c, rfl⟩ := Int.eq_ofNat_of_zero_le hc0.1
        rw [show ((c : Nat) : Int).toNat = c from rfl]
        refine cp_prog (B := B) (to := to) (size := size) (c := c) hbk (fun m' => (.inl ((k : Int) - 1, ((a + 1) % 4294967296 + 1) % 4294967296, IntKind.wrap .i64 (IntKind.wrap .i64 (n + 1) + 1), m'.1, m'.2.1, m'.2.2) : ((Int × Int × Int × List Int × List E59 × List Int) ⊕ ((Int × Int × List Int × List E59 × List Int) ⊕ (Int × Int × List Int × List E59 × List Int))))) (fun m' => .inr (.inr (((a + 1) % 4294967296 + 1) % 4294967296, IntKind.wrap .i64 (IntKind.wrap .i64 (n + 1) + 1), m'.1, m'.2.1, m'.2.2))) ?_ c 0 m (by omega) hi hf
        · intro j m' hi'
          have hl := hi'.len
          have hs1 := hi'.s1
          have hsb := sel_bd (back := back) hi' hbk
          by_cases hj : j < c
          · rw [if_pos hj]
            have fin1 : ((f_put to m'.2.2 size B m'.1 m'.2.1 (sel back m')).bind fun (o : O_put) => (match o with | (x68, w_9_r_xs_cell_q0_2, w_9_r_xs_cell_q0_m_b_1, w_9_r_xs_cell_q0_m_b_2) => (cond (!x68) (some (.inr (.inr (.inr (((a + 1) % 4294967296 + 1) % 4294967296, IntKind.wrap .i64 (IntKind.wrap .i64 (n + 1) + 1), w_9_r_xs_cell_q0_m_b_1, w_9_r_xs_cell_q0_m_b_2, w_9_r_xs_cell_q0_2))))) (some (.inl ((IntKind.wrap .i64 ((j : Int) + 1)), w_9_r_xs_cell_q0_m_b_1, w_9_r_xs_cell_q0_m_b_2, w_9_r_xs_cell_q0_2)))))) = (if full size (pt B to size (sel back m') m') then some (.inr (.inr (.inr (((a + 1) % 4294967296 + 1) % 4294967296, IntKind.wrap .i64 (IntKind.wrap .i64 (n + 1) + 1), (pt B to size (sel back m') m').1, (pt B to size (sel back m') m').2.1, (pt B to size (sel back m') m').2.2)))) else some (.inl (((j + 1 : Nat) : Int), (pt B to size (sel back m') m').1, (pt B to size (sel back m') m').2.1, (pt B to size (sel back m') m').2.2)) : Option ((Int × List Int × List E59 × List Int) ⊕ ((Int × Int × Int × List Int × List E59 × List Int) ⊕ ((Int × Int × List Int × List E59 × List Int) ⊕ (Int × Int × List Int × List E59 × List Int))))) := by
              rw [put_eq hi' hsb, bind_some']
              show cond (!(decide (¬ full size (pt B to size (sel back m') m')))) _ _ = _
              by_cases h : full size (pt B to size (sel back m') m')
              · rw [ctrue (by simpa using h), if_pos h]
              · rw [cfalse (by simpa using h), if_neg h, wrap_i64 (by omega) (by omega)]; rfl
            show cond (decide ((j : Int) < (c : Int))) (cond (decide (back ≤ ((m'.2.2.length : Nat) : Int))) (cond _ ((f_put to m'.2.2 size B m'.1 m'.2.1 (ixL m'.2.2 (IntKind.wrap .i64 (((m'.2.2.length : Nat) : Int) - back)))).bind _) none) ((f_put to m'.2.2 size B m'.1 m'.2.1 0).bind _)) _ = _
            rw [cpos (by omega)]
            by_cases hbl : back ≤ ((m'.2.2.length : Nat) : Int)
            · have es : sel back m' = ixL m'.2.2 (((m'.2.2.length : Nat) : Int) - back) := by unfold sel; rw [if_pos hbl]
              rw [cpos hbl, wrap_i64 (x := ((m'.2.2.length : Nat) : Int) - back) (by omega) (by omega), cand (by omega) (by omega), ← es]
              exact fin1
            · have es : sel back m' = 0 := by unfold sel; rw [if_neg hbl]
              rw [cneg hbl]
              rw [es] at fin1 ⊢
              exact fin1
          · rw [if_neg hj]
            show cond (decide ((j : Int) < (c : Int))) _ (some (Sum.inr (Sum.inl (IntKind.wrap .i64 ((k : Int) - 1), _)))) = _
            rw [cneg (by omega), wrap_i64 (x := (k : Int) - 1) (by omega) (by omega)]
    · split <;> rfl
theorem runs_val {B to size : Int} {a n : Int} {m : M3} (J : S4 → Prop) (hJ : ∀ s, J s → Inv size s.2) (hs : ∀ s, J s → ¬ full size s.2 → J (rstep B to size s)) (hj : J (a, m)) (hf : ¬ full size m) : ∃ (a1 n1 : Int) (m' : M3), f_runs a n B m.1 m.2.1 to m.2.2 size = some (a1, n1, m'.1, m'.2.1, m'.2.2) ∧ J (a1, m') ∧ full size m' := by
  unfold f_runs
  refine outer_inv (rstep B to size) J hJ hs rstep_grow ?_ size.toNat a n m (by omega) hj hf
  · intro a n m hi hf
    show ∃ n', ((f_next a n B m.1 m.2.1).bind _) = _
    rw [next_m hi, bind_some']
    have hx := nb_bd (B := B) hi a
    have hx2 := nb_bd (B := B) hi ((a + 1) % 4294967296)
    have hs5 : IntKind.wrap .i64 ((IntKind.wrap .i64 (bits .and .u8 (nb B m a) 127)) + 1) = nb B m a % 128 + 1 := by
      rw [and8 7 (by decide) (by decide) hx.1 hx.2]
      simp only [show ((2 ^ 7 : Nat) : Int) = 128 by decide]
      rw [wrap_i64 (x := nb B m a % 128) (by omega) (by omega), wrap_i64 (by omega) (by omega)]
    have hfd : Int.fdiv (nb B m a) 128 = nb B m a / 128 := fdiv_pos (by decide)
    by_cases hc : nb B m a ≥ 128
    · have er : rstep B to size (a, m) = (((a + 1) % 4294967296 + 1) % 4294967296, rp B to size (nb B m ((a + 1) % 4294967296)) (nb B m a % 128 + 3).toNat m) := by unfold rstep; rw [if_pos hc]
      rw [er]
      refine ⟨IntKind.wrap .i64 (IntKind.wrap .i64 (n + 1) + 1), ?_⟩
      show Let _ _ = _
      rw [Let_eq, hs5, hfd]
      have hq : (nb B m a / 128 == 1) = true := by simp; omega
      show cond (nb B m a / 128 == 1) ((f_next ((a + 1) % 4294967296) (IntKind.wrap .i64 (n + 1)) B m.1 m.2.1).bind _) _ = _
      rw [ctrue hq, next_m hi, bind_some', hq]
      have hcn : IntKind.wrap .i64 (nb B m a % 128 + 1 + 2) = nb B m a % 128 + 3 := by rw [wrap_i64 (by omega) (by omega)]; omega
      rw [hcn]
      have hc0 : 0 ≤ nb B m a % 128 + 3 ∧ nb B m a % 128 + 3 ≤ 200 := by omega
      generalize nb B m a % 128 + 3 = c at hc0
      obtain ⟨c, rfl⟩ := Int.eq_ofNat_of_zero_le hc0.1
      rw [show ((c : Nat) : Int).toNat = c from rfl]
      generalize nb B m ((a + 1) % 4294967296) = x at hx2
      show loopO _ (x, (0 : Int), ((a + 1) % 4294967296 + 1) % 4294967296, IntKind.wrap .i64 (IntKind.wrap .i64 (n + 1) + 1), m.1, m.2.1, m.2.2) = _
      refine (rp_prog (B := B) (to := to) (size := size) (x := x) (c := c) (fun j m => (x, j, ((a + 1) % 4294967296 + 1) % 4294967296, IntKind.wrap .i64 (IntKind.wrap .i64 (n + 1) + 1), m.1, m.2.1, m.2.2)) hx2 (fun m' => (.inl (((a + 1) % 4294967296 + 1) % 4294967296, IntKind.wrap .i64 (IntKind.wrap .i64 (n + 1) + 1), m'.1, m'.2.1, m'.2.2) : ((Int × Int × List Int × List E59 × List Int) ⊕ (Int × Int × List Int × List E59 × List Int)))) (fun m' => .inr (((a + 1) % 4294967296 + 1) % 4294967296, IntKind.wrap .i64 (IntKind.wrap .i64 (n + 1) + 1), m'.1, m'.2.1, m'.2.2)) ?_ c 0 m (by omega) hi hf)
      intro j m' hi'
      show cond (decide ((j : Int) < (c : Int))) (cond (!true) _ ((f_put to m'.2.2 size B m'.1 m'.2.1 x).bind _)) _ = _
      by_cases hj : j < c
      · rw [cpos (by omega), cfalse (show (!true) = false from rfl), if_pos hj, put_eq hi' hx2, bind_some']
        show cond (!(decide (¬ full size (pt B to size x m')))) _ _ = _
        by_cases h : full size (pt B to size x m')
        · rw [ctrue (by simpa using h), if_pos h]
        · rw [cfalse (by simpa using h), if_neg h, wrap_i64 (x := (j : Int) + 1) (by omega) (by omega)]; rfl
      · rw [cneg (by omega), if_neg hj]
    · have er : rstep B to size (a, m) = lg B to size (nb B m a + 1).toNat ((a + 1) % 4294967296, m) := by unfold rstep; rw [if_neg hc]
      rw [er]
      show ∃ n', Let _ _ = _
      rw [Let_eq, hs5, hfd]
      have hq : (nb B m a / 128 == 1) = false := by simp; omega
      show ∃ n', cond (nb B m a / 128 == 1) _ (loopO _ _) = _
      rw [cfalse hq, hq, show nb B m a % 128 + 1 = nb B m a + 1 by omega]
      have hc0 : 0 ≤ nb B m a + 1 ∧ nb B m a + 1 ≤ 200 := by omega
      generalize nb B m a + 1 = c at hc0
      obtain ⟨c, rfl⟩ := Int.eq_ofNat_of_zero_le hc0.1
      rw [show ((c : Nat) : Int).toNat = c from rfl]
      refine (lg_prog (B := B) (to := to) (size := size) (c := c) (fun a n m' => (.inl (a, n, m'.1, m'.2.1, m'.2.2) : ((Int × Int × List Int × List E59 × List Int) ⊕ (Int × Int × List Int × List E59 × List Int)))) (fun a n m' => .inr (a, n, m'.1, m'.2.1, m'.2.2)) ?_ c 0 0 ((a + 1) % 4294967296) (IntKind.wrap .i64 (n + 1)) m (by omega) hi hf).imp fun n' h => h.trans ?_
      · intro y j a n m' hi'
        show cond (decide ((j : Int) < (c : Int))) (cond (!false) ((f_next a n B m'.1 m'.2.1).bind _) _) _ = _
        by_cases hj : j < c
        · rw [cpos (by omega), ctrue (show (!false) = true from rfl), if_pos hj, next_m hi', bind_some']
          show ((f_put to m'.2.2 size B m'.1 m'.2.1 (nb B m' a)).bind _) = _
          rw [put_eq hi' (nb_bd hi' _), bind_some']
          show cond (!(decide (¬ full size (pt B to size (nb B m' a) m')))) _ _ = _
          by_cases h : full size (pt B to size (nb B m' a) m')
          · rw [ctrue (by simpa using h), if_pos h]
          · rw [cfalse (by simpa using h), if_neg h, wrap_i64 (x := (j : Int) + 1) (by omega) (by omega)]; rfl
        · rw [cneg (by omega), if_neg hj]
      · split <;> rfl
theorem diff_val {B to size : Int} {ρ : Type} {P : Int × Bool × Int × Int × List Int × List Int × List E59 → Option ((Int × Bool × Int × Int × List Int × List Int × List E59) ⊕ ρ)} (e : M3 → ρ) (J : Int → S4 → Prop) (hJ : ∀ v s, J v s → Inv size s.2)
    (hs : ∀ v s, (0 ≤ v ∧ v < 256) → J v s → ¬ full size s.2 → J ((v + nb B s.2 s.1) % 256) ((s.1 + 1) % 4294967296, pt B to size ((v + nb B s.2 s.1) % 256) s.2))
    (hP0 : ∀ (v a n : Int) (m : M3), Inv size m → P (v, false, a, n, m.2.2, m.1, m.2.1) = some (.inr (e m)))
    (hP1 : ∀ (v a n : Int) (m : M3), (0 ≤ v ∧ v < 256) → Inv size m → ¬ full size m → P (v, true, a, n, m.2.2, m.1, m.2.1) = some (.inl ((v + nb B m a) % 256, decide (¬ full size (pt B to size ((v + nb B m a) % 256) m)), (a + 1) % 4294967296, IntKind.wrap .i64 (n + 1), (pt B to size ((v + nb B m a) % 256) m).2.2, (pt B to size ((v + nb B m a) % 256) m).1, (pt B to size ((v + nb B m a) % 256) m).2.1))) :
    ∀ (d : Nat) (v a n : Int) (m : M3), size - (m.2.2.length : Int) ≤ (d : Int) → (0 ≤ v ∧ v < 256) → J v (a, m) → ¬ full size m → ∃ (v2 a2 : Int) (m' : M3), loopO P (v, true, a, n, m.2.2, m.1, m.2.1) = some (e m') ∧ J v2 (a2, m') ∧ full size m' := by
  intro d
  induction d with
  | zero =>
    intro v a n m hd hv hi hf
    exact absurd (show size ≤ (m.2.2.length : Int) by omega) hf
  | succ d ih =>
    intro v a n m hd hv hj hf
    have hi := hJ _ _ hj
    have hb : 0 ≤ (v + nb B m a) % 256 ∧ (v + nb B m a) % 256 < 256 := by omega
    have hj' := hs v (a, m) hv hj hf
    have hi' := hJ _ _ hj'
    have hl := pt_len (B := B) (to := to) (x := (v + nb B m a) % 256) hf
    by_cases h : full size (pt B to size ((v + nb B m a) % 256) m)
    · refine ⟨_, _, pt B to size ((v + nb B m a) % 256) m, ?_, hj', h⟩
      rw [loopO_eq, hP1 v a n m hv hi hf, bind_some', decide_eq_false (by simpa using h)]
      show loopO P (_, false, _, _, _, _, _) = _
      rw [loopO_eq, hP0 _ _ _ _ hi', bind_some']
    · obtain ⟨v2, a2, m', e1, e2, e3⟩ := ih ((v + nb B m a) % 256) ((a + 1) % 4294967296) (IntKind.wrap .i64 (n + 1)) (pt B to size ((v + nb B m a) % 256) m) (by omega) hb hj' h
      refine ⟨v2, a2, m', ?_, e2, e3⟩
      rw [loopO_eq, hP1 v a n m hv hi hf, bind_some', decide_eq_true h]; exact e1
end Go.Proofs.Ytnobglfjinehfaa
