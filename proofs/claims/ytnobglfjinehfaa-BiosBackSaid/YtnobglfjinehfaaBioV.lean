/-
  Streams of kinds 10 and 30: both readings.
-/
import Derived.Test.YtnobglfjinehfaaBioU
namespace Go.Proofs.Ytnobglfjinehfaa
open Go.Vc
set_option linter.unusedVariables false
set_option linter.unusedSimpArgs false

theorem fl_prog {ρ : Type} {B to size x : Int} {F : Int × Int × Int × List Int × List E59 × List Int → Option ((Int × Int × Int × List Int × List E59 × List Int) ⊕ ρ)} (fin out : Int → Int → M3 → ρ)
    (h0 : ∀ (a n : Int) (m : M3), F (-1, a, n, m.1, m.2.1, m.2.2) = some (.inr (fin a n m)))
    (h1 : ∀ (k : Nat) (a n : Int) (m : M3), k < 8 → Inv size m → ¬ full size m → ∃ n', (full size (fstep B to size x k (a, m)).2 → F ((k : Int), a, n, m.1, m.2.1, m.2.2) = some (.inr (out (fstep B to size x k (a, m)).1 n' (fstep B to size x k (a, m)).2))) ∧
      (¬ full size (fstep B to size x k (a, m)).2 → F ((k : Int), a, n, m.1, m.2.1, m.2.2) = some (.inl ((k : Int) - 1, (fstep B to size x k (a, m)).1, n', (fstep B to size x k (a, m)).2.1, (fstep B to size x k (a, m)).2.2.1, (fstep B to size x k (a, m)).2.2.2)))) :
    ∀ (k : Nat) (a n : Int) (m : M3), k ≤ 8 → Inv size m → ¬ full size m → ∃ n', loopO F ((k : Int) - 1, a, n, m.1, m.2.1, m.2.2) = some (if full size (fgo B to size x k (a, m)).2 then out (fgo B to size x k (a, m)).1 n' (fgo B to size x k (a, m)).2 else fin (fgo B to size x k (a, m)).1 n' (fgo B to size x k (a, m)).2) := by
  intro k
  induction k with
  | zero =>
    intro a n m _ hi hf
    refine ⟨n, ?_⟩
    rw [loopO_eq]
    show (F (-1, a, n, m.1, m.2.1, m.2.2)).bind _ = some (if full size m then _ else fin a n m)
    rw [h0, bind_some', if_neg hf]
  | succ k ih =>
    intro a n m hk hi hf
    obtain ⟨n', hA, hB⟩ := h1 k a n m (by omega) hi hf
    have e : fgo B to size x (k + 1) (a, m) = fgo B to size x k (fstep B to size x k (a, m)) := by
      show (if full size m then _ else _) = _
      rw [if_neg hf]
    rw [e, show ((k + 1 : Nat) : Int) - 1 = (k : Int) by omega]
    have hi' := fstep_inv (B := B) (to := to) (x := x) (k := k) (s := (a, m)) hi
    by_cases h : full size (fstep B to size x k (a, m)).2
    · refine ⟨n', ?_⟩
      rw [loopO_eq, hA h, bind_some', fgo_full h, if_pos h]
    · obtain ⟨n2, h2⟩ := ih (fstep B to size x k (a, m)).1 n' (fstep B to size x k (a, m)).2 (by omega) hi' h
      refine ⟨n2, ?_⟩
      rw [loopO_eq, hB h, bind_some']
      exact h2
theorem fl_ref {ρ : Type} {B to size x : Int} {F : Int × Int × List Int × List E59 × List Int → Option ((Int × Int × List Int × List E59 × List Int) ⊕ ρ)} (fin : Int → M3 → ρ)
    (h0 : ∀ (a : Int) (m : M3), F (8, a, m.1, m.2.1, m.2.2) = some (.inr (fin a m)))
    (h2 : ∀ (k : Nat) (a : Int) (m : M3), k < 8 → full size m → F (((7 - k : Nat) : Int), a, m.1, m.2.1, m.2.2) = some (.inr (fin a m)))
    (h1 : ∀ (k : Nat) (a : Int) (m : M3), k < 8 → Inv size m → ¬ full size m → F (((7 - k : Nat) : Int), a, m.1, m.2.1, m.2.2) = some (.inl (((8 - k : Nat) : Int), (fstep B to size x k (a, m)).1, (fstep B to size x k (a, m)).2.1, (fstep B to size x k (a, m)).2.2.1, (fstep B to size x k (a, m)).2.2.2))) :
    ∀ (k : Nat) (a : Int) (m : M3), k ≤ 8 → Inv size m → loopO F (((8 - k : Nat) : Int), a, m.1, m.2.1, m.2.2) = some (fin (fgo B to size x k (a, m)).1 (fgo B to size x k (a, m)).2) := by
  intro k
  induction k with
  | zero =>
    intro a m _ hi
    rw [loopO_eq]
    show (F (8, a, m.1, m.2.1, m.2.2)).bind _ = some (fin a m)
    rw [h0, bind_some']
  | succ k ih =>
    intro a m hk hi
    rw [show 8 - (k + 1) = 7 - k by omega]
    by_cases hf : full size m
    · rw [loopO_eq, h2 k a m (by omega) hf, bind_some', fgo_full hf]
    · have e : fgo B to size x (k + 1) (a, m) = fgo B to size x k (fstep B to size x k (a, m)) := by
        show (if full size m then _ else _) = _
        rw [if_neg hf]
      rw [e, loopO_eq, h1 k a m (by omega) hi hf, bind_some']
      exact ih _ _ (by omega) (fstep_inv (B := B) (to := to) (x := x) (k := k) (s := (a, m)) hi)
/-- The loop around: as long as there is room. -/
theorem outer_both {size : Int} {P : Int × Int × List Int × List E59 × List Int → Option ((Int × Int × List Int × List E59 × List Int) ⊕ (Int × Int × List Int × List E59 × List Int))} {R : Int × List Int × List E59 × List Int → Option ((Int × List Int × List E59 × List Int) ⊕ (Int × List Int × List E59 × List Int))} (step : S4 → S4)
    (hinv : ∀ s : S4, Inv size s.2 → Inv size (step s).2) (hgrow : ∀ s : S4, Inv size s.2 → ¬ full size s.2 → s.2.2.2.length < (step s).2.2.2.length)
    (hP : ∀ (a n : Int) (m : M3), Inv size m → ¬ full size m → ∃ n', P (a, n, m.1, m.2.1, m.2.2) = some (if full size (step (a, m)).2 then .inr ((step (a, m)).1, n', (step (a, m)).2.1, (step (a, m)).2.2.1, (step (a, m)).2.2.2) else .inl ((step (a, m)).1, n', (step (a, m)).2.1, (step (a, m)).2.2.1, (step (a, m)).2.2.2)))
    (hR0 : ∀ (a : Int) (m : M3), full size m → R (a, m.1, m.2.1, m.2.2) = some (.inr (a, m.1, m.2.1, m.2.2)))
    (hR : ∀ (a : Int) (m : M3), Inv size m → ¬ full size m → R (a, m.1, m.2.1, m.2.2) = some (.inl ((step (a, m)).1, (step (a, m)).2.1, (step (a, m)).2.2.1, (step (a, m)).2.2.2))) :
    ∀ (d : Nat) (a n : Int) (m : M3), size - (m.2.2.length : Int) ≤ (d : Int) → Inv size m → ¬ full size m → ∃ (a1 n1 a2 : Int) (m' : M3), loopO P (a, n, m.1, m.2.1, m.2.2) = some (a1, n1, m'.1, m'.2.1, m'.2.2) ∧ loopO R (a, m.1, m.2.1, m.2.2) = some (a2, m'.1, m'.2.1, m'.2.2) ∧ Inv size m' := by
  intro d
  induction d with
  | zero =>
    intro a n m hd hi hf
    exact absurd (show size ≤ (m.2.2.length : Int) by omega) hf
  | succ d ih =>
    intro a n m hd hi hf
    obtain ⟨n', e⟩ := hP a n m hi hf
    have hg := hgrow (a, m) hi hf
    have hi' := hinv (a, m) hi
    by_cases h : full size (step (a, m)).2
    · refine ⟨(step (a, m)).1, n', (step (a, m)).1, (step (a, m)).2, ?_, ?_, hi'⟩
      · rw [loopO_eq, e, if_pos h, bind_some']
      · rw [loopO_eq, hR a m hi hf, bind_some']
        show loopO R ((step (a, m)).1, _) = _
        rw [loopO_eq, hR0 _ _ h, bind_some']
    · have hd' : size - ((step (a, m)).2.2.2.length : Int) ≤ (d : Int) := by
        have : m.2.2.length < (step (a, m)).2.2.2.length := hg
        omega
      obtain ⟨a1, n1, a2, m', e1, e2, e3⟩ := ih (step (a, m)).1 n' (step (a, m)).2 hd' hi' h
      refine ⟨a1, n1, a2, m', ?_, ?_, e3⟩
      · rw [loopO_eq, e, if_neg h, bind_some']; exact e1
      · rw [loopO_eq, hR a m hi hf, bind_some']; exact e2
theorem if_split {β : Type} {p : Prop} [Decidable p] {z : Option β} {u v : β} (h : z = some (if p then u else v)) : (p → z = some u) ∧ (¬ p → z = some v) := ⟨fun hp => by rw [h, if_pos hp], fun hp => by rw [h, if_neg hp]⟩
theorem full_eq (to size : Int) (d : List Int) (B : Int) (bs : List Int) (ns : List E59) : f_full to size d B bs ns = some (decide (((d.length : Nat) : Int) ≥ size)) := rfl
theorem pow8 {k : Nat} {x : Int} (h : k < 8) : Int.fdiv x (2 ^ (min ((k : Nat) : Int).toNat 8)) = x / ((2 ^ k : Nat) : Int) := by
  rw [show min ((k : Nat) : Int).toNat 8 = k by omega]
  have : (2 : Int) ^ k = ((2 ^ k : Nat) : Int) := by simp
  rw [this, fdiv_pos (by have := Nat.pow_pos (n := k) (show 0 < 2 by decide); omega)]
theorem bit8 {k : Nat} {x : Int} (h0 : 0 ≤ x) (h1 : x < 256) : bits .and .u8 (x / ((2 ^ k : Nat) : Int)) 1 = x / ((2 ^ k : Nat) : Int) % 2 := by
  have h2 : 0 ≤ x / ((2 ^ k : Nat) : Int) := Int.ediv_nonneg h0 (Int.natCast_nonneg _)
  have h3 : x / ((2 ^ k : Nat) : Int) ≤ x := Int.ediv_le_self _ h0
  rw [and8 1 (by decide) (by decide) h2 (by omega)]; rfl
noncomputable def agstep (B to size : Int) (s : S4) : S4 := fgo B to size (nb B s.2 s.1) 8 ((s.1 + 1) % 4294967296, s.2)
theorem again_both {B to size : Int} {a n : Int} {m : M3} (hi : Inv size m) (hf : ¬ full size m) : ∃ (a1 n1 a2 : Int) (m' : M3), f_again a n B m.1 m.2.1 to m.2.2 size = some (a1, n1, m'.1, m'.2.1, m'.2.2) ∧ f_ragain a B m.1 m.2.1 to size m.2.2 = some (a2, m'.1, m'.2.1, m'.2.2) ∧ Inv size m' := by
  unfold f_again f_ragain
  refine outer_both (agstep B to size) (fun s h => fgo_inv 8 h) (fun s h hf => (fgo_grow 8 (s := ((s.1 + 1) % 4294967296, s.2)) h).2 hf (by decide)) ?_ ?_ ?_ size.toNat a n m (by omega) hi hf
  · intro a n m hi hf
    show ∃ n', ((f_next a n B m.1 m.2.1).bind _) = _
    rw [next_m hi, bind_some']
    have hx := nb_bd (B := B) hi a
    rw [show agstep B to size (a, m) = fgo B to size (nb B m a) 8 ((a + 1) % 4294967296, m) from rfl]
    generalize nb B m a = x at hx
    refine (fl_prog (B := B) (to := to) (size := size) (x := x) (fun a n m => .inl (a, n, m.1, m.2.1, m.2.2)) (fun a n m => .inr (a, n, m.1, m.2.1, m.2.2)) ?_ ?_ 8 ((a + 1) % 4294967296) (IntKind.wrap .i64 (n + 1)) m (by decide) hi hf).imp fun n' h => h.trans ?_
    · intro a n m; rfl
    · intro k a n m hk hi hf
      have hb1 := nb_bd (B := B) hi a
      have hb2 := nb_bd (B := B) hi ((a + 1) % 4294967296)
      have e0 : ∀ r, (cond (decide ((k : Int) ≥ 0)) (cond (decide (0 ≤ (k : Int))) r none) (some (.inr (.inl (a, n, m.1, m.2.1, m.2.2)))) : Option ((Int × Int × Int × List Int × List E59 × List Int) ⊕ ((Int × Int × List Int × List E59 × List Int) ⊕ (Int × Int × List Int × List E59 × List Int)))) = r := fun r => by rw [cpos (by omega), cpos (by omega)]
      by_cases hbit : x / ((2 ^ k : Nat) : Int) % 2 = 0
      · have ef : fstep B to size x k (a, m) = ((a + 1) % 4294967296, pt B to size (nb B m a) m) := by unfold fstep; rw [if_pos hbit]
        rw [ef]
        refine ⟨IntKind.wrap .i64 (n + 1), if_split ?_⟩
        refine (e0 (cond ((bits .and .u8 (Int.fdiv x (2 ^ (min ((k : Nat) : Int).toNat 8))) 1) == 0) ((f_next a n B m.1 m.2.1).bind _) _)).trans ?_
        rw [pow8 hk, bit8 hx.1 hx.2, ceq hbit, next_m hi, bind_some']
        show ((f_put to m.2.2 size B m.1 m.2.1 (nb B m a)).bind _) = _
        rw [put_eq hi hb1, bind_some']
        show cond (!(decide (¬ full size (pt B to size (nb B m a) m)))) _ _ = _
        by_cases h : full size (pt B to size (nb B m a) m)
        · rw [ctrue (by simpa using h), if_pos h]
        · rw [cfalse (by simpa using h), if_neg h, wrap_i64 (x := (k : Int) - 1) (by omega) (by omega)]
      · have ef : fstep B to size x k (a, m) = (((a + 1) % 4294967296 + 1) % 4294967296, cp B to size (nb B m a % 16 * 256 + nb B m ((a + 1) % 4294967296) + 1) (nb B m a / 16 + 3).toNat m) := by unfold fstep; rw [if_neg hbit]
        rw [ef]
        have hback : IntKind.wrap .i64 ((bits .or .i64 (IntKind.wrap .i64 ((IntKind.wrap .i64 (bits .and .u8 (nb B m a) 15)) * 256)) (IntKind.wrap .i64 (nb B m ((a + 1) % 4294967296)))) + 1) = nb B m a % 16 * 256 + nb B m ((a + 1) % 4294967296) + 1 := by
          rw [and8 4 (by decide) (by decide) hb1.1 hb1.2]
          simp only [show ((2 ^ 4 : Nat) : Int) = 16 by decide]
          rw [wrap_i64 (x := nb B m a % 16) (by omega) (by omega), wrap_i64 (x := nb B m a % 16 * 256) (by omega) (by omega), wrap_i64 (x := nb B m ((a + 1) % 4294967296)) (by omega) (by omega), or64 8 hb2.1 (by simpa using hb2.2) (by omega) (by omega) (by simp), wrap_i64 (by omega) (by omega)]
        have hcnt : IntKind.wrap .i64 ((IntKind.wrap .i64 (Int.fdiv (nb B m a) 16)) + 3) = nb B m a / 16 + 3 := by
          rw [fdiv_pos (by decide), wrap_i64 (x := nb B m a / 16) (by omega) (by omega), wrap_i64 (by omega) (by omega)]
        have hbk : 0 < nb B m a % 16 * 256 + nb B m ((a + 1) % 4294967296) + 1 := by omega
        have hbk2 : nb B m a % 16 * 256 + nb B m ((a + 1) % 4294967296) + 1 ≤ 5000 := by omega
        have hc0 : 0 ≤ nb B m a / 16 + 3 ∧ nb B m a / 16 + 3 ≤ 20 := by omega
        refine ⟨IntKind.wrap .i64 (IntKind.wrap .i64 (n + 1) + 1), if_split ?_⟩
        refine (e0 (cond ((bits .and .u8 (Int.fdiv x (2 ^ (min ((k : Nat) : Int).toNat 8))) 1) == 0) _ ((f_next a n B m.1 m.2.1).bind _))).trans ?_
        rw [pow8 hk, bit8 hx.1 hx.2, cne hbit, next_m hi, bind_some']
        show ((f_next ((a + 1) % 4294967296) (IntKind.wrap .i64 (n + 1)) B m.1 m.2.1).bind _) = _
        rw [next_m hi, bind_some']
        show Let _ _ = _
        rw [Let_eq, Let_eq, hback, hcnt]
        generalize nb B m a % 16 * 256 + nb B m ((a + 1) % 4294967296) + 1 = back at hbk hbk2
        generalize nb B m a / 16 + 3 = c at hc0
        obtain ⟨c, rfl⟩ := Int.eq_ofNat_of_zero_le hc0.1
        rw [show ((c : Nat) : Int).toNat = c from rfl]
        refine cp_prog (B := B) (to := to) (size := size) (c := c) hbk (fun m' => (.inl ((k : Int) - 1, ((a + 1) % 4294967296 + 1) % 4294967296, IntKind.wrap .i64 (IntKind.wrap .i64 (n + 1) + 1), m'.1, m'.2.1, m'.2.2) : ((Int × Int × Int × List Int × List E59 × List Int) ⊕ ((Int × Int × List Int × List E59 × List Int) ⊕ (Int × Int × List Int × List E59 × List Int))))) (fun m' => .inr (.inr (((a + 1) % 4294967296 + 1) % 4294967296, IntKind.wrap .i64 (IntKind.wrap .i64 (n + 1) + 1), m'.1, m'.2.1, m'.2.2))) ?_ c 0 m (by omega) hi hf
        · intro j m' hi'
          have hl := hi'.len
          have hs1 := hi'.s1
          have hsb := sel_bd (back := back) hi' hbk
          by_cases hj : j < c
          · rw [if_pos hj]
            have fin1 : ((f_put to m'.2.2 size B m'.1 m'.2.1 (sel back m')).bind fun (o : O_put) => (match o with | (x68, w_9_r_xs_cell_q0_2, w_9_r_xs_cell_q0_m_b_1, w_9_r_xs_cell_q0_m_b_2) => (cond (!x68) (some (.inr (.inr (.inr (((a + 1) % 4294967296 + 1) % 4294967296, IntKind.wrap .i64 (IntKind.wrap .i64 (n + 1) + 1), w_9_r_xs_cell_q0_m_b_1, w_9_r_xs_cell_q0_m_b_2, w_9_r_xs_cell_q0_2))))) (some (.inl ((IntKind.wrap .i64 ((j : Int) + 1)), w_9_r_xs_cell_q0_m_b_1, w_9_r_xs_cell_q0_m_b_2, w_9_r_xs_cell_q0_2)))))) = (if full size (pt B to size (sel back m') m') then some (.inr (.inr (.inr (((a + 1) % 4294967296 + 1) % 4294967296, IntKind.wrap .i64 (IntKind.wrap .i64 (n + 1) + 1), (pt B to size (sel back m') m').1, (pt B to size (sel back m') m').2.1, (pt B to size (sel back m') m').2.2)))) else some (.inl (((j + 1 : Nat) : Int), (pt B to size (sel back m') m').1, (pt B to size (sel back m') m').2.1, (pt B to size (sel back m') m').2.2)) : Option ((Int × List Int × List E59 × List Int) ⊕ ((Int × Int × Int × List Int × List E59 × List Int) ⊕ ((Int × Int × List Int × List E59 × List Int) ⊕ (Int × Int × List Int × List E59 × List Int))))) := by
              rw [put_eq hi' hsb, bind_some']
              show cond (!(decide (¬ full size (pt B to size (sel back m') m')))) _ _ = _
              by_cases h : full size (pt B to size (sel back m') m')
              · rw [ctrue (by simpa using h), if_pos h]
              · rw [cfalse (by simpa using h), if_neg h, wrap_i64 (by omega) (by omega)]; rfl
            show cond (decide ((j : Int) < (c : Int))) (cond (decide (back ≤ ((m'.2.2.length : Nat) : Int))) (cond _ ((f_put to m'.2.2 size B m'.1 m'.2.1 (ixL m'.2.2 (IntKind.wrap .i64 (((m'.2.2.length : Nat) : Int) - back)))).bind _) none) ((f_put to m'.2.2 size B m'.1 m'.2.1 0).bind _)) _ = _
            rw [cpos (by omega)]
            by_cases hbl : back ≤ ((m'.2.2.length : Nat) : Int)
            · have es : sel back m' = ixL m'.2.2 (((m'.2.2.length : Nat) : Int) - back) := by unfold sel; rw [if_pos hbl]
              rw [cpos hbl, wrap_i64 (x := ((m'.2.2.length : Nat) : Int) - back) (by omega) (by omega), cand (by omega) (by omega), ← es]
              exact fin1
            · have es : sel back m' = 0 := by unfold sel; rw [if_neg hbl]
              rw [cneg hbl]
              rw [es] at fin1 ⊢
              exact fin1
          · rw [if_neg hj]
            show cond (decide ((j : Int) < (c : Int))) _ (some (Sum.inr (Sum.inl (IntKind.wrap .i64 ((k : Int) - 1), _)))) = _
            rw [cneg (by omega), wrap_i64 (x := (k : Int) - 1) (by omega) (by omega)]
    · split <;> rfl
  · intro a m h
    show ((f_full to size m.2.2 B m.1 m.2.1).bind _) = _
    rw [full_eq, bind_some', decide_eq_true (show ((m.2.2.length : Nat) : Int) ≥ size from h)]; rfl
  · intro a m hi hf
    show ((f_full to size m.2.2 B m.1 m.2.1).bind _) = _
    have hf' : ¬ ((m.2.2.length : Nat) : Int) ≥ size := hf
    rw [full_eq, bind_some', decide_eq_false hf']
    show ((f_snext a B m.1 m.2.1).bind _) = _
    rw [snext_m hi, bind_some']
    have hx := nb_bd (B := B) hi a
    rw [show agstep B to size (a, m) = fgo B to size (nb B m a) 8 ((a + 1) % 4294967296, m) from rfl]
    generalize nb B m a = x at hx
    show loopO _ _ = _
    refine fl_ref (B := B) (to := to) (size := size) (x := x) (fun a m => (.inl (a, m.1, m.2.1, m.2.2) : ((Int × List Int × List E59 × List Int) ⊕ (Int × List Int × List E59 × List Int)))) ?_ ?_ ?_ 8 ((a + 1) % 4294967296) m (by decide) hi
    · intro a m; rfl
    · intro k a m hk hf
      show cond (decide (((7 - k : Nat) : Int) < 8)) ((f_full to size m.2.2 B m.1 m.2.1).bind _) _ = _
      rw [cpos (by omega), full_eq, bind_some', decide_eq_true (show ((m.2.2.length : Nat) : Int) ≥ size from hf)]; rfl
    · intro k a m hk hi hf
      have hb1 := nb_bd (B := B) hi a
      have hb2 := nb_bd (B := B) hi ((a + 1) % 4294967296)
      have hf' : ¬ ((m.2.2.length : Nat) : Int) ≥ size := hf
      have hsh : Int.tmod (Int.fdiv x (2 ^ (min (IntKind.wrap .i64 (7 - ((7 - k : Nat) : Int))).toNat 64))) 2 = x / ((2 ^ k : Nat) : Int) % 2 := by
        rw [wrap_i64 (x := 7 - ((7 - k : Nat) : Int)) (by omega) (by omega), show min (7 - ((7 - k : Nat) : Int)).toNat 64 = k by omega]
        have : (2 : Int) ^ k = ((2 ^ k : Nat) : Int) := by simp
        rw [this, fdiv_pos (by have := Nat.pow_pos (n := k) (show 0 < 2 by decide); omega), tmod_nn (Int.ediv_nonneg hx.1 (Int.natCast_nonneg _))]
      show cond (decide (((7 - k : Nat) : Int) < 8)) ((f_full to size m.2.2 B m.1 m.2.1).bind _) _ = _
      rw [cpos (by omega), full_eq, bind_some', decide_eq_false hf']
      show cond (decide (0 ≤ IntKind.wrap .i64 (7 - ((7 - k : Nat) : Int)))) (Let _ _) _ = _
      rw [cpos (by rw [wrap_i64 (by omega) (by omega)]; omega), Let_eq, hsh, wrap_i64 (x := ((7 - k : Nat) : Int) + 1) (by omega) (by omega), show ((7 - k : Nat) : Int) + 1 = ((8 - k : Nat) : Int) by omega]
      by_cases hbit : x / ((2 ^ k : Nat) : Int) % 2 = 0
      · have ef : fstep B to size x k (a, m) = ((a + 1) % 4294967296, pt B to size (nb B m a) m) := by unfold fstep; rw [if_pos hbit]
        rw [ef, ceq hbit, snext_m hi, bind_some']
        show ((f_rput to size m.2.2 B m.1 m.2.1 (nb B m a)).bind _) = _
        rw [rput_eq hi hb1, bind_some']
      · have ef : fstep B to size x k (a, m) = (((a + 1) % 4294967296 + 1) % 4294967296, cp B to size (nb B m a % 16 * 256 + nb B m ((a + 1) % 4294967296) + 1) (nb B m a / 16 + 3).toNat m) := by unfold fstep; rw [if_neg hbit]
        rw [ef, cne hbit, snext_m hi, bind_some']
        show ((f_snext ((a + 1) % 4294967296) B m.1 m.2.1).bind _) = _
        rw [snext_m hi, bind_some']
        show Let _ _ = _
        have hback : IntKind.wrap .i64 ((IntKind.wrap .i64 ((IntKind.wrap .i64 ((Int.tmod (nb B m a) 16) * 256)) + nb B m ((a + 1) % 4294967296))) + 1) = nb B m a % 16 * 256 + nb B m ((a + 1) % 4294967296) + 1 := by
          rw [tmod_nn hb1.1, wrap_i64 (x := nb B m a % 16 * 256) (by omega) (by omega), wrap_i64 (x := nb B m a % 16 * 256 + nb B m ((a + 1) % 4294967296)) (by omega) (by omega), wrap_i64 (by omega) (by omega)]
        have hcnt : IntKind.wrap .i64 ((IntKind.wrap .i64 (Int.tdiv (nb B m a) 16)) + 3) = nb B m a / 16 + 3 := by
          rw [tdiv_nn hb1.1, wrap_i64 (x := nb B m a / 16) (by omega) (by omega), wrap_i64 (by omega) (by omega)]
        have hbk : 0 < nb B m a % 16 * 256 + nb B m ((a + 1) % 4294967296) + 1 := by omega
        have hbk2 : nb B m a % 16 * 256 + nb B m ((a + 1) % 4294967296) + 1 ≤ 5000 := by omega
        have hc0 : 0 ≤ nb B m a / 16 + 3 ∧ nb B m a / 16 + 3 ≤ 20 := by omega
        rw [Let_eq, Let_eq, hback, hcnt]
        generalize nb B m a % 16 * 256 + nb B m ((a + 1) % 4294967296) + 1 = back at hbk hbk2
        generalize nb B m a / 16 + 3 = c at hc0
        obtain ⟨c, rfl⟩ := Int.eq_ofNat_of_zero_le hc0.1
        rw [show ((c : Nat) : Int).toNat = c from rfl]
        refine cp_ref (B := B) (to := to) (size := size) hbk (fun m' => (.inl (((8 - k : Nat) : Int), ((a + 1) % 4294967296 + 1) % 4294967296, m'.1, m'.2.1, m'.2.2) : ((Int × Int × List Int × List E59 × List Int) ⊕ ((Int × List Int × List E59 × List Int) ⊕ (Int × List Int × List E59 × List Int))))) ?_ c m (by omega) hi
        intro j m' hj hi'
        have hl := hi'.len
        have hs1 := hi'.s1
        have hsb := sel_bd (back := back) hi' hbk
        by_cases hj : 0 < j
        · rw [if_pos hj]
          have fin1 : ((f_rput to size m'.2.2 B m'.1 m'.2.1 (sel back m')).bind fun (o : O_rput) => (match o with | (w_11_r_xs_cell_q0_3, w_11_r_xs_cell_q0_M_b_1, w_11_r_xs_cell_q0_M_b_2) => (some (.inl ((IntKind.wrap .i64 ((j : Int) - 1)), w_11_r_xs_cell_q0_M_b_1, w_11_r_xs_cell_q0_M_b_2, w_11_r_xs_cell_q0_3))))) = (some (.inl (((j - 1 : Nat) : Int), (pt B to size (sel back m') m').1, (pt B to size (sel back m') m').2.1, (pt B to size (sel back m') m').2.2)) : Option ((Int × List Int × List E59 × List Int) ⊕ ((Int × Int × List Int × List E59 × List Int) ⊕ ((Int × List Int × List E59 × List Int) ⊕ (Int × List Int × List E59 × List Int))))) := by
            rw [rput_eq hi' hsb, bind_some', wrap_i64 (x := (j : Int) - 1) (by omega) (by omega), show (j : Int) - 1 = ((j - 1 : Nat) : Int) by omega]
          show cond (decide ((j : Int) > 0)) (cond (decide (((m'.2.2.length : Nat) : Int) ≥ back)) (cond _ ((f_rput to size m'.2.2 B m'.1 m'.2.1 (ixL m'.2.2 (IntKind.wrap .i64 (((m'.2.2.length : Nat) : Int) - back)))).bind _) none) ((f_rput to size m'.2.2 B m'.1 m'.2.1 0).bind _)) _ = _
          rw [cpos (by omega)]
          by_cases hbl : back ≤ ((m'.2.2.length : Nat) : Int)
          · have es : sel back m' = ixL m'.2.2 (((m'.2.2.length : Nat) : Int) - back) := by unfold sel; rw [if_pos hbl]
            rw [cpos (show ((m'.2.2.length : Nat) : Int) ≥ back from hbl), wrap_i64 (x := ((m'.2.2.length : Nat) : Int) - back) (by omega) (by omega), cand (by omega) (by omega), ← es]
            exact fin1
          · have es : sel back m' = 0 := by unfold sel; rw [if_neg hbl]
            rw [cneg (show ¬ ((m'.2.2.length : Nat) : Int) ≥ back from hbl)]
            rw [es] at fin1 ⊢
            exact fin1
        · rw [if_neg hj]
          show cond (decide ((j : Int) > 0)) _ _ = _
          rw [cneg (by omega)]
end Go.Proofs.Ytnobglfjinehfaa
