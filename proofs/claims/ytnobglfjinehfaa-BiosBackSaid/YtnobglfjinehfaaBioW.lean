/-
  Streams of kind 30: both readings.
-/
import Derived.Test.YtnobglfjinehfaaBioV
namespace Go.Proofs.Ytnobglfjinehfaa
open Go.Vc
set_option linter.unusedVariables false
set_option linter.unusedSimpArgs false

noncomputable def rp (B to size x : Int) : Nat → M3 → M3
  | 0, m => m
  | k + 1, m => rp B to size x k (pt B to size x m)
theorem rp_inv {B to size x : Int} (hx : 0 ≤ x ∧ x < 256) : ∀ (k : Nat) {m : M3}, Inv size m → Inv size (rp B to size x k m)
  | 0, _, h => h
  | k + 1, m, h => rp_inv hx k (pt_inv h hx)
theorem rp_full {B to size x : Int} : ∀ (k : Nat) {m : M3}, full size m → rp B to size x k m = m
  | 0, _, _ => rfl
  | k + 1, m, h => by
    show rp B to size x k (pt B to size x m) = m
    rw [pt_full h]; exact rp_full k h
theorem rp_grow {B to size x : Int} : ∀ (k : Nat) {m : M3}, m.2.2.length ≤ (rp B to size x k m).2.2.length ∧ (¬ full size m → 0 < k → m.2.2.length < (rp B to size x k m).2.2.length)
  | 0, _ => ⟨Nat.le_refl _, fun _ h => by omega⟩
  | k + 1, m => by
    have := rp_grow (B := B) (to := to) (size := size) (x := x) k (m := pt B to size x m)
    show m.2.2.length ≤ (rp B to size x k (pt B to size x m)).2.2.length ∧ _
    by_cases h : full size m
    · rw [pt_full h, rp_full k h]; exact ⟨Nat.le_refl _, fun h' => absurd h h'⟩
    · have hl := pt_len (B := B) (to := to) (x := x) h
      refine ⟨by omega, fun _ _ => ?_⟩
      show m.2.2.length < (rp B to size x k (pt B to size x m)).2.2.length
      omega
theorem rp_prog {σ ρ : Type} {B to size x : Int} {F : σ → Option (σ ⊕ ρ)} (E : Int → M3 → σ) {c : Nat} (hx : 0 ≤ x ∧ x < 256) (fin out : M3 → ρ)
    (hF : ∀ (j : Nat) (m : M3), Inv size m → F (E (j : Int) m) = if j < c then some (if full size (pt B to size x m) then (.inr (out (pt B to size x m))) else (.inl (E ((j + 1 : Nat) : Int) (pt B to size x m)))) else some (.inr (fin m))) :
    ∀ (k j : Nat) (m : M3), j + k = c → Inv size m → ¬ full size m → loopO F (E (j : Int) m) = some (if full size (rp B to size x k m) then out (rp B to size x k m) else fin (rp B to size x k m)) := by
  intro k
  induction k with
  | zero =>
    intro j m hj hi hf
    rw [loopO_eq, hF j m hi, if_neg (by omega), bind_some']
    show some (fin m) = some (if full size m then out m else fin m)
    rw [if_neg hf]
  | succ k ih =>
    intro j m hj hi hf
    rw [loopO_eq, hF j m hi, if_pos (by omega)]
    show _ = some (if full size (rp B to size x k (pt B to size x m)) then out (rp B to size x k (pt B to size x m)) else fin (rp B to size x k (pt B to size x m)))
    by_cases h : full size (pt B to size x m)
    · rw [if_pos h, bind_some', rp_full k h, if_pos h]
    · rw [if_neg h, bind_some']
      exact ih (j + 1) _ (by omega) (pt_inv hi hx) h
theorem rp_ref {σ ρ : Type} {B to size x : Int} {F : σ → Option (σ ⊕ ρ)} (E : Int → M3 → σ) (hx : 0 ≤ x ∧ x < 256) (fin : M3 → ρ)
    (hF : ∀ (j : Nat) (m : M3), j ≤ 1000 → Inv size m → F (E (j : Int) m) = if 0 < j then some (.inl (E ((j - 1 : Nat) : Int) (pt B to size x m))) else some (.inr (fin m))) :
    ∀ (k : Nat) (m : M3), k ≤ 1000 → Inv size m → loopO F (E (k : Int) m) = some (fin (rp B to size x k m)) := by
  intro k
  induction k with
  | zero =>
    intro m hk hi
    rw [loopO_eq, hF 0 m (by omega) hi, if_neg (by omega), bind_some']; rfl
  | succ k ih =>
    intro m hk hi
    rw [loopO_eq, hF (k + 1) m hk hi, if_pos (by omega), bind_some']
    exact ih _ (by omega) (pt_inv hi hx)
/-! ### bytes as they come -/
noncomputable def lg (B to size : Int) : Nat → S4 → S4
  | 0, s => s
  | k + 1, s => if full size s.2 then s else lg B to size k ((s.1 + 1) % 4294967296, pt B to size (nb B s.2 s.1) s.2)
theorem lg_full {B to size : Int} {s : S4} (h : full size s.2) : ∀ k, lg B to size k s = s
  | 0 => rfl
  | k + 1 => by unfold lg; rw [if_pos h]
theorem lg_inv {B to size : Int} : ∀ (k : Nat) {s : S4}, Inv size s.2 → Inv size (lg B to size k s).2
  | 0, _, h => h
  | k + 1, s, h => by
    unfold lg; split
    · exact h
    · exact lg_inv k (pt_inv h (nb_bd h _))
theorem lg_grow {B to size : Int} : ∀ (k : Nat) {s : S4}, s.2.2.2.length ≤ (lg B to size k s).2.2.2.length ∧ (¬ full size s.2 → 0 < k → s.2.2.2.length < (lg B to size k s).2.2.2.length)
  | 0, _ => ⟨Nat.le_refl _, fun _ h => by omega⟩
  | k + 1, s => by
    unfold lg
    by_cases h : full size s.2
    · rw [if_pos h]; exact ⟨Nat.le_refl _, fun h' => absurd h h'⟩
    · rw [if_neg h]
      have h1 := pt_len (B := B) (to := to) (x := nb B s.2 s.1) h
      have h2 : (pt B to size (nb B s.2 s.1) s.2).2.2.length ≤ _ := (lg_grow (B := B) (to := to) (size := size) k (s := ((s.1 + 1) % 4294967296, pt B to size (nb B s.2 s.1) s.2))).1
      exact ⟨by omega, fun _ _ => by omega⟩
theorem lg_prog {ρ : Type} {B to size : Int} {F : Int × Int × Int × Int × List Int × List E59 × List Int → Option ((Int × Int × Int × Int × List Int × List E59 × List Int) ⊕ ρ)} {c : Nat} (fin out : Int → Int → M3 → ρ)
    (hF : ∀ (y : Int) (j : Nat) (a n : Int) (m : M3), Inv size m → F (y, (j : Int), a, n, m.1, m.2.1, m.2.2) = if j < c then some (if full size (pt B to size (nb B m a) m) then (.inr (out ((a + 1) % 4294967296) (IntKind.wrap .i64 (n + 1)) (pt B to size (nb B m a) m))) else (.inl (nb B m a, ((j + 1 : Nat) : Int), (a + 1) % 4294967296, IntKind.wrap .i64 (n + 1), (pt B to size (nb B m a) m).1, (pt B to size (nb B m a) m).2.1, (pt B to size (nb B m a) m).2.2))) else some (.inr (fin a n m))) :
    ∀ (k j : Nat) (y a n : Int) (m : M3), j + k = c → Inv size m → ¬ full size m → ∃ n', loopO F (y, (j : Int), a, n, m.1, m.2.1, m.2.2) = some (if full size (lg B to size k (a, m)).2 then out (lg B to size k (a, m)).1 n' (lg B to size k (a, m)).2 else fin (lg B to size k (a, m)).1 n' (lg B to size k (a, m)).2) := by
  intro k
  induction k with
  | zero =>
    intro j y a n m hj hi hf
    refine ⟨n, ?_⟩
    rw [loopO_eq, hF y j a n m hi, if_neg (by omega), bind_some']
    show some (fin a n m) = some (if full size m then out a n m else fin a n m)
    rw [if_neg hf]
  | succ k ih =>
    intro j y a n m hj hi hf
    have e : lg B to size (k + 1) (a, m) = lg B to size k ((a + 1) % 4294967296, pt B to size (nb B m a) m) := by
      show (if full size m then _ else _) = _
      rw [if_neg hf]
    rw [e]
    by_cases h : full size (pt B to size (nb B m a) m)
    · refine ⟨IntKind.wrap .i64 (n + 1), ?_⟩
      rw [loopO_eq, hF y j a n m hi, if_pos (by omega), if_pos h, bind_some', lg_full (s := ((a + 1) % 4294967296, pt B to size (nb B m a) m)) h, if_pos h]
    · obtain ⟨n2, h2⟩ := ih (j + 1) (nb B m a) ((a + 1) % 4294967296) (IntKind.wrap .i64 (n + 1)) (pt B to size (nb B m a) m) (by omega) (pt_inv hi (nb_bd hi _)) h
      refine ⟨n2, ?_⟩
      rw [loopO_eq, hF y j a n m hi, if_pos (by omega), if_neg h, bind_some']
      exact h2
theorem lg_ref {ρ : Type} {B to size : Int} {F : Int × Int × List Int × List E59 × List Int → Option ((Int × Int × List Int × List E59 × List Int) ⊕ ρ)} (fin : Int → M3 → ρ)
    (hF : ∀ (j : Nat) (a : Int) (m : M3), j ≤ 1000 → Inv size m → F ((j : Int), a, m.1, m.2.1, m.2.2) = if 0 < j ∧ ¬ full size m then some (.inl (((j - 1 : Nat) : Int), (a + 1) % 4294967296, (pt B to size (nb B m a) m).1, (pt B to size (nb B m a) m).2.1, (pt B to size (nb B m a) m).2.2)) else some (.inr (fin a m))) :
    ∀ (k : Nat) (a : Int) (m : M3), k ≤ 1000 → Inv size m → loopO F ((k : Int), a, m.1, m.2.1, m.2.2) = some (fin (lg B to size k (a, m)).1 (lg B to size k (a, m)).2) := by
  intro k
  induction k with
  | zero =>
    intro a m hk hi
    rw [loopO_eq, hF 0 a m (by omega) hi, if_neg (by omega), bind_some']; rfl
  | succ k ih =>
    intro a m hk hi
    by_cases hf : full size m
    · rw [loopO_eq, hF (k + 1) a m hk hi, if_neg (fun h => h.2 hf), bind_some', lg_full (s := (a, m)) hf]
    · have e : lg B to size (k + 1) (a, m) = lg B to size k ((a + 1) % 4294967296, pt B to size (nb B m a) m) := by
        show (if full size m then _ else _) = _
        rw [if_neg hf]
      rw [e, loopO_eq, hF (k + 1) a m hk hi, if_pos ⟨by omega, hf⟩, bind_some']
      exact ih _ _ (by omega) (pt_inv hi (nb_bd hi _))
noncomputable def rstep (B to size : Int) (s : S4) : S4 :=
  if nb B s.2 s.1 ≥ 128 then (((s.1 + 1) % 4294967296 + 1) % 4294967296, rp B to size (nb B s.2 ((s.1 + 1) % 4294967296)) (nb B s.2 s.1 % 128 + 3).toNat s.2)
  else lg B to size (nb B s.2 s.1 + 1).toNat ((s.1 + 1) % 4294967296, s.2)
theorem rstep_inv {B to size : Int} (s : S4) (hi : Inv size s.2) : Inv size (rstep B to size s).2 := by
  unfold rstep; split
  · exact rp_inv (nb_bd hi _) _ hi
  · exact lg_inv _ hi
theorem rstep_grow {B to size : Int} (s : S4) (hi : Inv size s.2) (hf : ¬ full size s.2) : s.2.2.2.length < (rstep B to size s).2.2.2.length := by
  have hb := nb_bd (B := B) hi s.1
  unfold rstep; split
  · exact (rp_grow _).2 hf (by omega)
  · exact (lg_grow _ (s := ((s.1 + 1) % 4294967296, s.2))).2 hf (by omega)
theorem runs_both {B to size : Int} {a n : Int} {m : M3} (hi : Inv size m) (hf : ¬ full size m) : ∃ (a1 n1 a2 : Int) (m' : M3), f_runs a n B m.1 m.2.1 to m.2.2 size = some (a1, n1, m'.1, m'.2.1, m'.2.2) ∧ f_rruns a B m.1 m.2.1 to size m.2.2 = some (a2, m'.1, m'.2.1, m'.2.2) ∧ Inv size m' := by
  unfold f_runs f_rruns
  refine outer_both (rstep B to size) rstep_inv rstep_grow ?_ ?_ ?_ size.toNat a n m (by omega) hi hf
  · intro a n m hi hf
    show ∃ n', ((f_next a n B m.1 m.2.1).bind _) = _
    rw [next_m hi, bind_some']
    have hx := nb_bd (B := B) hi a
    have hx2 := nb_bd (B := B) hi ((a + 1) % 4294967296)
    have hs5 : IntKind.wrap .i64 ((IntKind.wrap .i64 (bits .and .u8 (nb B m a) 127)) + 1) = nb B m a % 128 + 1 := by
      rw [and8 7 (by decide) (by decide) hx.1 hx.2]
      simp only [show ((2 ^ 7 : Nat) : Int) = 128 by decide]
      rw [wrap_i64 (x := nb B m a % 128) (by omega) (by omega), wrap_i64 (by omega) (by omega)]
    have hfd : Int.fdiv (nb B m a) 128 = nb B m a / 128 := fdiv_pos (by decide)
    by_cases hc : nb B m a ≥ 128
    · have er : rstep B to size (a, m) = (((a + 1) % 4294967296 + 1) % 4294967296, rp B to size (nb B m ((a + 1) % 4294967296)) (nb B m a % 128 + 3).toNat m) := by unfold rstep; rw [if_pos hc]
      rw [er]
      refine ⟨IntKind.wrap .i64 (IntKind.wrap .i64 (n + 1) + 1), ?_⟩
      show Let _ _ = _
      rw [Let_eq, hs5, hfd]
      have hq : (nb B m a / 128 == 1) = true := by simp; omega
      show cond (nb B m a / 128 == 1) ((f_next ((a + 1) % 4294967296) (IntKind.wrap .i64 (n + 1)) B m.1 m.2.1).bind _) _ = _
      rw [ctrue hq, next_m hi, bind_some', hq]
      have hcn : IntKind.wrap .i64 (nb B m a % 128 + 1 + 2) = nb B m a % 128 + 3 := by rw [wrap_i64 (by omega) (by omega)]; omega
      rw [hcn]
      have hc0 : 0 ≤ nb B m a % 128 + 3 ∧ nb B m a % 128 + 3 ≤ 200 := by omega
      generalize nb B m a % 128 + 3 = c at hc0
      obtain ⟨c, rfl⟩ := Int.eq_ofNat_of_zero_le hc0.1
      rw [show ((c : Nat) : Int).toNat = c from rfl]
      generalize nb B m ((a + 1) % 4294967296) = x at hx2
      show loopO _ (x, (0 : Int), ((a + 1) % 4294967296 + 1) % 4294967296, IntKind.wrap .i64 (IntKind.wrap .i64 (n + 1) + 1), m.1, m.2.1, m.2.2) = _
      refine (rp_prog (B := B) (to := to) (size := size) (x := x) (c := c) (fun j m => (x, j, ((a + 1) % 4294967296 + 1) % 4294967296, IntKind.wrap .i64 (IntKind.wrap .i64 (n + 1) + 1), m.1, m.2.1, m.2.2)) hx2 (fun m' => (.inl (((a + 1) % 4294967296 + 1) % 4294967296, IntKind.wrap .i64 (IntKind.wrap .i64 (n + 1) + 1), m'.1, m'.2.1, m'.2.2) : ((Int × Int × List Int × List E59 × List Int) ⊕ (Int × Int × List Int × List E59 × List Int)))) (fun m' => .inr (((a + 1) % 4294967296 + 1) % 4294967296, IntKind.wrap .i64 (IntKind.wrap .i64 (n + 1) + 1), m'.1, m'.2.1, m'.2.2)) ?_ c 0 m (by omega) hi hf)
      intro j m' hi'
      show cond (decide ((j : Int) < (c : Int))) (cond (!true) _ ((f_put to m'.2.2 size B m'.1 m'.2.1 x).bind _)) _ = _
      by_cases hj : j < c
      · rw [cpos (by omega), cfalse (show (!true) = false from rfl), if_pos hj, put_eq hi' hx2, bind_some']
        show cond (!(decide (¬ full size (pt B to size x m')))) _ _ = _
        by_cases h : full size (pt B to size x m')
        · rw [ctrue (by simpa using h), if_pos h]
        · rw [cfalse (by simpa using h), if_neg h, wrap_i64 (x := (j : Int) + 1) (by omega) (by omega)]; rfl
      · rw [cneg (by omega), if_neg hj]
    · have er : rstep B to size (a, m) = lg B to size (nb B m a + 1).toNat ((a + 1) % 4294967296, m) := by unfold rstep; rw [if_neg hc]
      rw [er]
      show ∃ n', Let _ _ = _
      rw [Let_eq, hs5, hfd]
      have hq : (nb B m a / 128 == 1) = false := by simp; omega
      show ∃ n', cond (nb B m a / 128 == 1) _ (loopO _ _) = _
      rw [cfalse hq, hq, show nb B m a % 128 + 1 = nb B m a + 1 by omega]
      have hc0 : 0 ≤ nb B m a + 1 ∧ nb B m a + 1 ≤ 200 := by omega
      generalize nb B m a + 1 = c at hc0
      obtain ⟨c, rfl⟩ := Int.eq_ofNat_of_zero_le hc0.1
      rw [show ((c : Nat) : Int).toNat = c from rfl]
      refine (lg_prog (B := B) (to := to) (size := size) (c := c) (fun a n m' => (.inl (a, n, m'.1, m'.2.1, m'.2.2) : ((Int × Int × List Int × List E59 × List Int) ⊕ (Int × Int × List Int × List E59 × List Int)))) (fun a n m' => .inr (a, n, m'.1, m'.2.1, m'.2.2)) ?_ c 0 0 ((a + 1) % 4294967296) (IntKind.wrap .i64 (n + 1)) m (by omega) hi hf).imp fun n' h => h.trans ?_
      · intro y j a n m' hi'
        show cond (decide ((j : Int) < (c : Int))) (cond (!false) ((f_next a n B m'.1 m'.2.1).bind _) _) _ = _
        by_cases hj : j < c
        · rw [cpos (by omega), ctrue (show (!false) = true from rfl), if_pos hj, next_m hi', bind_some']
          show ((f_put to m'.2.2 size B m'.1 m'.2.1 (nb B m' a)).bind _) = _
          rw [put_eq hi' (nb_bd hi' _), bind_some']
          show cond (!(decide (¬ full size (pt B to size (nb B m' a) m')))) _ _ = _
          by_cases h : full size (pt B to size (nb B m' a) m')
          · rw [ctrue (by simpa using h), if_pos h]
          · rw [cfalse (by simpa using h), if_neg h, wrap_i64 (x := (j : Int) + 1) (by omega) (by omega)]; rfl
        · rw [cneg (by omega), if_neg hj]
      · split <;> rfl
  · intro a m h
    show ((f_full to size m.2.2 B m.1 m.2.1).bind _) = _
    rw [full_eq, bind_some', decide_eq_true (show ((m.2.2.length : Nat) : Int) ≥ size from h)]; rfl
  · intro a m hi hf
    have hf' : ¬ ((m.2.2.length : Nat) : Int) ≥ size := hf
    have hx := nb_bd (B := B) hi a
    have hx2 := nb_bd (B := B) hi ((a + 1) % 4294967296)
    show ((f_full to size m.2.2 B m.1 m.2.1).bind _) = _
    rw [full_eq, bind_some', decide_eq_false hf']
    show ((f_snext a B m.1 m.2.1).bind _) = _
    rw [snext_m hi, bind_some']
    show cond (decide (nb B m a ≥ 128)) ((f_snext ((a + 1) % 4294967296) B m.1 m.2.1).bind _) (loopO _ _) = _
    by_cases hc : nb B m a ≥ 128
    · have er : rstep B to size (a, m) = (((a + 1) % 4294967296 + 1) % 4294967296, rp B to size (nb B m ((a + 1) % 4294967296)) (nb B m a % 128 + 3).toNat m) := by unfold rstep; rw [if_pos hc]
      rw [er, cpos hc, snext_m hi, bind_some']
      show Let _ _ = _
      rw [Let_eq, tmod_nn hx.1, wrap_i64 (x := nb B m a % 128 + 3) (by omega) (by omega)]
      have hc0 : 0 ≤ nb B m a % 128 + 3 ∧ nb B m a % 128 + 3 ≤ 200 := by omega
      generalize nb B m a % 128 + 3 = c at hc0
      obtain ⟨c, rfl⟩ := Int.eq_ofNat_of_zero_le hc0.1
      rw [show ((c : Nat) : Int).toNat = c from rfl]
      generalize nb B m ((a + 1) % 4294967296) = x at hx2
      refine rp_ref (B := B) (to := to) (size := size) (x := x) (fun j m => (j, m.1, m.2.1, m.2.2)) hx2 (fun m' => (.inl (((a + 1) % 4294967296 + 1) % 4294967296, m'.1, m'.2.1, m'.2.2) : ((Int × List Int × List E59 × List Int) ⊕ (Int × List Int × List E59 × List Int)))) ?_ c m (by omega) hi
      intro j m' hj hi'
      show cond (decide ((j : Int) > 0)) ((f_rput to size m'.2.2 B m'.1 m'.2.1 x).bind _) _ = _
      by_cases hj : 0 < j
      · rw [if_pos hj, cpos (by omega), rput_eq hi' hx2, bind_some', wrap_i64 (x := (j : Int) - 1) (by omega) (by omega), show (j : Int) - 1 = ((j - 1 : Nat) : Int) by omega]
      · rw [if_neg hj, cneg (by omega)]
    · have er : rstep B to size (a, m) = lg B to size (nb B m a + 1).toNat ((a + 1) % 4294967296, m) := by unfold rstep; rw [if_neg hc]
      rw [er, cneg hc, wrap_i64 (x := nb B m a + 1) (by omega) (by omega)]
      have hc0 : 0 ≤ nb B m a + 1 ∧ nb B m a + 1 ≤ 200 := by omega
      generalize nb B m a + 1 = c at hc0
      obtain ⟨c, rfl⟩ := Int.eq_ofNat_of_zero_le hc0.1
      rw [show ((c : Nat) : Int).toNat = c from rfl]
      refine lg_ref (B := B) (to := to) (size := size) (fun a m' => (.inl (a, m'.1, m'.2.1, m'.2.2) : ((Int × List Int × List E59 × List Int) ⊕ (Int × List Int × List E59 × List Int)))) ?_ c ((a + 1) % 4294967296) m (by omega) hi
      intro j a m' hj hi'
      show cond (decide ((j : Int) > 0)) ((f_full to size m'.2.2 B m'.1 m'.2.1).bind _) _ = _
      by_cases hj : 0 < j
      · by_cases h : full size m'
        · rw [if_neg (fun h' => h'.2 h), cpos (by omega), full_eq, bind_some', decide_eq_true (show ((m'.2.2.length : Nat) : Int) ≥ size from h)]; rfl
        · rw [if_pos ⟨hj, h⟩, cpos (by omega), full_eq, bind_some', decide_eq_false (show ¬ ((m'.2.2.length : Nat) : Int) ≥ size from h)]
          show ((f_snext a B m'.1 m'.2.1).bind _) = _
          rw [snext_m hi', bind_some']
          show ((f_rput to size m'.2.2 B m'.1 m'.2.1 (nb B m' a)).bind _) = _
          rw [rput_eq hi' (nb_bd hi' _), bind_some', wrap_i64 (x := (j : Int) - 1) (by omega) (by omega), show (j : Int) - 1 = ((j - 1 : Nat) : Int) by omega]
      · rw [if_neg (fun h' => hj h'.1), cneg (by omega)]
end Go.Proofs.Ytnobglfjinehfaa
