/-
  Streams: the bytes that come out; pieces that were there already (kind 10).
-/
import Derived.Test.YtnobglfjinehfaaBioD
namespace Go.Proofs.Ytnobglfjinehfaa
open Go.Vc
set_option linter.unusedVariables false
set_option linter.unusedSimpArgs false

theorem or32 {a b : Int} (k : Nat) (hk : k ≤ 32) (ha0 : 0 ≤ a) (ha : a < ((2 ^ k : Nat) : Int)) (hb0 : 0 ≤ b) (hb1 : b < 4294967296) (hb : b % ((2 ^ k : Nat) : Int) = 0) : bits .or .u32 a b = a + b := by
  have hp : 2 ^ k ≤ 2 ^ 32 := Nat.pow_le_pow_right (by decide) hk
  obtain ⟨A, rfl⟩ := Int.eq_ofNat_of_zero_le ha0
  obtain ⟨B, rfl⟩ := Int.eq_ofNat_of_zero_le hb0
  rw [u32_or_nat A B (by omega) (by omega), Nat.or_comm, nat_join k B A (by omega) (by omega)]
  omega
theorem or8 {a b : Int} (k : Nat) (hk : k ≤ 8) (ha0 : 0 ≤ a) (ha : a < ((2 ^ k : Nat) : Int)) (hb0 : 0 ≤ b) (hb1 : b < 256) (hb : b % ((2 ^ k : Nat) : Int) = 0) : bits .or .u8 a b = a + b := by
  have hp : 2 ^ k ≤ 2 ^ 8 := Nat.pow_le_pow_right (by decide) hk
  obtain ⟨A, rfl⟩ := Int.eq_ofNat_of_zero_le ha0
  obtain ⟨B, rfl⟩ := Int.eq_ofNat_of_zero_le hb0
  rw [u8_or_nat A B (by omega) (by omega), Nat.or_comm, nat_join k B A (by omega) (by omega)]
  omega
abbrev M3 := List Int × List E59 × List Int
def full (size : Int) (m : M3) : Prop := size ≤ (m.2.2.length : Int)
instance (size : Int) (m : M3) : Decidable (full size m) := inferInstanceAs (Decidable (_ ≤ _))
/-- A byte comes out, as long as there is room. -/
noncomputable def pt (B to size x : Int) (m : M3) : M3 :=
  if full size m then m
  else if (m.2.2.length + 1) % 2 = 0 then
    (wr B m.1 ((to + ((m.2.2.length : Int) - 1)) % 4294967296) 2 (ixL m.2.2 ((m.2.2.length : Int) - 1) + 256 * x), m.2.1 ++ [⟨(to + ((m.2.2.length : Int) - 1)) % 4294967296, 2, ixL m.2.2 ((m.2.2.length : Int) - 1) + 256 * x⟩], m.2.2 ++ [x])
  else (m.1, m.2.1, m.2.2 ++ [x])
structure Inv (size : Int) (m : M3) : Prop where
  s0 : 0 < size
  s1 : size ≤ 65535
  bytes : okB m.1
  done : okB m.2.2
  len : (m.2.2.length : Int) ≤ size
  notes : m.2.1.length ≤ m.2.2.length
theorem pt_full {B to size x : Int} {m : M3} (h : full size m) : pt B to size x m = m := by unfold pt; rw [if_pos h]
theorem pt_len {B to size x : Int} {m : M3} (h : ¬ full size m) : (pt B to size x m).2.2.length = m.2.2.length + 1 := by
  unfold pt; rw [if_neg h]; split <;> simp
theorem pt_inv {B to size x : Int} {m : M3} (hi : Inv size m) (hx : 0 ≤ x ∧ x < 256) : Inv size (pt B to size x m) := by
  by_cases h : full size m
  · rw [pt_full h]; exact hi
  have hl := hi.notes
  have h' : ¬ size ≤ (m.2.2.length : Int) := h
  have hd : okB (m.2.2 ++ [x]) := fun y hy => by
    rcases List.mem_append.1 hy with hy | hy
    · exact hi.done y hy
    · rw [List.mem_singleton.1 hy]; exact hx
  unfold pt; rw [if_neg h]
  split
  · exact ⟨hi.s0, hi.s1, wr_ok hi.bytes, hd, by simp; omega, by simp; omega⟩
  · exact ⟨hi.s0, hi.s1, hi.bytes, hd, by simp; omega, by simp; omega⟩
theorem ixL_last {l : List Int} {x : Int} (h : l ≠ []) : ixL (l ++ [x]) ((l.length : Int) - 1) = ixL l ((l.length : Int) - 1) := by
  have hl : 0 < l.length := List.length_pos_iff.2 h
  rw [show ((l.length : Int) - 1) = ((l.length - 1 : Nat) : Int) by omega, ixL_nat (by simp; omega), ixL_nat (by omega), List.getElem_append_left]
theorem put_eq {B to size x : Int} {m : M3} (hi : Inv size m) (hx : 0 ≤ x ∧ x < 256) :
    f_put to m.2.2 size B m.1 m.2.1 x = some (decide (¬ full size (pt B to size x m)), (pt B to size x m).2.2, (pt B to size x m).1, (pt B to size x m).2.1) := by
  unfold f_put
  have hl := hi.len
  have hn := hi.notes
  have hs := hi.s1
  by_cases h : full size m
  · have h' : size ≤ (m.2.2.length : Int) := h
    rw [cpos (by omega), pt_full h, decide_eq_false (by simpa using h)]
  · have h' : ¬ size ≤ (m.2.2.length : Int) := h
    rw [cneg (by omega)]
    have hl2 : (m.2.2 ++ [x]).length = m.2.2.length + 1 := by simp
    have hfp : full size (pt B to size x m) ↔ size ≤ ((m.2.2.length + 1 : Nat) : Int) := by
      have := pt_len (B := B) (to := to) (x := x) h
      unfold full; rw [this]
    have hdc : decide (¬ full size (pt B to size x m)) = decide (((m.2.2.length + 1 : Nat) : Int) < size) :=
      decide_eq_decide.2 ⟨fun h => by have := mt hfp.2 h; omega, fun h h2 => by have := hfp.1 h2; omega⟩
    rw [hdc, hl2, cpos (by omega)]
    unfold pt; rw [if_neg h]
    have e1 : Int.tmod ((m.2.2.length + 1 : Nat) : Int) 2 = (((m.2.2.length + 1) % 2 : Nat) : Int) := by rw [tmod_nn (by omega)]; omega
    rw [e1]
    by_cases hp : (m.2.2.length + 1) % 2 = 0
    · have hne : m.2.2 ≠ [] := by intro h0; rw [h0] at hp; simp at hp
      have hpos : 0 < m.2.2.length := List.length_pos_iff.2 hne
      have hlast := hi.done _ (ixL_mem (l := m.2.2) (i := (m.2.2.length : Int) - 1) (by omega) (by omega))
      rw [if_pos hp, ceq (by rw [hp]; rfl)]
      have e2 : IntKind.wrap .i64 (((m.2.2.length + 1 : Nat) : Int) - 2) = (m.2.2.length : Int) - 1 := by rw [wrap_i64 (by omega) (by omega)]; omega
      rw [e2, cand (by omega) (by omega), ixL_last hne]
      generalize ixL m.2.2 ((m.2.2.length : Int) - 1) = p at hlast
      have e3 : bits .or .u32 (IntKind.wrap .u32 p) (IntKind.wrap .u32 (IntKind.wrap .u32 x * 256)) = p + 256 * x := by
        rw [wrap_u32 (x := p) (by omega) (by omega), wrap_u32 (x := x) (by omega) (by omega), wrap_u32 (x := x * 256) (by omega) (by omega), or32 8 (by decide) (by omega) (by simp; omega) (by omega) (by omega) (by simp)]
        omega
      have e4 : IntKind.wrap .u32 (to + IntKind.wrap .u32 ((m.2.2.length : Int) - 1)) = (to + ((m.2.2.length : Int) - 1)) % 4294967296 := by simp only [wr_u32]; omega
      rw [e3, e4, MWrite_eq (by decide) (by decide) (by omega), bind_some']
    · rw [if_neg hp, cne (by omega)]
theorem rput_eq {B to size x : Int} {m : M3} (hi : Inv size m) (hx : 0 ≤ x ∧ x < 256) :
    f_rput to size m.2.2 B m.1 m.2.1 x = some ((pt B to size x m).2.2, (pt B to size x m).1, (pt B to size x m).2.1) := by
  unfold f_rput f_full
  have hl := hi.len
  have hn := hi.notes
  have hs := hi.s1
  rw [bind_some']
  by_cases h : full size m
  · have h' : size ≤ (m.2.2.length : Int) := h
    rw [cpos (by omega), pt_full h]
  · have h' : ¬ size ≤ (m.2.2.length : Int) := h
    rw [cneg (by omega)]
    have hl2 : (m.2.2 ++ [x]).length = m.2.2.length + 1 := by simp
    rw [hl2, cpos (by omega)]
    unfold pt; rw [if_neg h]
    have e1 : Int.tmod ((m.2.2.length + 1 : Nat) : Int) 2 = (((m.2.2.length + 1) % 2 : Nat) : Int) := by rw [tmod_nn (by omega)]; omega
    rw [e1]
    by_cases hp : (m.2.2.length + 1) % 2 = 0
    · have hne : m.2.2 ≠ [] := by intro h0; rw [h0] at hp; simp at hp
      have hpos : 0 < m.2.2.length := List.length_pos_iff.2 hne
      have hlast := hi.done _ (ixL_mem (l := m.2.2) (i := (m.2.2.length : Int) - 1) (by omega) (by omega))
      rw [if_pos hp, ceq (by rw [hp]; rfl)]
      have e2 : IntKind.wrap .i64 (((m.2.2.length + 1 : Nat) : Int) - 2) = (m.2.2.length : Int) - 1 := by rw [wrap_i64 (by omega) (by omega)]; omega
      rw [e2, cand (by omega) (by omega), ixL_last hne]
      generalize ixL m.2.2 ((m.2.2.length : Int) - 1) = p at hlast
      have e3 : IntKind.wrap .u32 (IntKind.wrap .i64 (p + IntKind.wrap .i64 (256 * x))) = p + 256 * x := by
        rw [wrap_i64 (x := 256 * x) (by omega) (by omega), wrap_i64 (x := p + 256 * x) (by omega) (by omega), wrap_u32 (by omega) (by omega)]
      have e4 : IntKind.wrap .u32 (to + IntKind.wrap .u32 ((m.2.2.length : Int) - 1)) = (to + ((m.2.2.length : Int) - 1)) % 4294967296 := by simp only [wr_u32]; omega
      rw [e3, e4, MWrite_eq (by decide) (by decide) (by omega), bind_some']
    · rw [if_neg hp, cne (by omega)]
/-- The next byte of a stream. -/
noncomputable abbrev nb (B : Int) (m : M3) (a : Int) : Int := rd B m.1 a 1
theorem next_m {B size : Int} {m : M3} (hi : Inv size m) (a n : Int) : f_next a n B m.1 m.2.1 = some (nb B m a, (a + 1) % 4294967296, IntKind.wrap .i64 (n + 1)) := by
  rw [next_eq, wr_u32]
  have := rd1_bd (B := B) hi.bytes a
  rw [wrap_u8 this.1 this.2]
theorem snext_m {B size : Int} {m : M3} (hi : Inv size m) (a : Int) : f_snext a B m.1 m.2.1 = some (nb B m a, (a + 1) % 4294967296) := by
  unfold f_snext
  have := rd1_bd (B := B) hi.bytes a
  rw [MRead_eq (by decide) (by decide), bind_some', wrap_i64 (by omega) (by omega), wr_u32]
theorem nb_bd {B size : Int} {m : M3} (hi : Inv size m) (a : Int) : 0 ≤ nb B m a ∧ nb B m a < 256 := rd1_bd hi.bytes a

/-! ### a piece that was there already -/
noncomputable def sel (back : Int) (m : M3) : Int := if back ≤ (m.2.2.length : Int) then ixL m.2.2 ((m.2.2.length : Int) - back) else 0
theorem sel_bd {size back : Int} {m : M3} (hi : Inv size m) (hb : 0 < back) : 0 ≤ sel back m ∧ sel back m < 256 := by
  unfold sel; split
  · exact hi.done _ (ixL_mem (by omega) (by omega))
  · omega
noncomputable def cp (B to size back : Int) : Nat → M3 → M3
  | 0, m => m
  | k + 1, m => cp B to size back k (pt B to size (sel back m) m)
theorem cp_inv {B to size back : Int} (hb : 0 < back) : ∀ (k : Nat) {m : M3}, Inv size m → Inv size (cp B to size back k m)
  | 0, _, h => h
  | k + 1, m, h => cp_inv hb k (pt_inv h (sel_bd h hb))
theorem cp_full {B to size back : Int} : ∀ (k : Nat) {m : M3}, full size m → cp B to size back k m = m
  | 0, _, _ => rfl
  | k + 1, m, h => by
    show cp B to size back k (pt B to size (sel back m) m) = m
    rw [pt_full h]; exact cp_full k h
theorem cp_grow {B to size back : Int} : ∀ (k : Nat) {m : M3}, m.2.2.length ≤ (cp B to size back k m).2.2.length ∧ (¬ full size m → 0 < k → m.2.2.length < (cp B to size back k m).2.2.length)
  | 0, _ => ⟨Nat.le_refl _, fun _ h => by omega⟩
  | k + 1, m => by
    have := cp_grow (B := B) (to := to) (size := size) (back := back) k (m := pt B to size (sel back m) m)
    show m.2.2.length ≤ (cp B to size back k (pt B to size (sel back m) m)).2.2.length ∧ _
    by_cases h : full size m
    · rw [pt_full h, cp_full k h]; exact ⟨Nat.le_refl _, fun h' => absurd h h'⟩
    · have hl := pt_len (B := B) (to := to) (x := sel back m) h
      refine ⟨by omega, fun _ _ => ?_⟩
      show m.2.2.length < (cp B to size back k (pt B to size (sel back m) m)).2.2.length
      omega
theorem cp_prog {ρ : Type} {B to size back : Int} {F : Int × List Int × List E59 × List Int → Option ((Int × List Int × List E59 × List Int) ⊕ ρ)} {c : Nat} (hb : 0 < back) (fin out : M3 → ρ)
    (hF : ∀ (j : Nat) (m : M3), Inv size m → F ((j : Int), m.1, m.2.1, m.2.2) = if j < c then (if full size (pt B to size (sel back m) m) then some (.inr (out (pt B to size (sel back m) m))) else some (.inl (((j + 1 : Nat) : Int), (pt B to size (sel back m) m).1, (pt B to size (sel back m) m).2.1, (pt B to size (sel back m) m).2.2))) else some (.inr (fin m))) :
    ∀ (k j : Nat) (m : M3), j + k = c → Inv size m → ¬ full size m → loopO F ((j : Int), m.1, m.2.1, m.2.2) = some (if full size (cp B to size back k m) then out (cp B to size back k m) else fin (cp B to size back k m)) := by
  intro k
  induction k with
  | zero =>
    intro j m hj hi hf
    rw [loopO_eq, hF j m hi, if_neg (by omega), bind_some']
    show some (fin m) = some (if full size m then out m else fin m)
    rw [if_neg hf]
  | succ k ih =>
    intro j m hj hi hf
    rw [loopO_eq, hF j m hi, if_pos (by omega)]
    show _ = some (if full size (cp B to size back k (pt B to size (sel back m) m)) then out (cp B to size back k (pt B to size (sel back m) m)) else fin (cp B to size back k (pt B to size (sel back m) m)))
    by_cases h : full size (pt B to size (sel back m) m)
    · rw [if_pos h, bind_some', cp_full k h, if_pos h]
    · rw [if_neg h, bind_some']
      exact ih (j + 1) _ (by omega) (pt_inv hi (sel_bd hi hb)) h
theorem cp_ref {ρ : Type} {B to size back : Int} {F : Int × List Int × List E59 × List Int → Option ((Int × List Int × List E59 × List Int) ⊕ ρ)} (hb : 0 < back) (fin : M3 → ρ)
    (hF : ∀ (j : Nat) (m : M3), j ≤ 1000 → Inv size m → F ((j : Int), m.1, m.2.1, m.2.2) = if 0 < j then some (.inl (((j - 1 : Nat) : Int), (pt B to size (sel back m) m).1, (pt B to size (sel back m) m).2.1, (pt B to size (sel back m) m).2.2)) else some (.inr (fin m))) :
    ∀ (k : Nat) (m : M3), k ≤ 1000 → Inv size m → loopO F ((k : Int), m.1, m.2.1, m.2.2) = some (fin (cp B to size back k m)) := by
  intro k
  induction k with
  | zero =>
    intro m hk hi
    rw [loopO_eq, hF 0 m (by omega) hi, if_neg (by omega), bind_some']; rfl
  | succ k ih =>
    intro m hk hi
    rw [loopO_eq, hF (k + 1) m hk hi, if_pos (by omega), bind_some']
    exact ih _ (by omega) (pt_inv hi (sel_bd hi hb))
/-! ### eight things behind a byte of flags -/
abbrev S4 := Int × M3
noncomputable def fstep (B to size x : Int) (k : Nat) (s : S4) : S4 :=
  if x / ((2 ^ k : Nat) : Int) % 2 = 0 then ((s.1 + 1) % 4294967296, pt B to size (nb B s.2 s.1) s.2)
  else (((s.1 + 1) % 4294967296 + 1) % 4294967296, cp B to size (nb B s.2 s.1 % 16 * 256 + nb B s.2 ((s.1 + 1) % 4294967296) + 1) (nb B s.2 s.1 / 16 + 3).toNat s.2)
theorem fstep_inv {B to size x : Int} {k : Nat} {s : S4} (hi : Inv size s.2) : Inv size (fstep B to size x k s).2 := by
  unfold fstep
  have h1 := nb_bd (B := B) hi s.1
  have h2 := nb_bd (B := B) hi ((s.1 + 1) % 4294967296)
  split
  · exact pt_inv hi h1
  · exact cp_inv (by omega) _ hi
theorem fstep_grow {B to size x : Int} {k : Nat} {s : S4} (hi : Inv size s.2) (hf : ¬ full size s.2) : s.2.2.2.length < (fstep B to size x k s).2.2.2.length := by
  unfold fstep
  have h1 := nb_bd (B := B) hi s.1
  split
  · have := pt_len (B := B) (to := to) (x := nb B s.2 s.1) hf
    show s.2.2.2.length < (pt B to size (nb B s.2 s.1) s.2).2.2.length
    omega
  · exact (cp_grow _).2 hf (by omega)
noncomputable def fgo (B to size x : Int) : Nat → S4 → S4
  | 0, s => s
  | k + 1, s => if full size s.2 then s else fgo B to size x k (fstep B to size x k s)
theorem fgo_full {B to size x : Int} {s : S4} (h : full size s.2) : ∀ k, fgo B to size x k s = s
  | 0 => rfl
  | k + 1 => by unfold fgo; rw [if_pos h]
theorem fgo_inv {B to size x : Int} : ∀ (k : Nat) {s : S4}, Inv size s.2 → Inv size (fgo B to size x k s).2
  | 0, _, h => h
  | k + 1, s, h => by
    unfold fgo; split
    · exact h
    · exact fgo_inv k (fstep_inv h)
theorem fgo_grow {B to size x : Int} : ∀ (k : Nat) {s : S4}, Inv size s.2 → s.2.2.2.length ≤ (fgo B to size x k s).2.2.2.length ∧ (¬ full size s.2 → 0 < k → s.2.2.2.length < (fgo B to size x k s).2.2.2.length)
  | 0, _, _ => ⟨Nat.le_refl _, fun _ h => by omega⟩
  | k + 1, s, hi => by
    unfold fgo
    by_cases h : full size s.2
    · rw [if_pos h]; exact ⟨Nat.le_refl _, fun h' => absurd h h'⟩
    · rw [if_neg h]
      have h1 := fstep_grow (B := B) (to := to) (x := x) (k := k) hi h
      have h2 := (fgo_grow (B := B) (to := to) (x := x) k (fstep_inv (B := B) (to := to) (x := x) (k := k) hi)).1
      exact ⟨by omega, fun _ _ => by omega⟩
end Go.Proofs.Ytnobglfjinehfaa
