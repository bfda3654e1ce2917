/-
  Streams of kinds 24 and 28: both readings.
-/
import Derived.Test.YtnobglfjinehfaaBioW
namespace Go.Proofs.Ytnobglfjinehfaa
open Go.Vc
set_option linter.unusedVariables false
set_option linter.unusedSimpArgs false

abbrev TT := Int × Option Int × M3
/-- One bit: to the left or to the right, and perhaps a byte. -/
noncomputable def nd (B to size root w : Int) (eight : Bool) (k : Nat) (t : TT) : TT :=
  let v := nb B t.2.2 t.1
  let r := w / ((2 ^ k : Nat) : Int) % 2
  let a := (t.1 - t.1 % 2 + v % 64 * 2 + 2 + r) % 4294967296
  if v / (128 - 64 * r) % 2 = 0 then (a, t.2.1, t.2.2)
  else
    let x := nb B t.2.2 a
    if eight = true then (root, t.2.1, pt B to size x t.2.2)
    else match t.2.1 with
      | none => (root, some (x % 16), t.2.2)
      | some f => (root, none, pt B to size ((f + 16 * x) % 256) t.2.2)
theorem nd_inv {B to size root w : Int} {eight : Bool} {k : Nat} {t : TT} (hi : Inv size t.2.2) : Inv size (nd B to size root w eight k t).2.2 := by
  unfold nd
  dsimp only
  split
  · exact hi
  · split
    · exact pt_inv hi (nb_bd hi _)
    · split
      · exact hi
      · exact pt_inv hi (by omega)
theorem nd_at {B to size root w : Int} {eight : Bool} {k : Nat} {t : TT} (hr : 0 ≤ root ∧ root < 4294967296) : 0 ≤ (nd B to size root w eight k t).1 ∧ (nd B to size root w eight k t).1 < 4294967296 := by
  unfold nd
  dsimp only
  split
  · dsimp only; omega
  · split
    · exact hr
    · split <;> exact hr
noncomputable def ngo (B to size root w : Int) (eight : Bool) : Nat → TT → TT
  | 0, t => t
  | k + 1, t => if full size t.2.2 then t else ngo B to size root w eight k (nd B to size root w eight k t)
theorem ngo_full {B to size root w : Int} {eight : Bool} {t : TT} (h : full size t.2.2) : ∀ k, ngo B to size root w eight k t = t
  | 0 => rfl
  | k + 1 => by unfold ngo; rw [if_pos h]
theorem ngo_inv {B to size root w : Int} {eight : Bool} : ∀ (k : Nat) {t : TT}, Inv size t.2.2 → Inv size (ngo B to size root w eight k t).2.2
  | 0, _, h => h
  | k + 1, t, h => by
    unfold ngo; split
    · exact h
    · exact ngo_inv k (nd_inv h)
theorem ngo_at {B to size root w : Int} {eight : Bool} (hr : 0 ≤ root ∧ root < 4294967296) : ∀ (k : Nat) {t : TT}, (0 ≤ t.1 ∧ t.1 < 4294967296) → 0 ≤ (ngo B to size root w eight k t).1 ∧ (ngo B to size root w eight k t).1 < 4294967296
  | 0, _, h => h
  | k + 1, t, h => by
    unfold ngo; split
    · exact h
    · exact ngo_at hr k (nd_at hr)
/-- What is kept of the half that was there first. -/
def prel (y : Int) (z : Bool) (h : Option Int) : Prop := (h = none ∧ z = false) ∨ (h = some y ∧ z = true ∧ 0 ≤ y ∧ y < 16)
def rrel (y : Int) (h : Option Int) : Prop := (h = none ∧ y = -1) ∨ (h = some y ∧ 0 ≤ y ∧ y < 16)
theorem nd_prog {ρ : Type} {B to size root w : Int} {eight : Bool} {F : Int × Int × Bool × Int × List Int × List E59 × List Int → Option ((Int × Int × Bool × Int × List Int × List E59 × List Int) ⊕ ρ)} (fin : Int → Int → Bool → M3 → ρ) (out : M3 → ρ) (hr : 0 ≤ root ∧ root < 4294967296)
    (h0 : ∀ (a y : Int) (z : Bool) (m : M3), F (a, y, z, -1, m.1, m.2.1, m.2.2) = some (.inr (fin a y z m)))
    (h1 : ∀ (k : Nat) (a y : Int) (z : Bool) (h : Option Int) (m : M3), k < 32 → (0 ≤ a ∧ a < 4294967296) → Inv size m → ¬ full size m → prel y z h → ∃ y' z', prel y' z' (nd B to size root w eight k (a, h, m)).2.1 ∧
      F (a, y, z, (k : Int), m.1, m.2.1, m.2.2) = some (if full size (nd B to size root w eight k (a, h, m)).2.2 then .inr (out (nd B to size root w eight k (a, h, m)).2.2) else .inl ((nd B to size root w eight k (a, h, m)).1, y', z', (k : Int) - 1, (nd B to size root w eight k (a, h, m)).2.2.1, (nd B to size root w eight k (a, h, m)).2.2.2.1, (nd B to size root w eight k (a, h, m)).2.2.2.2))) :
    ∀ (k : Nat) (a y : Int) (z : Bool) (h : Option Int) (m : M3), k ≤ 32 → (0 ≤ a ∧ a < 4294967296) → Inv size m → ¬ full size m → prel y z h → ∃ y' z', prel y' z' (ngo B to size root w eight k (a, h, m)).2.1 ∧
      loopO F (a, y, z, (k : Int) - 1, m.1, m.2.1, m.2.2) = some (if full size (ngo B to size root w eight k (a, h, m)).2.2 then out (ngo B to size root w eight k (a, h, m)).2.2 else fin (ngo B to size root w eight k (a, h, m)).1 y' z' (ngo B to size root w eight k (a, h, m)).2.2) := by
  intro k
  induction k with
  | zero =>
    intro a y z h m _ ha hi hf hp
    refine ⟨y, z, hp, ?_⟩
    rw [loopO_eq]
    show (F (a, y, z, -1, m.1, m.2.1, m.2.2)).bind _ = some (if full size m then _ else fin a y z m)
    rw [h0, bind_some', if_neg hf]
  | succ k ih =>
    intro a y z h m hk ha hi hf hp
    obtain ⟨y1, z1, hp1, e1⟩ := h1 k a y z h m (by omega) ha hi hf hp
    have e : ngo B to size root w eight (k + 1) (a, h, m) = ngo B to size root w eight k (nd B to size root w eight k (a, h, m)) := by
      show (if full size m then _ else _) = _
      rw [if_neg hf]
    rw [e, show ((k + 1 : Nat) : Int) - 1 = (k : Int) by omega]
    have hi' := nd_inv (B := B) (to := to) (root := root) (w := w) (eight := eight) (k := k) (t := (a, h, m)) hi
    have ha' := nd_at (B := B) (to := to) (size := size) (w := w) (eight := eight) (k := k) (t := (a, h, m)) hr
    by_cases hh : full size (nd B to size root w eight k (a, h, m)).2.2
    · refine ⟨y1, z1, by rw [ngo_full hh]; exact hp1, ?_⟩
      rw [loopO_eq, e1, if_pos hh, bind_some', ngo_full hh, if_pos hh]
    · obtain ⟨y2, z2, hp2, e2⟩ := ih (nd B to size root w eight k (a, h, m)).1 y1 z1 (nd B to size root w eight k (a, h, m)).2.1 (nd B to size root w eight k (a, h, m)).2.2 (by omega) ha' hi' hh hp1
      refine ⟨y2, z2, hp2, ?_⟩
      rw [loopO_eq, e1, if_neg hh, bind_some']
      exact e2
theorem nd_ref {ρ : Type} {B to size root w : Int} {eight : Bool} {F : Int × Int × Int × List Int × List E59 × List Int → Option ((Int × Int × Int × List Int × List E59 × List Int) ⊕ ρ)} (fin : Int → Int → M3 → ρ) (hr : 0 ≤ root ∧ root < 4294967296)
    (h0 : ∀ (a y : Int) (m : M3), F (a, y, 32, m.1, m.2.1, m.2.2) = some (.inr (fin a y m)))
    (h2 : ∀ (k : Nat) (a y : Int) (m : M3), k < 32 → full size m → F (a, y, ((31 - k : Nat) : Int), m.1, m.2.1, m.2.2) = some (.inr (fin a y m)))
    (h1 : ∀ (k : Nat) (a y : Int) (h : Option Int) (m : M3), k < 32 → (0 ≤ a ∧ a < 4294967296) → Inv size m → ¬ full size m → rrel y h → ∃ y', rrel y' (nd B to size root w eight k (a, h, m)).2.1 ∧
      F (a, y, ((31 - k : Nat) : Int), m.1, m.2.1, m.2.2) = some (.inl ((nd B to size root w eight k (a, h, m)).1, y', ((32 - k : Nat) : Int), (nd B to size root w eight k (a, h, m)).2.2.1, (nd B to size root w eight k (a, h, m)).2.2.2.1, (nd B to size root w eight k (a, h, m)).2.2.2.2))) :
    ∀ (k : Nat) (a y : Int) (h : Option Int) (m : M3), k ≤ 32 → (0 ≤ a ∧ a < 4294967296) → Inv size m → rrel y h → ∃ y', rrel y' (ngo B to size root w eight k (a, h, m)).2.1 ∧
      loopO F (a, y, ((32 - k : Nat) : Int), m.1, m.2.1, m.2.2) = some (fin (ngo B to size root w eight k (a, h, m)).1 y' (ngo B to size root w eight k (a, h, m)).2.2) := by
  intro k
  induction k with
  | zero =>
    intro a y h m _ ha hi hp
    refine ⟨y, hp, ?_⟩
    rw [loopO_eq]
    show (F (a, y, 32, m.1, m.2.1, m.2.2)).bind _ = some (fin a y m)
    rw [h0, bind_some']
  | succ k ih =>
    intro a y h m hk ha hi hp
    rw [show 32 - (k + 1) = 31 - k by omega]
    by_cases hf : full size m
    · refine ⟨y, by rw [ngo_full (t := (a, h, m)) hf]; exact hp, ?_⟩
      rw [loopO_eq, h2 k a y m (by omega) hf, bind_some', ngo_full (t := (a, h, m)) hf]
    · obtain ⟨y1, hp1, e1⟩ := h1 k a y h m (by omega) ha hi hf hp
      have e : ngo B to size root w eight (k + 1) (a, h, m) = ngo B to size root w eight k (nd B to size root w eight k (a, h, m)) := by
        show (if full size m then _ else _) = _
        rw [if_neg hf]
      rw [e, loopO_eq, e1, bind_some']
      exact ih _ y1 _ _ (by omega) (nd_at hr) (nd_inv (B := B) (to := to) (root := root) (w := w) (eight := eight) (k := k) (t := (a, h, m)) hi) hp1
theorem words_both {B to size root : Int} {eight : Bool} {ρ' : Type} {P : Int × Int × Int × Bool × Int × List Int × List E59 × List Int → Option ((Int × Int × Int × Bool × Int × List Int × List E59 × List Int) ⊕ (Int × Int × List Int × List E59 × List Int))} {R : Int × Int × Int × Int × List Int × List E59 × List Int → Option ((Int × Int × Int × Int × List Int × List E59 × List Int) ⊕ ρ')} (a0 n0 : Int) (rf : M3 → ρ') (hr : 0 ≤ root ∧ root < 4294967296)
    (hP0 : ∀ (st a y : Int) (z : Bool) (m : M3), P (st, a, y, z, 65536, m.1, m.2.1, m.2.2) = some (.inr (a0, n0, m.1, m.2.1, m.2.2)))
    (hP : ∀ (st a y : Int) (z : Bool) (h : Option Int) (j : Nat) (m : M3), j < 65536 → (0 ≤ a ∧ a < 4294967296) → Inv size m → ¬ full size m → prel y z h → ∃ y' z', prel y' z' (ngo B to size root (rd B m.1 st 4) eight 32 (a, h, m)).2.1 ∧
      P (st, a, y, z, (j : Int), m.1, m.2.1, m.2.2) = some (if full size (ngo B to size root (rd B m.1 st 4) eight 32 (a, h, m)).2.2 then .inr (a0, n0, (ngo B to size root (rd B m.1 st 4) eight 32 (a, h, m)).2.2.1, (ngo B to size root (rd B m.1 st 4) eight 32 (a, h, m)).2.2.2.1, (ngo B to size root (rd B m.1 st 4) eight 32 (a, h, m)).2.2.2.2)
        else .inl ((st + 4) % 4294967296, (ngo B to size root (rd B m.1 st 4) eight 32 (a, h, m)).1, y', z', ((j + 1 : Nat) : Int), (ngo B to size root (rd B m.1 st 4) eight 32 (a, h, m)).2.2.1, (ngo B to size root (rd B m.1 st 4) eight 32 (a, h, m)).2.2.2.1, (ngo B to size root (rd B m.1 st 4) eight 32 (a, h, m)).2.2.2.2)))
    (hR0 : ∀ (st a y : Int) (m : M3), R (st, a, y, 65536, m.1, m.2.1, m.2.2) = some (.inr (rf m)))
    (hR1 : ∀ (st a y : Int) (j : Nat) (m : M3), full size m → R (st, a, y, (j : Int), m.1, m.2.1, m.2.2) = some (.inr (rf m)))
    (hR : ∀ (st a y : Int) (h : Option Int) (j : Nat) (m : M3), j < 65536 → (0 ≤ a ∧ a < 4294967296) → Inv size m → ¬ full size m → rrel y h → ∃ y', rrel y' (ngo B to size root (rd B m.1 st 4) eight 32 (a, h, m)).2.1 ∧
      R (st, a, y, (j : Int), m.1, m.2.1, m.2.2) = some (.inl ((st + 4) % 4294967296, (ngo B to size root (rd B m.1 st 4) eight 32 (a, h, m)).1, y', ((j + 1 : Nat) : Int), (ngo B to size root (rd B m.1 st 4) eight 32 (a, h, m)).2.2.1, (ngo B to size root (rd B m.1 st 4) eight 32 (a, h, m)).2.2.2.1, (ngo B to size root (rd B m.1 st 4) eight 32 (a, h, m)).2.2.2.2))) :
    ∀ (d j : Nat) (st a y : Int) (z : Bool) (y2 : Int) (h : Option Int) (m : M3), j + d = 65536 → (0 ≤ a ∧ a < 4294967296) → Inv size m → ¬ full size m → prel y z h → rrel y2 h → ∃ m' : M3, loopO P (st, a, y, z, (j : Int), m.1, m.2.1, m.2.2) = some (a0, n0, m'.1, m'.2.1, m'.2.2) ∧ loopO R (st, a, y2, (j : Int), m.1, m.2.1, m.2.2) = some (rf m') ∧ Inv size m' := by
  intro d
  induction d with
  | zero =>
    intro j st a y z y2 h m hj ha hi hf hp hq
    obtain rfl : j = 65536 := by omega
    refine ⟨m, ?_, ?_, hi⟩
    · rw [loopO_eq]
      show (P (st, a, y, z, 65536, m.1, m.2.1, m.2.2)).bind _ = _
      rw [hP0, bind_some']
    · rw [loopO_eq]
      show (R (st, a, y2, 65536, m.1, m.2.1, m.2.2)).bind _ = _
      rw [hR0, bind_some']
  | succ d ih =>
    intro j st a y z y2 h m hj ha hi hf hp hq
    obtain ⟨y1, z1, hp1, e1⟩ := hP st a y z h j m (by omega) ha hi hf hp
    obtain ⟨y3, hq1, e2⟩ := hR st a y2 h j m (by omega) ha hi hf hq
    have hi' := ngo_inv (B := B) (to := to) (root := root) (w := rd B m.1 st 4) (eight := eight) 32 (t := (a, h, m)) hi
    have ha' := ngo_at (B := B) (to := to) (size := size) (w := rd B m.1 st 4) (eight := eight) hr 32 (t := (a, h, m)) ha
    by_cases hh : full size (ngo B to size root (rd B m.1 st 4) eight 32 (a, h, m)).2.2
    · refine ⟨(ngo B to size root (rd B m.1 st 4) eight 32 (a, h, m)).2.2, ?_, ?_, hi'⟩
      · rw [loopO_eq, e1, if_pos hh, bind_some']
      · rw [loopO_eq, e2, bind_some']
        show loopO R (_, _, _, _, _) = _
        rw [loopO_eq, hR1 _ _ _ _ _ hh, bind_some']
    · obtain ⟨m', e3, e4, e5⟩ := ih (j + 1) ((st + 4) % 4294967296) _ y1 z1 y3 _ _ (by omega) ha' hi' hh hp1 hq1
      refine ⟨m', ?_, ?_, e5⟩
      · rw [loopO_eq, e1, if_neg hh, bind_some']; exact e3
      · rw [loopO_eq, e2, bind_some']; exact e4
theorem bit32 {k : Nat} {x : Int} (hk : k < 32) (h : 0 ≤ x ∧ x < 4294967296) : bits .and .u32 (Int.fdiv x (2 ^ (min ((k : Nat) : Int).toNat 32))) 1 = x / ((2 ^ k : Nat) : Int) % 2 := by
  rw [show min ((k : Nat) : Int).toNat 32 = k by omega]
  have e : (2 : Int) ^ k = ((2 ^ k : Nat) : Int) := by simp
  rw [e, fdiv_pos (by have := Nat.pow_pos (n := k) (show 0 < 2 by decide); omega)]
  have h2 : 0 ≤ x / ((2 ^ k : Nat) : Int) := Int.ediv_nonneg h.1 (Int.natCast_nonneg _)
  have h3 : x / ((2 ^ k : Nat) : Int) ≤ x := Int.ediv_le_self _ h.1
  rw [and32 1 (by decide) (by decide) h2 (by omega)]; rfl
theorem leaf_p {v r : Int} (hv : 0 ≤ v ∧ v < 256) (hr : r = 0 ∨ r = 1) : (bits .and .u8 (Int.fdiv (IntKind.wrap .u8 v) (2 ^ (min (IntKind.wrap .u32 (7 - r)).toNat 8))) 1 == 1) = !(decide (v / (128 - 64 * r) % 2 = 0)) := by
  rw [wrap_u8 hv.1 hv.2]
  rcases hr with rfl | rfl
  · rw [show IntKind.wrap .u32 (7 - 0) = 7 from by kernel_rfl, show ((2 : Int) ^ (min (7 : Int).toNat 8)) = 128 from by decide, fdiv_pos (by decide), and8 1 (by decide) (by decide) (by omega) (by omega), show (128 - 64 * 0 : Int) = 128 from by decide]
    simp only [show ((2 ^ 1 : Nat) : Int) = 2 by decide]
    by_cases h : v / 128 % 2 = 0
    · rw [h]; rfl
    · rw [show v / 128 % 2 = 1 by omega]; rfl
  · rw [show IntKind.wrap .u32 (7 - 1) = 6 from by kernel_rfl, show ((2 : Int) ^ (min (6 : Int).toNat 8)) = 64 from by decide, fdiv_pos (by decide), and8 1 (by decide) (by decide) (by omega) (by omega), show (128 - 64 * 1 : Int) = 64 from by decide]
    simp only [show ((2 ^ 1 : Nat) : Int) = 2 by decide]
    by_cases h : v / 64 % 2 = 0
    · rw [h]; rfl
    · rw [show v / 64 % 2 = 1 by omega]; rfl
theorem leaf_r {v r : Int} (hv : 0 ≤ v ∧ v < 256) (hr : r = 0 ∨ r = 1) : Int.tmod (Int.fdiv v (2 ^ (min (IntKind.wrap .u32 (7 - r)).toNat 32))) 2 = v / (128 - 64 * r) % 2 := by
  rcases hr with rfl | rfl
  · rw [show IntKind.wrap .u32 (7 - 0) = 7 from by kernel_rfl, show ((2 : Int) ^ (min (7 : Int).toNat 32)) = 128 from by decide, fdiv_pos (by decide), show (128 - 64 * 0 : Int) = 128 from by decide, tmod_nn (by omega)]
  · rw [show IntKind.wrap .u32 (7 - 1) = 6 from by kernel_rfl, show ((2 : Int) ^ (min (6 : Int).toNat 32)) = 64 from by decide, fdiv_pos (by decide), show (128 - 64 * 1 : Int) = 64 from by decide, tmod_nn (by omega)]
theorem addr_p {a v r : Int} (ha : 0 ≤ a ∧ a < 4294967296) (hv : 0 ≤ v ∧ v < 256) (hr : r = 0 ∨ r = 1) : IntKind.wrap .u32 ((IntKind.wrap .u32 ((IntKind.wrap .u32 ((bits .andNot .u32 a 1) + (IntKind.wrap .u32 ((IntKind.wrap .u32 (bits .and .u8 (IntKind.wrap .u8 v) 63)) * 2)))) + 2)) + r) = (a - a % 2 + v % 64 * 2 + 2 + r) % 4294967296 := by
  rw [andNot1 ha.1 ha.2, wrap_u8 hv.1 hv.2, and8 6 (by decide) (by decide) hv.1 hv.2]
  simp only [show ((2 ^ 6 : Nat) : Int) = 64 by decide, wr_u32]; omega
theorem addr_r {a v r : Int} (ha : 0 ≤ a ∧ a < 4294967296) (hv : 0 ≤ v ∧ v < 256) (hr : r = 0 ∨ r = 1) : IntKind.wrap .u32 ((IntKind.wrap .u32 ((IntKind.wrap .u32 ((IntKind.wrap .u32 (a - (Int.tmod a 2))) + (IntKind.wrap .u32 (2 * (Int.tmod v 64))))) + 2)) + r) = (a - a % 2 + v % 64 * 2 + 2 + r) % 4294967296 := by
  rw [tmod_nn ha.1, tmod_nn hv.1]
  simp only [wr_u32]; omega
end Go.Proofs.Ytnobglfjinehfaa
