/-
  Towards BiosBack: what is read and written when a stream lies at the memory's beginning and comes out behind it.
-/
import Derived.Test.YtnobglfjinehfaaBioZ
namespace Go.Proofs.Ytnobglfjinehfaa
open Go.Vc
set_option linter.unusedVariables false
set_option linter.unusedSimpArgs false

theorem wr2 {bs : List Int} {a : Nat} {v : Int} (h : a + 1 < bs.length) (hl : bs.length ≤ 100000) (hv : 0 ≤ v ∧ v < 65536) : wr 0 bs (a : Int) 2 v = (bs.set a (v % 256)).set (a + 1) (v / 256) := by
  show (wrS 0 (a : Int) v bs 2).2 = _
  have e0 : at_ 0 (a : Int) ((0 : Nat) : Int) = (a : Int) := by unfold at_; omega
  have e1 : at_ 0 (a : Int) ((1 : Nat) : Int) = ((a + 1 : Nat) : Int) := by unfold at_; omega
  have s1 : wrS 0 (a : Int) v bs 1 = (v / 256, bs.set a (v % 256)) := by
    show (IntKind.wrap .u32 (Int.tdiv v 256), if at_ 0 (a : Int) ((0 : Nat) : Int) < (bs.length : Int) then bs.set (at_ 0 (a : Int) ((0 : Nat) : Int)).toNat (IntKind.wrap .u8 v) else bs) = _
    rw [e0, if_pos (by omega), tdiv_nn hv.1, wrap_u32 (x := v / 256) (by omega) (by omega), wr_u8]; rfl
  show (if at_ 0 (a : Int) ((1 : Nat) : Int) < ((wrS 0 (a : Int) v bs 1).2.length : Int) then (wrS 0 (a : Int) v bs 1).2.set (at_ 0 (a : Int) ((1 : Nat) : Int)).toNat (IntKind.wrap .u8 (wrS 0 (a : Int) v bs 1).1) else (wrS 0 (a : Int) v bs 1).2) = _
  rw [s1, e1]
  dsimp only
  rw [List.length_set, if_pos (by omega), wr_u8, show v / 256 % 256 = v / 256 by omega]; rfl
theorem nb_at {m : M3} {a : Nat} (hok : okB m.1) (h : a < m.1.length) (hl : m.1.length ≤ 100000) : nb 0 m (a : Int) = m.1[a] := by
  show rd 0 m.1 (a : Int) 1 = _
  have e0 : at_ 0 (a : Int) 0 = (a : Int) := by unfold at_; omega
  rw [rd1 hok]
  unfold rdB
  rw [e0, if_pos (by omega), ixL_nat h]
/-- The stream is whole, and what came out lies behind it, but for an odd byte. -/
structure Gd (l : List Int) (to : Nat) (m : M3) : Prop where
  fit : to + 3002 ≤ m.1.length
  big : m.1.length ≤ 100000
  apart : l.length ≤ to
  head : ∀ i, i < l.length → m.1[i]? = l[i]?
  out : ∀ k, k < m.2.2.length / 2 * 2 → m.1[to + k]? = m.2.2[k]?
theorem pt_good {l : List Int} {to : Nat} {size x : Int} {m : M3} (hg : Gd l to m) (hi : Inv size m) (hs : size ≤ 3000) (hx : 0 ≤ x ∧ x < 256) (hf : ¬ full size m) : Gd l to (pt 0 (to : Int) size x m) ∧ (pt 0 (to : Int) size x m).2.2 = m.2.2 ++ [x] := by
  have hf' : ¬ size ≤ (m.2.2.length : Int) := hf
  have h1 := hg.fit
  have h2 := hg.big
  have h3 := hg.apart
  unfold pt; rw [if_neg hf]
  by_cases hp : (m.2.2.length + 1) % 2 = 0
  · rw [if_pos hp]
    have hpos : 0 < m.2.2.length := by omega
    have hlast := hi.done _ (ixL_mem (l := m.2.2) (i := (m.2.2.length : Int) - 1) (by omega) (by omega))
    have ha : ((to : Int) + ((m.2.2.length : Int) - 1)) % 4294967296 = ((to + (m.2.2.length - 1) : Nat) : Int) := by omega
    have hp1 : ixL m.2.2 ((m.2.2.length : Int) - 1) = m.2.2[m.2.2.length - 1] := by rw [show (m.2.2.length : Int) - 1 = ((m.2.2.length - 1 : Nat) : Int) by omega, ixL_nat (by omega)]
    rw [hp1] at hlast ⊢
    generalize hpp : m.2.2[m.2.2.length - 1] = p at hlast
    rw [ha, wr2 (by omega) h2 (by omega), show (p + 256 * x) % 256 = p by omega, show (p + 256 * x) / 256 = x by omega]
    refine ⟨⟨by simp only [List.length_set]; omega, by simp only [List.length_set]; omega, h3, fun i hi' => ?_, fun k hk => ?_⟩, rfl⟩
    · dsimp only
      rw [List.getElem?_set_ne (by omega), List.getElem?_set_ne (by omega)]
      exact hg.head i hi'
    · dsimp only at hk ⊢
      rw [List.length_append, List.length_singleton] at hk
      by_cases hk1 : k = m.2.2.length
      · subst hk1
        rw [show to + m.2.2.length = to + (m.2.2.length - 1) + 1 by omega, List.getElem?_set_self (by simp only [List.length_set]; omega), List.getElem?_append_right (Nat.le_refl _), Nat.sub_self]; rfl
      · by_cases hk2 : k = m.2.2.length - 1
        · subst hk2
          rw [List.getElem?_set_ne (by omega), List.getElem?_set_self (by omega), List.getElem?_append_left (by omega), List.getElem?_eq_getElem (by omega), hpp]
        · rw [List.getElem?_set_ne (by omega), List.getElem?_set_ne (by omega), List.getElem?_append_left (by omega)]
          exact hg.out k (by omega)
  · rw [if_neg hp]
    refine ⟨⟨h1, h2, h3, hg.head, fun k hk => ?_⟩, rfl⟩
    dsimp only at hk ⊢
    rw [List.length_append, List.length_singleton] at hk
    rw [List.getElem?_append_left (by omega)]
    exact hg.out k (by omega)
end Go.Proofs.Ytnobglfjinehfaa
