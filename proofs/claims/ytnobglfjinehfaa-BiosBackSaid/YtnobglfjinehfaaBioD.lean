/-
  BiosCopies.
-/
import Derived.Test.YtnobglfjinehfaaBioC
import Derived.Test.YtnobglfjinehfaaWrap2
namespace Go.Proofs.Ytnobglfjinehfaa
open Go.Vc
set_option linter.unusedVariables false
set_option linter.unusedSimpArgs false

theorem Same_refl (l : List E59) (h : l.length ≤ 9223372036854775806) : f_Same l l = some true := by
  unfold f_Same
  rw [cbeq rfl]
  refine loopO_for (fun i : Nat => (i : Int)) l.length (fun i hi => ?_) ?_
  · show cond (decide ((i : Int) < ((l.length : Nat) : Int))) _ _ = some (Sum.inl ((i + 1 : Nat) : Int))
    rw [cpos (by omega), cand (by omega) (by omega), cand (by omega) (by omega), cfalse (by simp), wrap_i64 (by omega) (by omega)]; rfl
  · show cond (decide ((l.length : Int) < ((l.length : Nat) : Int))) _ _ = _
    rw [cneg (by omega)]
theorem two_eq (w : List Int) (a b c : Int) (d : Bool) (e f : Int) (h : w.length ≤ 10000) : f_two w a b c d e f = some (w, w) := by
  unfold f_two
  rw [List.nil_append, cpos (by omega), cpos (by omega)]
/-- How many are copied. -/
def cnt (c : Int) (fast : Bool) : Int := if fast then (c % 65536 + 7) / 8 * 8 else c % 65536
def wid (c : Int) (fast : Bool) : Int := if fast ∨ c / 67108864 % 2 = 1 then 4 else 2
noncomputable def cpy1 (B : Int) (c w : Int) (s : Int × Int × List Int × List E59) : Int × Int × List Int × List E59 :=
  (if c / 16777216 % 2 = 0 then (s.1 + w) % 4294967296 else s.1, (s.2.1 + w) % 4294967296, wr B s.2.2.1 s.2.1 w (rd B s.2.2.1 s.1 w), s.2.2.2 ++ [⟨s.2.1, w, rd B s.2.2.1 s.1 w⟩])
noncomputable def cgo (B : Int) (c w : Int) (s : Int × Int × List Int × List E59) : Nat → Int × Int × List Int × List E59
  | 0 => s
  | n + 1 => cpy1 B c w (cgo B c w s n)
theorem cgo_len (B c w : Int) (s : Int × Int × List Int × List E59) : ∀ n, (cgo B c w s n).2.2.2.length = s.2.2.2.length + n
  | 0 => rfl
  | n + 1 => by
    show (((cgo B c w s n).2.2.2) ++ [_]).length = _
    rw [List.length_append, cgo_len B c w s n]; rfl
noncomputable def cst (B : Int) (bs : List Int) (from_ to c : Int) (fast : Bool) (n : Nat) : Int × Int × List Int × List E59 :=
  cgo B c (wid c fast) (from_ - from_ % wid c fast, to - to % wid c fast, bs, []) n
theorem wid_cases (c : Int) (fast : Bool) : wid c fast = 2 ∨ wid c fast = 4 := by unfold wid; split <;> simp
theorem cond_wid {c : Int} {fast : Bool} (h : 0 ≤ c ∧ c < 4294967296) : (cond ((bits .and .u32 (Int.fdiv c 67108864) 1) == 1) (some 4) (cond fast (some 4) (some 2)) : Option Int) = some (wid c fast) := by
  rw [fdiv_pos (by decide), and32 1 (by decide) (by decide) (by omega) (by omega)]
  simp only [show ((2 ^ 1 : Nat) : Int) = 2 by decide]
  unfold wid
  by_cases hc : c / 67108864 % 2 = 1
  · rw [ceq hc, if_pos (.inr hc)]
  · rw [cne hc]
    cases fast
    · rw [if_neg (by simp [hc])]; rfl
    · rw [if_pos (.inl rfl)]; rfl
theorem cond_wid' {c : Int} {fast : Bool} (h : 0 ≤ c ∧ c < 4294967296) : (cond fast (some 4) (cond ((Int.tmod (Int.fdiv c 67108864) 2) == 1) (some 4) (some 2)) : Option Int) = some (wid c fast) := by
  rw [fdiv_pos (by decide), tmod_nn (by omega)]
  unfold wid
  cases fast
  · by_cases hc : c / 67108864 % 2 = 1
    · rw [cfalse rfl, ceq hc, if_pos (.inr hc)]
    · rw [cfalse rfl, cne hc, if_neg (by simp [hc])]
  · rw [ctrue rfl, if_pos (.inl rfl)]
theorem cond_cnt {c : Int} {fast : Bool} (h : 0 ≤ c ∧ c < 4294967296) : (cond fast (Let ((IntKind.wrap .i64 ((IntKind.wrap .i64 (Int.tdiv (IntKind.wrap .i64 (c % 65536 + 7)) 8)) * 8)) : Int) fun s11_1 => (some s11_1)) (some (c % 65536)) : Option Int) = some (cnt c fast) := by
  unfold cnt
  cases fast
  · rfl
  · rw [ctrue rfl, Let_eq, if_pos rfl, wrap_i64 (x := c % 65536 + 7) (by omega) (by omega), tdiv_nn (by omega), wrap_i64 (x := (c % 65536 + 7) / 8) (by omega) (by omega), wrap_i64 (by omega) (by omega)]
theorem cond_cnt' {c : Int} {fast : Bool} (h : 0 ≤ c ∧ c < 4294967296) : (loopO (fun (s11 : Int) => ((cond fast (cond ((Int.tmod s11 8) != 0) (some (.inl (IntKind.wrap .i64 (s11 + 1)))) (some (.inr s11))) (some (.inr s11))) : Option (Int ⊕ Int))) (IntKind.wrap .i64 (Int.tmod c 65536))) = some (cnt c fast) := by
  rw [tmod_nn h.1, wrap_i64 (by omega) (by omega)]
  unfold cnt
  cases fast
  · rw [loopO_eq]; rfl
  · rw [if_pos rfl]
    refine loopO_inv (fun (n : Nat) (s : Int) => s + n = (c % 65536 + 7) / 8 * 8 ∧ 0 ≤ s ∧ s ≤ 65536 ∧ n < 8) ?_ ((c % 65536 + 7) / 8 * 8 - c % 65536).toNat _ (by omega)
    rintro n s ⟨h1, h2, h3, h4⟩
    show (∃ s' m, cond (Int.tmod s 8 != 0) _ _ = _ ∧ _) ∨ cond (Int.tmod s 8 != 0) _ _ = _
    rw [tmod_nn h2]
    by_cases hz : s % 8 = 0
    · right
      rw [cbeq hz, show s = (c % 65536 + 7) / 8 * 8 by omega]
    · left
      rw [cbne hz, wrap_i64 (by omega) (by omega)]
      exact ⟨_, n - 1, rfl, by omega, by omega, by omega, by omega, by omega⟩
theorem mask_eq {a w : Int} (ha : 0 ≤ a ∧ a < 4294967296) (hw : w = 2 ∨ w = 4) : bits .and .u32 a (bits .xor .u32 4294967295 (IntKind.wrap .u32 (IntKind.wrap .i64 (w - 1)))) = a - a % w := by
  rcases hw with rfl | rfl
  · rw [show bits .xor .u32 4294967295 (IntKind.wrap .u32 (IntKind.wrap .i64 (2 - 1))) = 4294967294 from by kernel_rfl, andHigh32 1 31 (by decide) (by decide) ha.1 ha.2]
    simp only [show ((2 ^ 1 : Nat) : Int) = 2 by decide, show ((2 ^ 31 : Nat) : Int) = 2147483648 by decide]
    omega
  · rw [show bits .xor .u32 4294967295 (IntKind.wrap .u32 (IntKind.wrap .i64 (4 - 1))) = 4294967292 from by kernel_rfl, andHigh32 2 30 (by decide) (by decide) ha.1 ha.2]
    simp only [show ((2 ^ 2 : Nat) : Int) = 4 by decide, show ((2 ^ 30 : Nat) : Int) = 1073741824 by decide]
    omega
theorem cgo_bd {B c w : Int} {s : Int × Int × List Int × List E59} (h1 : 0 ≤ s.1 ∧ s.1 < 4294967296) (h2 : 0 ≤ s.2.1 ∧ s.2.1 < 4294967296) : ∀ n, (0 ≤ (cgo B c w s n).1 ∧ (cgo B c w s n).1 < 4294967296) ∧ (0 ≤ (cgo B c w s n).2.1 ∧ (cgo B c w s n).2.1 < 4294967296)
  | 0 => ⟨h1, h2⟩
  | n + 1 => by
    have := cgo_bd (B := B) (c := c) (w := w) h1 h2 n
    refine ⟨?_, ?_⟩
    · show 0 ≤ (if c / 16777216 % 2 = 0 then ((cgo B c w s n).1 + w) % 4294967296 else (cgo B c w s n).1) ∧ (if c / 16777216 % 2 = 0 then ((cgo B c w s n).1 + w) % 4294967296 else (cgo B c w s n).1) < 4294967296
      split <;> omega
    · show 0 ≤ ((cgo B c w s n).2.1 + w) % 4294967296 ∧ ((cgo B c w s n).2.1 + w) % 4294967296 < 4294967296
      omega
theorem Copy_eq {B : Int} {bs : List Int} {from_ to c : Int} {fast : Bool} (hf : 0 ≤ from_ ∧ from_ < 4294967296) (ht : 0 ≤ to ∧ to < 4294967296) (hc : 0 ≤ c ∧ c < 4294967296) :
    f_Copy B bs [] from_ to c fast = some (cnt c fast, (cst B bs from_ to c fast (cnt c fast).toNat).2.2.1, (cst B bs from_ to c fast (cnt c fast).toNat).2.2.2) := by
  unfold f_Copy
  have hn : 0 ≤ cnt c fast ∧ cnt c fast ≤ 65543 := by unfold cnt; split <;> omega
  have hw := wid_cases c fast
  rw [and32 16 (by decide) (by decide) hc.1 hc.2]
  simp only [show ((2 ^ 16 : Nat) : Int) = 65536 by decide]
  rw [wrap_i64 (x := c % 65536) (by omega) (by omega), Let_eq, cond_wid hc, bind_some', cond_cnt hc, bind_some', Let_eq, mask_eq hf hw, mask_eq ht hw]
  have e0 : (from_ - from_ % wid c fast, to - to % wid c fast, (0 : Int), bs, ([] : List E59)) = (fun i : Nat => ((cst B bs from_ to c fast i).1, (cst B bs from_ to c fast i).2.1, (i : Int), (cst B bs from_ to c fast i).2.2.1, (cst B bs from_ to c fast i).2.2.2)) 0 := rfl
  rw [e0]
  refine loopO_for (fun i : Nat => ((cst B bs from_ to c fast i).1, (cst B bs from_ to c fast i).2.1, (i : Int), (cst B bs from_ to c fast i).2.2.1, (cst B bs from_ to c fast i).2.2.2)) (cnt c fast).toNat (fun i hi => ?_) ?_
  · have hb := cgo_bd (B := B) (c := c) (w := wid c fast) (s := (from_ - from_ % wid c fast, to - to % wid c fast, bs, [])) (by rcases hw with h | h <;> rw [h] <;> dsimp only <;> omega) (by rcases hw with h | h <;> rw [h] <;> dsimp only <;> omega) i
    have hl : (cst B bs from_ to c fast i).2.2.2.length = 0 + i := cgo_len _ _ _ _ i
    have hs : cst B bs from_ to c fast (i + 1) = cpy1 B c (wid c fast) (cst B bs from_ to c fast i) := rfl
    rw [hs]
    change (0 ≤ (cst B bs from_ to c fast i).1 ∧ (cst B bs from_ to c fast i).1 < 4294967296) ∧ (0 ≤ (cst B bs from_ to c fast i).2.1 ∧ (cst B bs from_ to c fast i).2.1 < 4294967296) at hb
    generalize cst B bs from_ to c fast i = g at hb hl
    obtain ⟨g1, g2, g3, g4⟩ := g
    show cond (decide ((i : Int) < cnt c fast)) ((f_MRead B g3 g4 g1 (wid c fast)).bind _) _ = _
    dsimp only at hb hl
    rw [cpos (by omega), MRead_eq (by omega) (by omega), bind_some', MWrite_eq (ns := g4) (by omega) (by omega) (by omega), bind_some']
    show cond ((bits .and .u32 (Int.fdiv c 16777216) 1) == 0) (Let _ _) (Let _ _) = some (Sum.inl ((if c / 16777216 % 2 = 0 then (g1 + wid c fast) % 4294967296 else g1), (g2 + wid c fast) % 4294967296, ((i + 1 : Nat) : Int), wr B g3 g2 (wid c fast) (rd B g3 g1 (wid c fast)), g4 ++ [⟨g2, wid c fast, rd B g3 g1 (wid c fast)⟩]))
    rw [fdiv_pos (by decide), and32 1 (by decide) (by decide) (by omega) (by omega)]
    simp only [show ((2 ^ 1 : Nat) : Int) = 2 by decide, Let_eq]
    rw [wrap_u32 (x := wid c fast) (by omega) (by omega), wrap_i64 (x := (i : Int) + 1) (by omega) (by omega)]
    by_cases hz : c / 16777216 % 2 = 0
    · rw [ceq hz, if_pos hz, wr_u32, wr_u32]; rfl
    · rw [cne hz, if_neg hz, wr_u32]; rfl
  · show cond (decide (((cnt c fast).toNat : Int) < cnt c fast)) _ _ = _
    rw [cneg (by omega)]
theorem rCopy_eq {B : Int} {bs : List Int} {from_ to c : Int} {fast : Bool} (hf : 0 ≤ from_ ∧ from_ < 4294967296) (ht : 0 ≤ to ∧ to < 4294967296) (hc : 0 ≤ c ∧ c < 4294967296) :
    f_rCopy B bs [] from_ to c fast = some (cnt c fast, (cst B bs from_ to c fast (cnt c fast).toNat).2.2.1, (cst B bs from_ to c fast (cnt c fast).toNat).2.2.2) := by
  unfold f_rCopy
  have hn : 0 ≤ cnt c fast ∧ cnt c fast ≤ 65543 := by unfold cnt; split <;> omega
  have hw := wid_cases c fast
  have hz : (!(wid c fast == 0)) = true := by rcases hw with h | h <;> rw [h] <;> rfl
  have hm : ∀ x : Int, 0 ≤ x ∧ x < 4294967296 → IntKind.wrap .u32 (x - Int.tmod x (wid c fast)) = x - x % wid c fast := fun x hx => by
    rw [tmod_nn hx.1, wr_u32]; rcases hw with h | h <;> rw [h] <;> omega
  rw [cond_wid' hc, bind_some', cond_cnt' hc, bind_some', ctrue hz, Let_eq, ctrue hz, Let_eq, hm _ hf, hm _ ht]
  have e0 : (from_ - from_ % wid c fast, to - to % wid c fast, (0 : Int), bs, ([] : List E59)) = (fun i : Nat => ((cst B bs from_ to c fast i).1, (cst B bs from_ to c fast i).2.1, (i : Int), (cst B bs from_ to c fast i).2.2.1, (cst B bs from_ to c fast i).2.2.2)) 0 := rfl
  rw [e0]
  refine loopO_for (fun i : Nat => ((cst B bs from_ to c fast i).1, (cst B bs from_ to c fast i).2.1, (i : Int), (cst B bs from_ to c fast i).2.2.1, (cst B bs from_ to c fast i).2.2.2)) (cnt c fast).toNat (fun i hi => ?_) ?_
  · have hl : (cst B bs from_ to c fast i).2.2.2.length = 0 + i := cgo_len _ _ _ _ i
    have hs : cst B bs from_ to c fast (i + 1) = cpy1 B c (wid c fast) (cst B bs from_ to c fast i) := rfl
    rw [hs]
    generalize cst B bs from_ to c fast i = g at hl
    obtain ⟨g1, g2, g3, g4⟩ := g
    show cond (decide ((i : Int) < cnt c fast)) ((f_MRead B g3 g4 g1 (IntKind.wrap .i64 (wid c fast))).bind _) _ = _
    dsimp only at hl
    rw [cpos (by omega), wrap_i64 (x := wid c fast) (by omega) (by omega), MRead_eq (by omega) (by omega), bind_some', MWrite_eq (ns := g4) (by omega) (by omega) (by omega), bind_some']
    show cond ((Int.tmod (Int.fdiv c 16777216) 2) == 0) _ _ = some (Sum.inl ((if c / 16777216 % 2 = 0 then (g1 + wid c fast) % 4294967296 else g1), (g2 + wid c fast) % 4294967296, ((i + 1 : Nat) : Int), wr B g3 g2 (wid c fast) (rd B g3 g1 (wid c fast)), g4 ++ [⟨g2, wid c fast, rd B g3 g1 (wid c fast)⟩]))
    rw [fdiv_pos (by decide), tmod_nn (by omega), wrap_i64 (x := (i : Int) + 1) (by omega) (by omega)]
    by_cases hz : c / 16777216 % 2 = 0
    · rw [ceq hz, if_pos hz, wr_u32, wr_u32]; rfl
    · rw [cne hz, if_neg hz, wr_u32]; rfl
  · show cond (decide (((cnt c fast).toNat : Int) < cnt c fast)) _ _ = _
    rw [cneg (by omega)]
theorem BiosCopies_eq (w : List Int) (a b c : Int) (d : Bool) (e f : Int) (ha : 0 ≤ a ∧ a < 4294967296) (hb : 0 ≤ b ∧ b < 4294967296) (hc : 0 ≤ c ∧ c < 4294967296) : f_BiosCopies w a b c d e f = some true := by
  unfold f_BiosCopies
  rw [awake_eq, bind_some']
  show cond (decide (((w.length : Nat) : Int) > 10000)) _ _ = _
  by_cases h : ((w.length : Nat) : Int) > 10000
  · rw [cpos h]
  rw [cneg h, two_eq w a b c d e f (by omega), bind_some']
  show cond _ _ ((f_Copy 33554432 w [] a b c d).bind _) = _
  rw [Copy_eq ha hb hc, bind_some']
  show cond _ _ ((f_rCopy 33554432 w [] a b c d).bind _) = _
  rw [rCopy_eq ha hb hc, bind_some']
  show cond _ _ (cond (cnt c d == cnt c d) ((f_Same (cst 33554432 w a b c d (cnt c d).toNat).2.2.2 (cst 33554432 w a b c d (cnt c d).toNat).2.2.2).bind _) _) = _
  have hn : 0 ≤ cnt c d ∧ cnt c d ≤ 65543 := by unfold cnt; split <;> omega
  have hl : (cst 33554432 w a b c d (cnt c d).toNat).2.2.2.length = 0 + (cnt c d).toNat := cgo_len _ _ _ _ _
  rw [ceq rfl, Same_refl _ (by omega), bind_some', csame]
end Go.Proofs.Ytnobglfjinehfaa
