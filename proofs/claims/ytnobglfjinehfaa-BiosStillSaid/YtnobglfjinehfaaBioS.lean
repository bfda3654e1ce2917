/-
  What is turned by nothing: BiosStill.
-/
import Derived.Test.YtnobglfjinehfaaBioO
namespace Go.Proofs.Ytnobglfjinehfaa
open Go.Vc
set_option linter.unusedVariables false
set_option linter.unusedSimpArgs false

/-- A word's bytes put together. -/
def asm4 (b0 b1 b2 b3 : Int) : Int := IntKind.wrap .u32 (IntKind.wrap .u32 (IntKind.wrap .u32 (IntKind.wrap .u32 (IntKind.wrap .u32 (IntKind.wrap .u32 (IntKind.wrap .u32 (IntKind.wrap .u32 (0 * 256) + IntKind.wrap .u32 b3) * 256) + IntKind.wrap .u32 b2) * 256) + IntKind.wrap .u32 b1) * 256) + IntKind.wrap .u32 b0)
abbrev y0 (x : Int) : Int := IntKind.wrap .u8 x
abbrev y1 (x : Int) : Int := IntKind.wrap .u8 (IntKind.wrap .u32 (Int.tdiv x 256))
abbrev y2 (x : Int) : Int := IntKind.wrap .u8 (IntKind.wrap .u32 (Int.tdiv (IntKind.wrap .u32 (Int.tdiv x 256)) 256))
abbrev y3 (x : Int) : Int := IntKind.wrap .u8 (IntKind.wrap .u32 (Int.tdiv (IntKind.wrap .u32 (Int.tdiv (IntKind.wrap .u32 (Int.tdiv x 256)) 256)) 256))
theorem asm_eq {x : Int} (h : 0 ≤ x ∧ x < 4294967296) : asm4 (y0 x) (y1 x) (y2 x) (y3 x) = x := by
  unfold asm4 y0 y1 y2 y3
  rw [tdiv_nn h.1, wrap_u32 (x := x / 256) (by omega) (by omega), tdiv_nn (a := x / 256) (by omega), wrap_u32 (x := x / 256 / 256) (by omega) (by omega), tdiv_nn (a := x / 256 / 256) (by omega), wrap_u32 (x := x / 256 / 256 / 256) (by omega) (by omega)]
  simp only [wr_u8, wr_u32]; omega
def asm2 (b0 b1 : Int) : Int := IntKind.wrap .u32 (IntKind.wrap .u32 (IntKind.wrap .u32 (IntKind.wrap .u32 (0 * 256) + IntKind.wrap .u32 b1) * 256) + IntKind.wrap .u32 b0)
theorem asm2_eq {x : Int} (h : 0 ≤ x ∧ x < 256) : asm2 (y0 x) (y1 x) = x := by
  unfold asm2 y0 y1
  rw [tdiv_nn h.1, wrap_u32 (x := x / 256) (by omega) (by omega)]
  simp only [wr_u8, wr_u32]; omega
def ML (x y a : Int) : List Int := [y0 x, y1 x, y2 x, y3 x, y0 y, y1 y, y2 y, y3 y, 0, 0, 0, 0, 0, 1, 0, 1, y0 a, y1 a] ++ List.replicate 182 0
theorem ml_eq (x y a : Int) : wr 0 (wr 0 (wr 0 (wr 0 (wr 0 (List.replicate 200 0) 0 4 x) 4 4 y) 12 2 256) 14 2 256) 16 2 a = ML x y a := by kernel_rfl
theorem ml_0 (x y a : Int) : rd 0 (ML x y a) 0 4 = asm4 (y0 x) (y1 x) (y2 x) (y3 x) := by kernel_rfl
theorem ml_4 (x y a : Int) : rd 0 (ML x y a) 4 4 = asm4 (y0 y) (y1 y) (y2 y) (y3 y) := by kernel_rfl
theorem ml_8 (x y a : Int) : rd 0 (ML x y a) 8 2 = 0 := by kernel_rfl
theorem ml_10 (x y a : Int) : rd 0 (ML x y a) 10 2 = 0 := by kernel_rfl
theorem ml_12 (x y a : Int) : rd 0 (ML x y a) 12 2 = 256 := by kernel_rfl
theorem ml_14 (x y a : Int) : rd 0 (ML x y a) 14 2 = 256 := by kernel_rfl
theorem ml_16 (x y a : Int) : rd 0 (ML x y a) 16 2 = asm2 (y0 a) (y1 a) := by kernel_rfl
theorem ml_tn {x y a : Int} (h : 0 ≤ a ∧ a < 256) : tn 0 (ML x y a) 12 = (256, 0, 0, 256) := by
  unfold tn
  rw [show ((12 : Int) + 2) % 4294967296 = 14 by decide, show ((12 : Int) + 4) % 4294967296 = 16 by decide, ml_12, ml_14, ml_16, asm2_eq h, show a / 256 % 256 = 0 by omega]
  kernel_rfl
def ML2 (L : List Int) (x y : Int) : List Int := wr 0 (wr 0 (wr 0 (wr 0 (wr 0 (wr 0 L 100 2 256) 102 2 0) 104 2 0) 106 2 256) 108 4 x) 112 4 y
theorem bgs_still {x y a : Int} (hx : 0 ≤ x ∧ x < 4294967296) (hy : 0 ≤ y ∧ y < 4294967296) (ha : 0 ≤ a ∧ a < 256) (ns : List E59) : (bgs 0 (0, 100, ML x y a, ns)).2.2.1 = ML2 (ML x y a) x y := by
  unfold bgs bg4 put4 ML2
  dsimp only
  rw [show ((0 : Int) + 12) % 4294967296 = 12 by decide, ml_tn ha, show ((0 : Int) + 8) % 4294967296 = 8 by decide, show ((0 : Int) + 10) % 4294967296 = 10 by decide, show ((0 : Int) + 4) % 4294967296 = 4 by decide, ml_8, ml_10, ml_0, ml_4, asm_eq hx, asm_eq hy]
  rw [show (x - 256 * IntKind.wrap .i16 0 - 0 * IntKind.wrap .i16 0) % 4294967296 = x by rw [wr_i16]; omega, show (y - 0 * IntKind.wrap .i16 0 - 256 * IntKind.wrap .i16 0) % 4294967296 = y by rw [wr_i16]; omega]
  rfl
/-- The memory behind the first call: what is told below 20 is as it was. -/
theorem ml2_12 (x y a : Int) : rd 0 (ML2 (ML x y a) x y) 12 2 = 256 := by kernel_rfl
theorem ml2_14 (x y a : Int) : rd 0 (ML2 (ML x y a) x y) 14 2 = 256 := by kernel_rfl
theorem ml2_16 (x y a : Int) : rd 0 (ML2 (ML x y a) x y) 16 2 = asm2 (y0 a) (y1 a) := by kernel_rfl
theorem ml2_tn {x y a : Int} (h : 0 ≤ a ∧ a < 256) : tn 0 (ML2 (ML x y a) x y) 12 = (256, 0, 0, 256) := by
  unfold tn
  rw [show ((12 : Int) + 2) % 4294967296 = 14 by decide, show ((12 : Int) + 4) % 4294967296 = 16 by decide, ml2_12, ml2_14, ml2_16, asm2_eq h, show a / 256 % 256 = 0 by omega]
  kernel_rfl
def ML3 (L : List Int) : List Int := wr 0 (wr 0 (wr 0 (wr 0 L 140 2 256) 148 2 0) 156 2 0) 164 2 256
theorem obs_still {x y a : Int} (ha : 0 ≤ a ∧ a < 256) (ns : List E59) : (obs 0 8 (12, 140, ML2 (ML x y a) x y, ns)).2.2.1 = ML3 (ML2 (ML x y a) x y) := by
  unfold obs put4 ML3
  dsimp only
  rw [ml2_tn ha]
  rfl
theorem ml3_w (x y a : Int) : rd 0 (ML3 (ML2 (ML x y a) x y)) 100 2 = 256 ∧ rd 0 (ML3 (ML2 (ML x y a) x y)) 102 2 = 0 ∧ rd 0 (ML3 (ML2 (ML x y a) x y)) 104 2 = 0 ∧ rd 0 (ML3 (ML2 (ML x y a) x y)) 106 2 = 256 :=
  ⟨by kernel_rfl, by kernel_rfl, by kernel_rfl, by kernel_rfl⟩
theorem ml3_o (x y a : Int) : rd 0 (ML3 (ML2 (ML x y a) x y)) 140 2 = 256 ∧ rd 0 (ML3 (ML2 (ML x y a) x y)) 148 2 = 0 ∧ rd 0 (ML3 (ML2 (ML x y a) x y)) 156 2 = 0 ∧ rd 0 (ML3 (ML2 (ML x y a) x y)) 164 2 = 256 :=
  ⟨by kernel_rfl, by kernel_rfl, by kernel_rfl, by kernel_rfl⟩
theorem ml3_x (x y a : Int) : rd 0 (ML3 (ML2 (ML x y a) x y)) 108 4 = asm4 (y0 x) (y1 x) (y2 x) (y3 x) ∧ rd 0 (ML3 (ML2 (ML x y a) x y)) 112 4 = asm4 (y0 y) (y1 y) (y2 y) (y3 y) :=
  ⟨by kernel_rfl, by kernel_rfl⟩
theorem BiosStill_eq (p q ang : Int) (hg : 0 ≤ ang ∧ ang < 65536) : f_BiosStill p q ang = some true := by
  unfold f_BiosStill
  rw [awake_eq, bind_some']
  have hA : bits .and .u16 ang 255 = ang % 256 := by rw [and16 8 (by decide) (by decide) hg.1 hg.2]; rfl
  have hx := u32_bd p
  have hy := u32_bd q
  generalize IntKind.wrap .u32 p = x at hx
  generalize IntKind.wrap .u32 q = y at hy
  rw [cfalse (show (!true) = false from rfl), cand3 (by decide) (by decide) (by decide)]
  show ((f_MWrite 0 (List.replicate 200 0) [] 0 4 x).bind _) = _
  rw [MWrite_eq (by decide) (by decide) (by decide), bind_some']
  show ((f_MWrite 0 _ _ 4 4 y).bind _) = _
  rw [MWrite_eq (by decide) (by decide) (by simp), bind_some']
  show ((f_MWrite 0 _ _ 12 2 256).bind _) = _
  rw [MWrite_eq (by decide) (by decide) (by simp), bind_some']
  show ((f_MWrite 0 _ _ 14 2 256).bind _) = _
  rw [MWrite_eq (by decide) (by decide) (by simp), bind_some', hA, wrap_u32 (x := ang % 256) (by omega) (by omega)]
  have ha : 0 ≤ ang % 256 ∧ ang % 256 < 256 := by omega
  generalize ang % 256 = a at ha
  show ((f_MWrite 0 _ _ 16 2 a).bind _) = _
  rw [MWrite_eq (by decide) (by decide) (by simp), bind_some', ml_eq]
  obtain ⟨ns, hns, hl⟩ : ∃ ns : List E59, ([] ++ [⟨0, 4, x⟩] ++ [⟨4, 4, y⟩] ++ [⟨12, 2, 256⟩] ++ [⟨14, 2, 256⟩] ++ [⟨16, 2, a⟩] : List E59) = ns ∧ ns.length = 5 := ⟨_, rfl, rfl⟩
  rw [hns]
  show ((f_BgTurn 0 (ML x y a) ns 0 100 1).bind _) = _
  rw [BgTurn_eq _ _ _ _ _ _ (by omega), bind_some']
  show cond ((1 : Int) != 1) _ ((f_ObjTurn 0 (bgs 0 (0, 100, ML x y a, ns)).2.2.1 (bgs 0 (0, 100, ML x y a, ns)).2.2.2 12 140 1 8).bind _) = _
  have l1 : (bgs 0 (0, 100, ML x y a, ns)).2.2.2.length = ns.length + 6 := bgs_len _ _
  rw [cbeq rfl, bgs_still hx hy ha, ObjTurn_eq _ _ _ _ _ _ _ (by omega), bind_some']
  show cond ((1 : Int) != 1) _ (loopO _ _) = _
  rw [cbeq rfl]
  have e3 : (it (obs 0 8) (12, 140, ML2 (ML x y a) x y, (bgs 0 (0, 100, ML x y a, ns)).2.2.2) (clamp 1).toNat).2.2.1 = ML3 (ML2 (ML x y a) x y) := obs_still ha _
  rw [e3]
  have w1 := ml3_w x y a
  have w2 := ml3_o x y a
  have w3 := ml3_x x y a
  rw [asm_eq hx, asm_eq hy] at w3
  generalize ML3 (ML2 (ML x y a) x y) = L at w1 w2 w3
  refine loopO_for (fun i : Nat => (i : Int)) 4 (fun i hi => ?_) ?_
  · obtain rfl | rfl | rfl | rfl : i = 0 ∨ i = 1 ∨ i = 2 ∨ i = 3 := by omega
    · show cond (decide ((0 : Int) < ((4 : Nat) : Int))) (cond (decide (0 ≤ (0 : Int)) && decide ((0 : Int) < ((4 : Nat) : Int))) ((f_MRead 0 L _ 100 2).bind _) _) _ = _
      rw [cpos (by decide), cand (by decide) (by decide), MRead_eq (by decide) (by decide), bind_some', w1.1]
      show cond ((256 : Int) != 256) _ ((f_MRead 0 L _ 140 2).bind _) = _
      rw [cbeq rfl, MRead_eq (by decide) (by decide), bind_some', w2.1]; rfl
    · show cond (decide ((1 : Int) < ((4 : Nat) : Int))) (cond (decide (0 ≤ (1 : Int)) && decide ((1 : Int) < ((4 : Nat) : Int))) ((f_MRead 0 L _ 102 2).bind _) _) _ = _
      rw [cpos (by decide), cand (by decide) (by decide), MRead_eq (by decide) (by decide), bind_some', w1.2.1]
      show cond ((0 : Int) != 0) _ ((f_MRead 0 L _ 148 2).bind _) = _
      rw [cbeq rfl, MRead_eq (by decide) (by decide), bind_some', w2.2.1]; rfl
    · show cond (decide ((2 : Int) < ((4 : Nat) : Int))) (cond (decide (0 ≤ (2 : Int)) && decide ((2 : Int) < ((4 : Nat) : Int))) ((f_MRead 0 L _ 104 2).bind _) _) _ = _
      rw [cpos (by decide), cand (by decide) (by decide), MRead_eq (by decide) (by decide), bind_some', w1.2.2.1]
      show cond ((0 : Int) != 0) _ ((f_MRead 0 L _ 156 2).bind _) = _
      rw [cbeq rfl, MRead_eq (by decide) (by decide), bind_some', w2.2.2.1]; rfl
    · show cond (decide ((3 : Int) < ((4 : Nat) : Int))) (cond (decide (0 ≤ (3 : Int)) && decide ((3 : Int) < ((4 : Nat) : Int))) ((f_MRead 0 L _ 106 2).bind _) _) _ = _
      rw [cpos (by decide), cand (by decide) (by decide), MRead_eq (by decide) (by decide), bind_some', w1.2.2.2]
      show cond ((256 : Int) != 256) _ ((f_MRead 0 L _ 164 2).bind _) = _
      rw [cbeq rfl, MRead_eq (by decide) (by decide), bind_some', w2.2.2.2]; rfl
  · show cond (decide ((4 : Int) < ((4 : Nat) : Int))) _ ((f_MRead 0 L _ 108 4).bind _) = _
    rw [cneg (by decide), MRead_eq (by decide) (by decide), bind_some', w3.1, ceq rfl, MRead_eq (by decide) (by decide), bind_some', w3.2]
    simp
theorem law_BiosStill (w : World) (a0 : Int) (w0 : (Lit.int .i32 a0).wf = true) (a1 : Int) (w1 : (Lit.int .i32 a1).wf = true) (a2 : Int) (w2 : (Lit.int .u16 a2).wf = true) :
    Calls Try.prog 8 #[.int .i32 a0, .int .i32 a1, .int .u16 a2] w fun e w' => e = .returned (.bool true) ∧ Chg (fun _ => False) w w' :=
  (t_BiosStill (BiosStill_eq a0 a1 a2 (wf_u16 w2)) trivial).mono fun e w' h => ⟨h.1, h.2.quiet⟩
end Go.Proofs.Ytnobglfjinehfaa
