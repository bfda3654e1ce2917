/-
  Both decodings of a halfword side by side.
-/
import Derived.Test.YtigpcfocaipicaaDec
namespace Go.Proofs.Ytigpcfocaipicaa
open Go.Vc
set_option linter.unusedVariables false

def eqI : Int → Int → Bool
  | .ofNat a, .ofNat b => Nat.beq a b
  | _, _ => false
theorem eqI_eq {x y : Int} (h : eqI x y = true) : x = y := by
  cases x <;> cases y <;> first | cases h | exact congrArg Int.ofNat (Nat.eq_of_beq_eq_true h)
def eqB : Bool → Bool → Bool
  | true, true => true
  | false, false => true
  | _, _ => false
theorem eqB_eq {x y : Bool} (h : eqB x y = true) : x = y := by cases x <;> cases y <;> first | rfl | cases h
/-- Do both say the same? -/
def eqv : Option O_Decode → O_rDecode → Bool
  | some (x0, x1, x2, x3, x4, x5, x6, x7, x8, x9, x10, x11, x12, x13, x14, x16, x17, x18, x20, x23), (y0, y1, y2, y3, y4, y5, y6, y7, y8, y9, y10, y11, y12, y13, y14, y15, y16, y17, y18, y19, y20, y21, y22, y23) =>
    eqI x0 y0 && (eqI x1 y1 && (eqI x2 y2 && (eqB x3 y3 && (eqI x4 y4 && (eqI x5 y5 && (eqI x6 y6 && (eqI x7 y7 && (eqI x8 y8 && (eqB x9 y9 && (eqI x10 y10 && (eqI x11 y11 && (eqB x12 y12 && (eqB x13 y13 && (eqB x14 y14 && (eqB false y15 && (eqB x16 y16 && (eqB x17 y17 && (eqB x18 y18 && (eqB false y19 && (eqI x20 y20 && (eqB false y21 && (eqB false y22 && (eqB x23 y23)))))))))))))))))))))))
  | none, _ => false
/-- The same, with each part by itself. -/
def cmpK (r : E41) (q : Nat) (x0 x1 x2 : Int) (x3 : Bool) (x4 x5 x6 x7 x8 : Int) (x9 : Bool) (x10 x11 : Int) (x12 x13 x14 x16 x17 x18 : Bool) (x20 : Int) (x23 : Bool) : Bool :=
  eqI x0 r.X_Kind && (eqI x1 (cond (hasN (chars r.Pattern) 99) (fI (chars r.Pattern) q 99) 14) && (eqI x2 (cond (decide ((cond ((fI (chars r.Pattern) q 79) == 1) 2 r.X_Code) < 0)) (fI (chars r.Pattern) q 111) (cond ((fI (chars r.Pattern) q 79) == 1) 2 r.X_Code)) && (eqB x3 r.X_Flags && (eqI x4 (cond (hasN (chars r.Pattern) 100) (fI (chars r.Pattern) q 100) r.X_Rd) && (eqI x5 (cond (hasN (chars r.Pattern) 110) (fI (chars r.Pattern) q 110) (cond (decide (r.X_Rn < 0)) (fI (chars r.Pattern) q 100) r.X_Rn)) && (eqI x6 (cond (hasN (chars r.Pattern) 115) (fI (chars r.Pattern) q 115) (cond (decide (r.X_Rs < 0)) (fI (chars r.Pattern) q 100) r.X_Rs)) && (eqI x7 (cond (hasN (chars r.Pattern) 109) (fI (chars r.Pattern) q 109) (cond (decide (r.X_Rm < 0)) (fI (chars r.Pattern) q 100) r.X_Rm)) && (eqI x8 (cond (r.X_Kind == 9) (cond ((cond (hasN (chars r.Pattern) 99) (fI (chars r.Pattern) q 99) 14) != 14) (IntKind.wrap .u32 (signI (IntKind.wrap .u32 ((IntKind.wrap .u32 (fI (chars r.Pattern) q 105)) * (if (1 : Int) > r.X_Imm then 1 else r.X_Imm))) 128 256 * 2)) (IntKind.wrap .u32 (signI (IntKind.wrap .u32 ((IntKind.wrap .u32 (fI (chars r.Pattern) q 105)) * (if (1 : Int) > r.X_Imm then 1 else r.X_Imm))) 1024 2048 * 2))) (cond (r.X_Kind == 13) (cond ((cond (decide ((cond ((fI (chars r.Pattern) q 79) == 1) 2 r.X_Code) < 0)) (fI (chars r.Pattern) q 111) (cond ((fI (chars r.Pattern) q 79) == 1) 2 r.X_Code)) == 0) (IntKind.wrap .u32 (signI (IntKind.wrap .u32 ((IntKind.wrap .u32 (fI (chars r.Pattern) q 105)) * (if (1 : Int) > r.X_Imm then 1 else r.X_Imm))) 1024 2048 * 4096)) (IntKind.wrap .u32 ((IntKind.wrap .u32 (fI (chars r.Pattern) q 105)) * (if (1 : Int) > r.X_Imm then 1 else r.X_Imm)))) (IntKind.wrap .u32 ((IntKind.wrap .u32 (fI (chars r.Pattern) q 105)) * (if (1 : Int) > r.X_Imm then 1 else r.X_Imm))))) && (eqB x9 r.X_HasImm && (eqI x10 (cond r.X_ByReg (cond ((fI (chars r.Pattern) q 111) == 7) 3 (IntKind.wrap .i64 ((fI (chars r.Pattern) q 111) - 2))) (fI (chars r.Pattern) q 116)) && (eqI x11 (cond (hasN (chars r.Pattern) 97) (fI (chars r.Pattern) q 97) r.X_Amount) && (eqB x12 r.X_ByReg && (eqB x13 (cond (hasN (chars r.Pattern) 76) ((fI (chars r.Pattern) q 76) == 1) r.X_Load) && (eqB x14 (cond (hasN (chars r.Pattern) 66) ((fI (chars r.Pattern) q 66) == 1) r.X_Byte) && (eqB false r.X_Signed && (eqB x16 r.X_Pre && (eqB x17 r.X_Up && (eqB x18 r.X_Back && (eqB false r.X_User && (eqI x20 (IntKind.wrap .i64 (r.X_List + (fI (chars r.Pattern) q 108))) && (eqB false r.X_Link && (eqB false r.X_Long && (eqB x23 r.X_Align)))))))))))))))))))))))
noncomputable def cmpT (r : E41) (q : Nat) : Bool := match d_Decode q with
  | some (x0, x1, x2, x3, x4, x5, x6, x7, x8, x9, x10, x11, x12, x13, x14, x16, x17, x18, x20, x23) => cmpK r q x0 x1 x2 x3 x4 x5 x6 x7 x8 x9 x10 x11 x12 x13 x14 x16 x17 x18 x20 x23
  | none => false
theorem cmpT_eq (r : E41) (q : Nat) : cmpT r q = eqv (d_Decode q) (refT r q) := by
  unfold cmpT
  cases d_Decode q with
  | none => rfl
  | some x => rfl
noncomputable def chkR (r : Option E41) (t : Nat) : Bool := match r with
  | some r => (List.range 64).all fun u => cmpT r (64 * t + u)
  | none => (List.range 64).all fun u => eqv (d_Decode (64 * t + u)) none_
noncomputable def chkT (t : Nat) : Bool := chkR (pick tbl t) t
theorem eqv_some {o : Option O_Decode} {y : O_rDecode} (h : eqv o y = true) : ∃ x, o = some x := by
  cases o with
  | none => cases h
  | some x => exact ⟨x, rfl⟩
theorem chkT_eq {q : Nat} (h : chkT (q / 64) = true) : eqv (d_Decode q) (refD tbl q) = true := by
  have e : 64 * (q / 64) + q % 64 = q := Nat.div_add_mod q 64
  have hm : q % 64 ∈ List.range 64 := List.mem_range.2 (Nat.mod_lt _ (by decide))
  unfold chkT at h
  unfold refD
  cases hp : pick tbl (q / 64) with
  | some r =>
    rw [hp] at h
    have := List.all_eq_true.1 h _ hm
    rw [e, cmpT_eq] at this
    exact this
  | none =>
    rw [hp] at h
    have := List.all_eq_true.1 h _ hm
    rw [e] at this
    exact this
theorem chk_part {a : Nat} (h : ((List.range 16).all fun t => chkT (a + t)) = true) (t : Nat) (h0 : a ≤ t) (h1 : t < a + 16) : chkT t = true := by
  have := List.all_eq_true.1 h (t - a) (List.mem_range.2 (by omega))
  rwa [show a + (t - a) = t by omega] at this
end Go.Proofs.Ytigpcfocaipicaa
