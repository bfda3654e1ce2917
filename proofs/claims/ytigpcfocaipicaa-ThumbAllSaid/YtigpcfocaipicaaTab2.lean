/-
  The document's decoding as a function of numbers: the first row that fits, filled.
-/
import Derived.Test.YtigpcfocaipicaaTab
namespace Go.Proofs.Ytigpcfocaipicaa
open Go.Vc
set_option linter.unusedVariables false
set_option linter.unusedSimpArgs false

def fI (p : List Nat) (q c : Nat) : Int := Int.ofNat (fldS p q c)
def filledN (p : List Nat) (k co : Int) (fl : Bool) (rd rn rs rm im : Int) (hi : Bool) (am : Int) (br lo by_ sg pr up bk us : Bool) (li : Int) (ln lg al : Bool) (q : Nat) : O_filled :=
  (k, cond (hasN p 99) (fI p q 99) 14, cond (fI p q 79 == 1) 2 co, fl, cond (hasN p 100) (fI p q 100) rd,
   cond (hasN p 110) (fI p q 110) (cond (decide (rn < 0)) (fI p q 100) rn), cond (hasN p 115) (fI p q 115) (cond (decide (rs < 0)) (fI p q 100) rs), cond (hasN p 109) (fI p q 109) (cond (decide (rm < 0)) (fI p q 100) rm),
   IntKind.wrap .u32 ((IntKind.wrap .u32 (fI p q 105)) * (if (1 : Int) > im then 1 else im)), hi, fI p q 116, cond (hasN p 97) (fI p q 97) am, br, cond (hasN p 76) (fI p q 76 == 1) lo, cond (hasN p 66) (fI p q 66 == 1) by_, sg, pr, up, bk, us,
   IntKind.wrap .i64 (li + fI p q 108), ln, lg, al)
theorem cond_some {α : Type} {b : Bool} {x y : α} : cond b (some x) (some y) = some (cond b x y) := by cases b <;> rfl
theorem filled_eq (P : ByteArray) (a1 a2 a3 : Int) (k c0 co : Int) (fl : Bool) (rd rn rs rm im : Int) (hi : Bool) (sh am : Int) (br lo by_ sg pr up bk us : Bool) (li : Int) (ln lg al : Bool) (q : Nat) (hp : P.size ≤ 16) :
    f_filled P a1 a2 a3 k c0 co fl rd rn rs rm im hi sh am br lo by_ sg pr up bk us li ln lg al (q : Int) = some (filledN (chars P) k co fl rd rn rs rm im hi am br lo by_ sg pr up bk us li ln lg al q) := by
  have h : ∀ c : Nat, f_has P (c : Int) = some (hasN (chars P) c) := fun c => has_eq P c hp
  have g : ∀ c : Nat, f_Field P (q : Int) (c : Int) = some (fI (chars P) q c) := fun c => Field_eq P q c hp
  unfold f_filled filledN
  simp only [show f_has P 99 = _ from h 99, show f_has P 100 = _ from h 100, show f_has P 110 = _ from h 110, show f_has P 109 = _ from h 109, show f_has P 115 = _ from h 115, show f_has P 97 = _ from h 97, show f_has P 76 = _ from h 76, show f_has P 66 = _ from h 66,
    show f_Field P q 99 = _ from g 99, show f_Field P q 100 = _ from g 100, show f_Field P q 110 = _ from g 110, show f_Field P q 109 = _ from g 109, show f_Field P q 115 = _ from g 115, show f_Field P q 97 = _ from g 97, show f_Field P q 76 = _ from g 76, show f_Field P q 66 = _ from g 66,
    show f_Field P q 116 = _ from g 116, show f_Field P q 108 = _ from g 108, show f_Field P q 79 = _ from g 79, show f_Field P q 105 = _ from g 105, bind_some', cond_some]
  cases hasN (chars P) 76 <;> cases hasN (chars P) 66 <;> cases (fI (chars P) q 79 == 1) <;> rfl
def signI (x a b : Int) : Int := cond (decide (x ≥ a)) (IntKind.wrap .u32 (x - b)) x
theorem sign8 (x : Int) : f_sign x 8 = some (signI x 128 256) := by
  unfold f_sign signI
  rw [cpos (by decide), cpos (p := (0 : Int) ≤ 8) (by decide), show (IntKind.wrap .u32 ((1 : Int) * 2 ^ (min (IntKind.wrap .i64 (8 - 1)).toNat 32))) = 128 by decide, show (IntKind.wrap .u32 ((1 : Int) * 2 ^ (min (8 : Int).toNat 32))) = 256 by decide]
  exact cond_some
theorem sign11 (x : Int) : f_sign x 11 = some (signI x 1024 2048) := by
  unfold f_sign signI
  rw [cpos (by decide), cpos (p := (0 : Int) ≤ 11) (by decide), show (IntKind.wrap .u32 ((1 : Int) * 2 ^ (min (IntKind.wrap .i64 (11 - 1)).toNat 32))) = 1024 by decide, show (IntKind.wrap .u32 ((1 : Int) * 2 ^ (min (11 : Int).toNat 32))) = 2048 by decide]
  exact cond_some
/-- What a row says of a halfword that fits it. -/
def refT (r : E41) (q : Nat) : O_rDecode :=
  match filledN (chars r.Pattern) r.X_Kind r.X_Code r.X_Flags r.X_Rd r.X_Rn r.X_Rs r.X_Rm r.X_Imm r.X_HasImm r.X_Amount r.X_ByReg r.X_Load r.X_Byte r.X_Signed r.X_Pre r.X_Up r.X_Back r.X_User r.X_List r.X_Link r.X_Long r.X_Align q with
  | (x0, x1, x2, x3, x4, x5, x6, x7, x8, x9, x10, x11, x12, x13, x14, x15, x16, x17, x18, x19, x20, x21, x22, x23) =>
    let o := fI (chars r.Pattern) q 111
    let code := cond (decide (x2 < 0)) o x2
    let imm := cond (x0 == 9) (cond (x1 != 14) (IntKind.wrap .u32 (signI x8 128 256 * 2)) (IntKind.wrap .u32 (signI x8 1024 2048 * 2))) (cond (x0 == 13) (cond (code == 0) (IntKind.wrap .u32 (signI x8 1024 2048 * 4096)) x8) x8)
    (x0, x1, code, x3, x4, x5, x6, x7, imm, x9, cond x12 (cond (o == 7) 3 (IntKind.wrap .i64 (o - 2))) x10, x11, x12, x13, x14, x15, x16, x17, x18, x19, x20, x21, x22, x23)
noncomputable def tbl : List E41 := f_table.getD []
theorem table_eq : f_table = some tbl := rfl
/-- Which row fits, by the upper ten bits. -/
def mT (r : E41) (t : Nat) : Bool :=
  fitsN ((chars r.Pattern).take 10) t && cond (r.Letter != 0) (decide (r.Low ≤ ((fldN ((chars r.Pattern).take 10) t r.Letter.toNat 0 : Nat) : Int)) && decide (((fldN ((chars r.Pattern).take 10) t r.Letter.toNat 0 : Nat) : Int) ≤ r.High)) true
def pick : List E41 → Nat → Option E41
  | [], _ => none
  | r :: s, t => cond (mT r t) (some r) (pick s t)
def none_ : O_rDecode := ((0 : Int), (14 : Int), (0 : Int), false, (0 : Int), (0 : Int), (0 : Int), (0 : Int), (0 : Int), false, (0 : Int), (0 : Int), false, false, false, false, false, false, false, false, (0 : Int), false, false, false)
def refD (l : List E41) (q : Nat) : O_rDecode := match pick l (q / 64) with | some r => refT r q | none => none_
/-- A row is right: a pattern of sixteen letters whose last six are no digits, and not the letter that is asked. -/
def rowOk (r : E41) : Bool :=
  Nat.beq (chars r.Pattern).length 16 && plain ((chars r.Pattern).drop 10) && !hasN ((chars r.Pattern).drop 10) r.Letter.toNat && decide (0 ≤ r.Letter)
theorem rows_ok : tbl.all rowOk = true := by kernel_rfl
theorem tbl_len : tbl.length = 45 := by kernel_rfl
end Go.Proofs.Ytigpcfocaipicaa
