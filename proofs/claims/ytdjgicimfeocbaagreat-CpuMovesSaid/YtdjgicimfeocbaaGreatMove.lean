/-
  CpuMoves: the handlers of loads and stores.
-/
import Derived.Test.YtdjgicimfeocbaaGreatMemM
namespace Go.Proofs.YtdjgicimfeocbaaGreat
open Go.Vc
set_option linter.unusedVariables false
set_option linter.unusedSimpArgs false

theorem tLd {m : Nat → Int} {log : List E51} (hm : Byt m) (hl : log.length ≤ 1000000) {a : Int} (h0 : 0 ≤ a) (h1 : a < 4294967296) (n : Nat) (hn : n ≤ 4) {c : Int} : f_tLoad m log a (n : Int) c = some (lo m a n, log ++ [⟨0, 0, a, (n : Int), false, lo m a n, c⟩]) := by
  unfold f_tLoad
  rw [tread_eq _ hm h0 h1 n hn, bind_some', cpos (by rw [List.length_append]; simp; omega)]
section
variable {m : Nat → Int} {a y : Int}
theorem st4_0 (a0 : 0 ≤ a) (a1 : a < 4090) : mb (st4 m a y) a = y % 256 := by
  unfold mb st4
  rw [show (a % 4096).toNat = a.toNat by omega, rup_ne _ _ (by omega), rup_ne _ _ (by omega), rup_ne _ _ (by omega), rup_at]
theorem st4_1 (a0 : 0 ≤ a) (a1 : a < 4090) : mb (st4 m a y) (a + 1) = y / 256 % 256 := by
  unfold mb st4
  rw [show ((a + 1) % 4096).toNat = a.toNat + 1 by omega, rup_ne _ _ (by omega), rup_ne _ _ (by omega), rup_at]
theorem st4_3 (a0 : 0 ≤ a) (a1 : a < 4090) : mb (st4 m a y) (a + 3) = y / 16777216 % 256 := by
  unfold mb st4
  rw [show ((a + 3) % 4096).toNat = a.toNat + 3 by omega, rup_at]
theorem hw_st4 (a0 : 0 ≤ a) (a1 : a < 4090) : hw (st4 m a y) a = y % 65536 := by
  unfold hw
  rw [st4_0 a0 a1, st4_1 a0 a1]; omega
end
section
variable {p0 p1 : Int} {af mv : Bool} {r o h s : Nat → Int} {c : Int} {m : Nat → Int} {log : List E51} {A : Int}
theorem place_imm {k cd co rd rm im : Int} {hi ld by_ sg : Bool} (r0 : r 0 = A) : f_place p0 p1 af mv r o h s c m log k cd co false rd 0 0 rm im hi 0 0 false ld by_ sg true true false false 0 false false false im = some ((A + im) % 4294967296, (A + im) % 4294967296) := by
  unfold f_place
  rw [show f_Get r o h s c 0 = some (r 0) from Get_eq 0 (by decide), bind_some', cfalse rfl, ctrue rfl, ctrue rfl, r0, wr_u32]
theorem put_rd {rd : Nat} (hrd : rd < 15) {y : Int} : f_put p0 p1 af mv r o h s c m log (rd : Int) y = some (mv, rup r rd y) := by
  unfold f_put
  rw [Set_eq rd (by omega), bind_some', cne (by omega)]
theorem idle_eq (hl : log.length ≤ 1000000) : f_tIdle m log 1 = some (log ++ [⟨0, 0, 0, 1, false, 0, 2⟩]) := by
  unfold f_tIdle
  rw [cpos (by rw [List.length_append]; simp; omega)]
theorem given_rd {rd : Nat} (hrd : rd < 15) : f_given p0 p1 af mv r o h s c m log (rd : Int) = some (r rd) := by
  unfold f_given
  rw [cne (by omega), Get_eq rd (by omega), bind_some']
theorem store_w (hl : log.length ≤ 900000) (A0 : 0 ≤ A) (A1 : A < 4090) (A4 : A % 4 = 0) {x : Int} (x0 : 0 ≤ x) (x1 : x < 4294967296) : f_store p0 p1 af mv r o h s c m log A false x = some (st4 m A x, log ++ [⟨0, 0, A, 4, true, x, 0⟩]) := by
  unfold f_store
  rw [cfalse rfl, andNot3 A0 (by omega), show A - A % 4 = A by omega, tStore_eq (by omega) A0 A1 x0 x1, bind_some']
theorem word_st {x : Int} (r0 : r 0 = A) (r1 : r 1 = x) (A0 : 0 ≤ A) (A1 : A < 4090) (A4 : A % 4 = 0) (x0 : 0 ≤ x) (x1 : x < 4294967296) (hl : log.length ≤ 900000) :
    f_word p0 p1 false false r o h s c m log 7 14 0 false 1 0 0 0 0 true 0 0 false false false false true true false false 0 false false false = some (false, r, st4 m A x, log ++ [⟨0, 0, A, 4, true, x, 0⟩]) := by
  unfold f_word
  rw [cnot, ctrue rfl]
  unfold f_accW
  rw [place_imm r0, bind_some']
  dsimp only
  rw [cnot, cfalse rfl, show f_given p0 p1 false false r o h s c m log 1 = some (r 1) from given_rd (rd := 1) (by decide), bind_some', r1, show (A + 0) % 4294967296 = A by omega]
  unfold f_w2
  rw [store_w hl A0 A1 A4 x0 x1, bind_some', bind_some']
  dsimp only
  rw [cfalse rfl, bind_some']
theorem word_ld {rd : Nat} {im y : Int} {by_ : Bool} {e : E51} (hrd : rd < 15) (r0 : r 0 = A) (A0 : 0 ≤ A) (A1 : A < 4090) (i0 : 0 ≤ im) (i1 : im < 4) (hl : log.length ≤ 900000) (hld : f_load p0 p1 false false r o h s c m log (A + im) by_ = some (y, log ++ [e])) :
    f_word p0 p1 false false r o h s c m log 7 14 0 false (rd : Int) 0 0 0 im true 0 0 false true by_ false true true false false 0 false false false = some (false, rup r rd y, m, log ++ [e] ++ [⟨0, 0, 0, 1, false, 0, 2⟩]) := by
  unfold f_word
  rw [cnot, ctrue rfl]
  unfold f_accW
  rw [place_imm r0, bind_some']
  dsimp only
  rw [cnot, ctrue rfl, show (A + im) % 4294967296 = A + im by omega]
  unfold f_w1
  rw [hld, bind_some', bind_some']
  dsimp only
  rw [idle_eq (by rw [List.length_append]; show _ + 1 ≤ _; omega), bind_some', cfalse rfl, cne (by omega), put_rd hrd, bind_some', bind_some']
theorem half_ld {rd : Nat} {co im y : Int} {sg : Bool} {e : E51} (hrd : rd < 15) (r0 : r 0 = A) (A0 : 0 ≤ A) (A1 : A < 4090) (i0 : 0 ≤ im) (i1 : im < 4) (hl : log.length ≤ 900000) (hld : f_small p0 p1 false false r o h s c m log co (A + im) = some (y, log ++ [e])) :
    f_half p0 p1 false false r o h s c m log 6 14 co false (rd : Int) 0 0 0 im true 0 0 false true false sg true true false false 0 false false false = some (false, rup r rd y, m, log ++ [e] ++ [⟨0, 0, 0, 1, false, 0, 2⟩]) := by
  unfold f_half
  rw [cnot, ctrue rfl]
  unfold f_accH
  rw [place_imm r0, bind_some']
  dsimp only
  rw [cnot, ctrue rfl, show (A + im) % 4294967296 = A + im by omega]
  unfold f_h1
  rw [hld, bind_some', bind_some']
  dsimp only
  rw [idle_eq (by rw [List.length_append]; show _ + 1 ≤ _; omega), bind_some', cfalse rfl, cne (by omega), put_rd hrd, bind_some', bind_some']
theorem or0 {y : Int} (y0 : 0 ≤ y) (y1 : y < 4294967296) : bits .or .u32 y 0 = y := by
  rw [or32 32 (by decide) y0 y1 (by decide) (by decide) (by decide)]; omega
theorem load_w {y : Int} (hm : Byt m) (hl : log.length ≤ 900000) (A0 : 0 ≤ A) (A1 : A < 4090) (A4 : A % 4 = 0) (hy : wd m A = y) (y0 : 0 ≤ y) (y1 : y < 4294967296) : f_load p0 p1 af mv r o h s c m log A false = some (y, log ++ [⟨0, 0, A, 4, false, y, 0⟩]) := by
  unfold f_load
  rw [cfalse rfl, andNot3 A0 (by omega), show A - A % 4 = A by omega, show (4 : Int) = ((4 : Nat) : Int) from rfl, tLd hm (by omega) A0 (by omega) 4 (by decide), bind_some', lo4, hy]
  dsimp only
  rw [Let_eq, and32 2 (by decide) (by decide) A0 (by omega), show A % ((2 ^ 2 : Nat) : Int) = 0 from A4, show IntKind.wrap .u32 ((0 : Int) * 8) = 0 by decide, cpos (by decide), show IntKind.wrap .u32 (32 - (0 : Int)) = 32 by decide, cpos (by decide), Let_eq, show (2 : Int) ^ (min (0 : Int).toNat 32) = 1 by decide, fdiv_pos (by decide), Int.ediv_one, show (2 : Int) ^ (min (32 : Int).toNat 32) = 4294967296 by decide, wr_u32, show y * 4294967296 % 4294967296 = 0 by omega, or0 y0 y1]
theorem load_2 {y : Int} (hm : Byt m) (hl : log.length ≤ 900000) (A0 : 0 ≤ A) (A1 : A < 4090) (A4 : A % 4 = 0) (hy : wd m A = y) (y0 : 0 ≤ y) (y1 : y < 4294967296) : f_load p0 p1 af mv r o h s c m log (A + 2) false = some (bits .or .u32 (Int.fdiv y 65536) (IntKind.wrap .u32 (y * 65536)), log ++ [⟨0, 0, A, 4, false, y, 0⟩]) := by
  unfold f_load
  rw [cfalse rfl, andNot3 (by omega) (by omega), show A + 2 - (A + 2) % 4 = A by omega, show (4 : Int) = ((4 : Nat) : Int) from rfl, tLd hm (by omega) A0 (by omega) 4 (by decide), bind_some', lo4, hy]
  dsimp only
  rw [Let_eq, and32 2 (by decide) (by decide) (by omega) (by omega), show (A + 2) % ((2 ^ 2 : Nat) : Int) = 2 by show (A + 2) % 4 = 2; omega, show IntKind.wrap .u32 ((2 : Int) * 8) = 16 by decide, cpos (by decide), show IntKind.wrap .u32 (32 - (16 : Int)) = 16 by decide, cpos (by decide), Let_eq, show (2 : Int) ^ (min (16 : Int).toNat 32) = 65536 by decide]
theorem load_b {y : Int} (hm : Byt m) (hl : log.length ≤ 900000) (A0 : 0 ≤ A) (A1 : A < 4090) (hy : mb m A = y) (y0 : 0 ≤ y) (y1 : y < 256) : f_load p0 p1 af mv r o h s c m log A true = some (y, log ++ [⟨0, 0, A, 1, false, y, 0⟩]) := by
  unfold f_load
  rw [ctrue rfl, show (1 : Int) = ((1 : Nat) : Int) from rfl, tLd hm (by omega) A0 (by omega) 1 (by decide), bind_some', lo1, hy]
  dsimp only
  rw [and32 8 (by decide) (by decide) y0 (by omega), show y % ((2 ^ 8 : Nat) : Int) = y by show y % 256 = y; omega]
theorem small_1 {y : Int} (hm : Byt m) (hl : log.length ≤ 900000) (A0 : 0 ≤ A) (A1 : A < 4090) (A4 : A % 2 = 0) (hy : hw m A = y) (y0 : 0 ≤ y) (y1 : y < 65536) : f_small p0 p1 af mv r o h s c m log 1 A = some (y, log ++ [⟨0, 0, A, 2, false, y, 0⟩]) := by
  unfold f_small
  rw [cne (by decide), cne (by decide), andNot1 A0 (by omega), show A - A % 2 = A by omega, show (2 : Int) = ((2 : Nat) : Int) from rfl, tLd hm (by omega) A0 (by omega) 2 (by decide), bind_some', lo2, hy]
  dsimp only
  rw [and32 16 (by decide) (by decide) y0 (by omega), show y % ((2 ^ 16 : Nat) : Int) = y by show y % 65536 = y; omega, cne (by decide), and32 1 (by decide) (by decide) A0 (by omega), cne (by show A % 2 ≠ 1; omega)]
theorem small_3 {y : Int} (hm : Byt m) (hl : log.length ≤ 900000) (A0 : 0 ≤ A) (A1 : A < 4090) (A4 : A % 2 = 0) (hy : hw m A = y) (y0 : 0 ≤ y) (y1 : y < 65536) : f_small p0 p1 af mv r o h s c m log 3 A = some (IntKind.wrap .u32 (IntKind.wrap .i32 (IntKind.wrap .i16 y)), log ++ [⟨0, 0, A, 2, false, y, 0⟩]) := by
  unfold f_small
  rw [cne (by decide), ceq rfl, and32 1 (by decide) (by decide) A0 (by omega), cne (by show A % 2 ≠ 1; omega), andNot1 A0 (by omega), show A - A % 2 = A by omega, show (2 : Int) = ((2 : Nat) : Int) from rfl, tLd hm (by omega) A0 (by omega) 2 (by decide), bind_some', lo2, hy]
  dsimp only
  rw [and32 16 (by decide) (by decide) y0 (by omega), show y % ((2 ^ 16 : Nat) : Int) = y by show y % 65536 = y; omega, ceq rfl, Let_eq]
theorem small_2 {y : Int} (hm : Byt m) (hl : log.length ≤ 900000) (A0 : 0 ≤ A) (A1 : A < 4090) (hy : mb m A = y) : f_small p0 p1 af mv r o h s c m log 2 A = some (IntKind.wrap .u32 (IntKind.wrap .i32 (IntKind.wrap .i8 y)), log ++ [⟨0, 0, A, 1, false, y, 0⟩]) := by
  unfold f_small
  rw [ceq rfl, show (1 : Int) = ((1 : Nat) : Int) from rfl, tLd hm (by omega) A0 (by omega) 1 (by decide), bind_some', lo1, hy]
  dsimp only
  rw [Let_eq]
theorem swap_eq {rd : Nat} {x : Int} {co im : Int} {hi ld sg pr up bk : Bool} (hrd : rd < 15) (hm : Byt m) (hl : log.length ≤ 900000) (r0 : r 0 = A) (r1 : r 1 = x) (A0 : 0 ≤ A) (A1 : A < 4090) (A4 : A % 4 = 0) (hy : wd m A = x) (x0 : 0 ≤ x) (x1 : x < 4294967296) :
    f_swap p0 p1 false false r o h s c m log 4 14 co false (rd : Int) 0 0 1 im hi 0 0 false ld false sg pr up bk false 0 false false false = some (false, rup r rd x, st4 m A x, log ++ [⟨0, 0, A, 4, false, x, 0⟩] ++ [⟨0, 0, A, 4, true, x, 0⟩] ++ [⟨0, 0, 0, 1, false, 0, 2⟩]) := by
  unfold f_swap
  rw [show f_Get r o h s c 0 = some (r 0) from Get_eq 0 (by decide), bind_some', r0, load_w hm hl A0 A1 A4 hy x0 x1, bind_some']
  dsimp only
  rw [show f_given p0 p1 true false r o h s c m (log ++ [⟨0, 0, A, 4, false, x, 0⟩]) 1 = some (r 1) from given_rd (rd := 1) (by decide), bind_some', r1]
  unfold f_store
  rw [cfalse rfl, andNot3 A0 (by omega), show A - A % 4 = A by omega, tStore_eq (by rw [List.length_append]; show _ + 1 ≤ _; omega) A0 A1 x0 x1, bind_some', bind_some']
  dsimp only
  rw [idle_eq (by rw [List.length_append, List.length_append]; show _ + 1 + 1 ≤ _; omega), bind_some', put_rd hrd, bind_some']
end
theorem dec_str : f_aDecode 3850375168 = some (7, 14, 0, false, 1, 0, 0, 0, 0, true, 0, 0, false, false, false, false, true, true, false, false, false) := by kernel_rfl
theorem dec_ldr : f_aDecode 3851427840 = some (7, 14, 0, false, 2, 0, 0, 0, 0, true, 0, 0, false, true, false, false, true, true, false, false, false) := by kernel_rfl
theorem dec_ldrh : f_aDecode 3788517552 = some (6, 14, 1, false, 3, 0, 0, 0, 0, true, 0, 0, false, true, false, false, true, true, false, false, false) := by kernel_rfl
theorem dec_ldrsh : f_aDecode 3788521712 = some (6, 14, 3, false, 4, 0, 0, 0, 0, true, 0, 0, false, true, false, false, true, true, false, false, false) := by kernel_rfl
theorem dec_ldrsb : f_aDecode 3788525779 = some (6, 14, 2, false, 5, 0, 0, 0, 3, true, 0, 0, false, true, false, false, true, true, false, false, false) := by kernel_rfl
theorem dec_ldrb : f_aDecode 3855638529 = some (7, 14, 0, false, 6, 0, 0, 0, 1, true, 0, 0, false, true, true, false, true, true, false, false, false) := by kernel_rfl
theorem dec_ldr2 : f_aDecode 3851448322 = some (7, 14, 0, false, 7, 0, 0, 0, 2, true, 0, 0, false, true, false, false, true, true, false, false, false) := by kernel_rfl
theorem dec_swp : f_aDecode 3774906513 = some (4, 14, 0, false, 8, 0, 0, 1, 0, false, 0, 0, false, false, false, false, false, false, false, false, false) := by kernel_rfl
end Go.Proofs.YtdjgicimfeocbaaGreat
