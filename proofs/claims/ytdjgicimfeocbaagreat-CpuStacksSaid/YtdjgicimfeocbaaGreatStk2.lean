/-
  CpuStacks: the steps.
-/
import Derived.Test.YtdjgicimfeocbaaGreatBlk
namespace Go.Proofs.YtdjgicimfeocbaaGreat
open Go.Vc
set_option linter.unusedVariables false
set_option linter.unusedSimpArgs false

theorem or_hi {B x : Int} (hB : 0 ≤ B) (hB1 : B < 4294967296) (hB2 : B % 65536 = 0) (x0 : 0 ≤ x) (x1 : x < 8192) : bits .or .u32 B x = B + x := by
  have key := or32 (a := x) (b := B) 16 (by decide) x0 (by show x < 65536; omega) hB hB1 (by show B % 65536 = 0; exact hB2)
  obtain ⟨E, rfl⟩ := Int.eq_ofNat_of_zero_le hB
  obtain ⟨F, rfl⟩ := Int.eq_ofNat_of_zero_le x0
  have c1 := u32_or_nat E F (by omega) (by omega)
  have c2 := u32_or_nat F E (by omega) (by omega)
  rw [c1, Nat.or_comm, ← c2, key]; omega
section
variable {w : Int} (w0 : 0 ≤ w) (w1 : w < 4294967296)
include w0 w1
theorem af28 : f_afield w 28 4 = some (w / 268435456 % 16) := by
  unfold f_afield
  rw [ctrue (by decide), ctrue (by decide), Let_eq, show (2 : Int) ^ (min (28 : Int).toNat 32) = 268435456 by decide, fdiv_pos (by decide), show IntKind.wrap .u32 (IntKind.wrap .u32 ((1 : Int) * 2 ^ (min (4 : Int).toNat 32)) - 1) = 15 by decide, and32 4 (by decide) (by decide) (by omega) (by omega), wrap_i64 (by omega) (by omega)]
  rfl
theorem af16 : f_afield w 16 4 = some (w / 65536 % 16) := by
  unfold f_afield
  rw [ctrue (by decide), ctrue (by decide), Let_eq, show (2 : Int) ^ (min (16 : Int).toNat 32) = 65536 by decide, fdiv_pos (by decide), show IntKind.wrap .u32 (IntKind.wrap .u32 ((1 : Int) * 2 ^ (min (4 : Int).toNat 32)) - 1) = 15 by decide, and32 4 (by decide) (by decide) (by omega) (by omega), wrap_i64 (by omega) (by omega)]
  rfl
theorem af12 : f_afield w 12 4 = some (w / 4096 % 16) := by
  unfold f_afield
  rw [ctrue (by decide), ctrue (by decide), Let_eq, show (2 : Int) ^ (min (12 : Int).toNat 32) = 4096 by decide, fdiv_pos (by decide), show IntKind.wrap .u32 (IntKind.wrap .u32 ((1 : Int) * 2 ^ (min (4 : Int).toNat 32)) - 1) = 15 by decide, and32 4 (by decide) (by decide) (by omega) (by omega), wrap_i64 (by omega) (by omega)]
  rfl
theorem af8 : f_afield w 8 4 = some (w / 256 % 16) := by
  unfold f_afield
  rw [ctrue (by decide), ctrue (by decide), Let_eq, show (2 : Int) ^ (min (8 : Int).toNat 32) = 256 by decide, fdiv_pos (by decide), show IntKind.wrap .u32 (IntKind.wrap .u32 ((1 : Int) * 2 ^ (min (4 : Int).toNat 32)) - 1) = 15 by decide, and32 4 (by decide) (by decide) (by omega) (by omega), wrap_i64 (by omega) (by omega)]
  rfl
theorem af0 : f_afield w 0 4 = some (w % 16) := by
  unfold f_afield
  rw [ctrue (by decide), ctrue (by decide), Let_eq, show (2 : Int) ^ (min (0 : Int).toNat 32) = 1 by decide, fdiv_pos (by decide), Int.ediv_one, show IntKind.wrap .u32 (IntKind.wrap .u32 ((1 : Int) * 2 ^ (min (4 : Int).toNat 32)) - 1) = 15 by decide, and32 4 (by decide) (by decide) (by omega) (by omega), wrap_i64 (by omega) (by omega)]
  rfl
theorem af25 : f_afield w 25 3 = some (w / 33554432 % 8) := by
  unfold f_afield
  rw [ctrue (by decide), ctrue (by decide), Let_eq, show (2 : Int) ^ (min (25 : Int).toNat 32) = 33554432 by decide, fdiv_pos (by decide), show IntKind.wrap .u32 (IntKind.wrap .u32 ((1 : Int) * 2 ^ (min (3 : Int).toNat 32)) - 1) = 7 by decide, and32 3 (by decide) (by decide) (by omega) (by omega), wrap_i64 (by omega) (by omega)]
  rfl
theorem ab {i : Int} {p : Int} (hi : decide (0 ≤ i) = true) (hp : (2 : Int) ^ (min i.toNat 32) = p) (p0 : 0 < p) : f_abit w i = some (w / p % 2 == 1) := by
  unfold f_abit
  have q0 : 0 ≤ w / p := Int.ediv_nonneg w0 (by omega)
  have q1 : w / p ≤ w := Int.ediv_le_self _ w0
  rw [ctrue hi, Let_eq, hp, fdiv_pos p0, and32 1 (by decide) (by decide) q0 (by omega)]
  rfl
end
theorem dec_block {w B l : Int} (hw : w = B + l) (hB0 : 3892314112 ≤ B) (hB1 : B < 3925868544) (hB2 : B % 65536 = 0) (hB3 : B / 65536 % 16 = 13) (x0 : 0 ≤ l) (x1 : l < 8192) :
    f_aDecode w = some (8, 14, 0, false, 0, 13, 0, 0, 0, false, 0, 0, false, (B / 1048576 % 2 == 1), (B / 16777216 % 2 == 1), (B / 8388608 % 2 == 1), (B / 2097152 % 2 == 1), (B / 4194304 % 2 == 1), l, false) := by
  have w0 : 0 ≤ w := by omega
  have w1 : w < 4294967296 := by omega
  unfold f_aDecode
  rw [af28 w0 w1, bind_some', af16 w0 w1, bind_some', af12 w0 w1, bind_some', af8 w0 w1, bind_some', af0 w0 w1, bind_some', af25 w0 w1, bind_some', show w / 33554432 % 8 = 4 by omega, show w / 268435456 % 16 = 14 by omega, show w / 65536 % 16 = 13 by omega]
  rw [cne (by decide), cne (by decide), cne (by decide), bind_some', show ((4 : Int) == 3) = false by decide, cfalse rfl, ceq rfl]
  unfold f_ablock
  rw [ab w0 w1 (p := 1048576) (by decide) (by decide) (by decide), bind_some', ab w0 w1 (p := 16777216) (by decide) (by decide) (by decide), bind_some', ab w0 w1 (p := 8388608) (by decide) (by decide) (by decide), bind_some', ab w0 w1 (p := 4194304) (by decide) (by decide) (by decide), bind_some', ab w0 w1 (p := 2097152) (by decide) (by decide) (by decide), bind_some', bind_some']
  dsimp only
  rw [and32 16 (by decide) (by decide) w0 w1, show w % ((2 ^ 16 : Nat) : Int) = l by show w % 65536 = l; omega, wrap_i64 (by omega) (by omega), show w / 1048576 = B / 1048576 by omega, show w / 16777216 = B / 16777216 by omega, show w / 8388608 = B / 8388608 by omega, show w / 4194304 = B / 4194304 by omega, show w / 2097152 = B / 2097152 by omega]
theorem dec_push {l : Int} (x0 : 0 ≤ l) (x1 : l < 8192) : f_aDecode (3912040448 + l) = some (8, 14, 0, false, 0, 13, 0, 0, 0, false, 0, 0, false, false, true, false, true, false, l, false) := dec_block rfl (by decide) (by decide) (by decide) (by decide) x0 x1
theorem dec_pop {l : Int} (x0 : 0 ≤ l) (x1 : l < 8192) : f_aDecode (3904700416 + l) = some (8, 14, 0, false, 0, 13, 0, 0, 0, false, 0, 0, false, true, false, true, true, false, l, false) := dec_block rfl (by decide) (by decide) (by decide) (by decide) x0 x1
theorem dec_m0 : f_aDecode 3818913792 = some (1, 14, 13, false, 0, 0, 0, 0, 0, true, 0, 0, false, false, false, false, false, false, 0, false) := by kernel_rfl
theorem dec_m1 : f_aDecode 3785363456 = some (1, 14, 13, false, 1, 0, 0, 0, 0, false, 0, 0, false, false, false, false, false, false, 0, false) := by kernel_rfl
theorem dec_m12 : f_aDecode 3785408512 = some (1, 14, 13, false, 12, 0, 0, 0, 0, false, 0, 0, false, false, false, false, false, false, 0, false) := by kernel_rfl
section
variable {p0 p1 : Int} {r o h s : Nat → Int} {c : Int} {m : Nat → Int} {log : List E51}
theorem data_move {rd : Nat} {cd : Int} (hrd : rd < 15) (c0 : 0 ≤ c) (c1 : c < 4294967296) :
    f_data p0 p1 false false r o h s c m log 1 cd 13 false (rd : Int) 0 0 0 0 false 0 0 false false false false false false false false 0 false false false = some (false, rup r rd (r 0), o, h, c, log) := by
  unfold f_data f_Status
  rw [bind_some', BFlags_eq c0 c1, bind_some']
  dsimp only
  rw [cfalse rfl, bind_some']
  have G0 : f_Get r o h s c 0 = some (r 0) := Get_eq 0 (by decide)
  have ho : ∀ fl, f_operand p0 p1 false false r o h s c m log 1 cd 13 false (rd : Int) 0 0 0 0 false 0 0 false false false false false false false false 0 false false false fl = some (r 0, fl) := by
    intro fl
    unfold f_operand
    rw [cfalse rfl, G0, bind_some', cfalse rfl]
    unfold f_sImm
    rw [ceq (by decide), ceq (by decide), bind_some']
  obtain ⟨f1, f2, f3, f4, e⟩ := Do_mov (a := r 0) (b := r 0) (n := flN c) (z := flZ c) (c := flC c) (v := flV c) (sh := flC c)
  rw [ho, bind_some']
  dsimp only
  rw [G0, bind_some', cfalse rfl, bind_some', cfalse rfl, bind_some', e, bind_some']
  dsimp only
  rw [show f_Keeps 13 = some false from keeps13, bind_some', cnot, cfalse rfl, cnot, cfalse rfl]
  unfold f_put
  rw [Set_eq rd (by omega), bind_some', cne (by omega), bind_some']
end
end Go.Proofs.YtdjgicimfeocbaaGreat
