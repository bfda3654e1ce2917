/-
  The program writes to a register of the channels.
-/
import Derived.Test.YtccmpceifheejaaWb
namespace Go.Proofs.Ytccmpceifheejaa
open Go.Vc
set_option linter.unusedVariables false
set_option linter.unusedSimpArgs false
set_option maxHeartbeats 4000000
structure TOk (S : PS) : Prop where
  g : GOk S
  n0 : 0 ≤ S.now
  n1 : S.now ≤ 2000000000
theorem run_here {S : PS} (h : TOk S) : k_pRun S S.now = some (r_pRun S) := by
  have := pRun_eq h.g h.n0 h.n1 h.n1
  rwa [show (S.now - S.now).toNat = 0 by omega] at this
theorem pW0 {S : PS} (h : TOk S) {x : Int} (hx : 0 ≤ x ∧ x < 65536) : k_pWrite S S.now 0 x = some (r_pWrite (wr0 S x)) := by
  unfold k_pWrite pA f_pWrite
  refine (bind_of (r_pRun S) (run_here h)).trans ?_
  show some (Q_3.mk _ _ _ _ _ _ _ _ _ _ _ _ _ _ _ _ _ _ _ _ _ _ _ _ _ _ _ _ _ _ _ _ _ _ _ _ _ _ _ _ _ _ _ _ _ _ _ _ _ _ _ _ _ _ _ _ _ _ _ _) = _
  simp only [fd8, fd16, fd32, fd64, fd128, fd256, fd2048, fd4096, fd8192, fd16384, fd32768, ba1_7 hx, wa1_7 hx, ba8_1 hx, wa8_1 hx, ba16_7 hx, wa16_7 hx, ba1_63 hx, wa1_63 hx, ba64_3 hx, wa64_3 hx, ba256_7 hx, wa256_7 hx, ba2048_1 hx, wa2048_1 hx, ba1_2047 hx, wa1_2047 hx, ba16384_1 hx, wa16384_1 hx, ba32_1 hx, wa32_1 hx, ba64_1 hx, wa64_1 hx, ba128_1 hx, wa128_1 hx, ba16_15 hx, wa16_15 hx, wf4096 hx, wf32768 hx, wf256 hx, wf8192 hx, wl64 hx, wl256 hx]
  rfl
theorem pW1 {S : PS} (h : TOk S) {x : Int} (hx : 0 ≤ x ∧ x < 65536) : k_pWrite S S.now 1 x = some (r_pWrite (wr1 S x)) := by
  unfold k_pWrite pA f_pWrite
  refine (bind_of (r_pRun S) (run_here h)).trans ?_
  show cond (IntKind.wrap .i64 (Int.fdiv x 4096) == 0) (cond (!(bits .and .u16 (Int.fdiv x 2048) 1 == 1)) _ _) _ = _
  simp only [fd8, fd16, fd32, fd64, fd128, fd256, fd2048, fd4096, fd8192, fd16384, fd32768, ba1_7 hx, wa1_7 hx, ba8_1 hx, wa8_1 hx, ba16_7 hx, wa16_7 hx, ba1_63 hx, wa1_63 hx, ba64_3 hx, wa64_3 hx, ba256_7 hx, wa256_7 hx, ba2048_1 hx, wa2048_1 hx, ba1_2047 hx, wa1_2047 hx, ba16384_1 hx, wa16384_1 hx, ba32_1 hx, wa32_1 hx, ba64_1 hx, wa64_1 hx, ba128_1 hx, wa128_1 hx, ba16_15 hx, wa16_15 hx, wf4096 hx, wf32768 hx, wf256 hx, wf8192 hx, wl64 hx, wl256 hx]
  unfold wr1 dutyC
  cases (x / 4096 == 0) <;> cases (x / 2048 % 2 == 1) <;> rfl
theorem pW3 {S : PS} (h : TOk S) {x : Int} (hx : 0 ≤ x ∧ x < 65536) : k_pWrite S S.now 3 x = some (r_pWrite (wr3 S x)) := by
  unfold k_pWrite pA f_pWrite
  refine (bind_of (r_pRun S) (run_here h)).trans ?_
  show cond (IntKind.wrap .i64 (Int.fdiv x 4096) == 0) (cond (!(bits .and .u16 (Int.fdiv x 2048) 1 == 1)) _ _) _ = _
  simp only [fd8, fd16, fd32, fd64, fd128, fd256, fd2048, fd4096, fd8192, fd16384, fd32768, ba1_7 hx, wa1_7 hx, ba8_1 hx, wa8_1 hx, ba16_7 hx, wa16_7 hx, ba1_63 hx, wa1_63 hx, ba64_3 hx, wa64_3 hx, ba256_7 hx, wa256_7 hx, ba2048_1 hx, wa2048_1 hx, ba1_2047 hx, wa1_2047 hx, ba16384_1 hx, wa16384_1 hx, ba32_1 hx, wa32_1 hx, ba64_1 hx, wa64_1 hx, ba128_1 hx, wa128_1 hx, ba16_15 hx, wa16_15 hx, wf4096 hx, wf32768 hx, wf256 hx, wf8192 hx, wl64 hx, wl256 hx]
  unfold wr3 dutyC
  cases (x / 4096 == 0) <;> cases (x / 2048 % 2 == 1) <;> rfl
theorem pW7 {S : PS} (h : TOk S) {x : Int} (hx : 0 ≤ x ∧ x < 65536) : k_pWrite S S.now 7 x = some (r_pWrite (wr7 S x)) := by
  unfold k_pWrite pA f_pWrite
  refine (bind_of (r_pRun S) (run_here h)).trans ?_
  show cond (IntKind.wrap .i64 (Int.fdiv x 4096) == 0) (cond (!(bits .and .u16 (Int.fdiv x 2048) 1 == 1)) _ _) _ = _
  simp only [fd8, fd16, fd32, fd64, fd128, fd256, fd2048, fd4096, fd8192, fd16384, fd32768, ba1_7 hx, wa1_7 hx, ba8_1 hx, wa8_1 hx, ba16_7 hx, wa16_7 hx, ba1_63 hx, wa1_63 hx, ba64_3 hx, wa64_3 hx, ba256_7 hx, wa256_7 hx, ba2048_1 hx, wa2048_1 hx, ba1_2047 hx, wa1_2047 hx, ba16384_1 hx, wa16384_1 hx, ba32_1 hx, wa32_1 hx, ba64_1 hx, wa64_1 hx, ba128_1 hx, wa128_1 hx, ba16_15 hx, wa16_15 hx, wf4096 hx, wf32768 hx, wf256 hx, wf8192 hx, wl64 hx, wl256 hx]
  unfold wr7 dutyC
  cases (x / 4096 == 0) <;> cases (x / 2048 % 2 == 1) <;> rfl
theorem pW2 {S : PS} (h : TOk S) {x : Int} (hx : 0 ≤ x ∧ x < 65536) : k_pWrite S S.now 2 x = some (r_pWrite (wr2 S x)) := by
  unfold k_pWrite pA f_pWrite
  refine (bind_of (r_pRun S) (run_here h)).trans ?_
  show cond (Int.fdiv x 32768 == 1) ((k_begin0 { S with c0 := { S.c0 with freq := IntKind.wrap .i64 (bits .and .u16 x 2047), ul := (bits .and .u16 (Int.fdiv x 16384) 1) == 1 } } 0 64).bind _) (some _) = _
  have hb := beg0 { S with c0 := freqC x S.c0 } (by show 0 ≤ x % 2048 ∧ x % 2048 < 2048; omega)
  simp only [fd8, fd16, fd32, fd64, fd128, fd256, fd2048, fd4096, fd8192, fd16384, fd32768, ba1_7 hx, wa1_7 hx, ba8_1 hx, wa8_1 hx, ba16_7 hx, wa16_7 hx, ba1_63 hx, wa1_63 hx, ba64_3 hx, wa64_3 hx, ba256_7 hx, wa256_7 hx, ba2048_1 hx, wa2048_1 hx, ba1_2047 hx, wa1_2047 hx, ba16384_1 hx, wa16384_1 hx, ba32_1 hx, wa32_1 hx, ba64_1 hx, wa64_1 hx, ba128_1 hx, wa128_1 hx, ba16_15 hx, wa16_15 hx, wf4096 hx, wf32768 hx, wf256 hx, wf8192 hx, wl64 hx, wl256 hx]
  unfold wr2
  cases (x / 32768 == 1)
  · rfl
  · refine (congrArg (fun z => Option.bind z _) hb).trans ?_
    rfl
theorem pW4 {S : PS} (h : TOk S) {x : Int} (hx : 0 ≤ x ∧ x < 65536) : k_pWrite S S.now 4 x = some (r_pWrite (wr4 S x)) := by
  unfold k_pWrite pA f_pWrite
  refine (bind_of (r_pRun S) (run_here h)).trans ?_
  show cond (Int.fdiv x 32768 == 1) ((k_begin1 { S with c1 := { S.c1 with freq := IntKind.wrap .i64 (bits .and .u16 x 2047), ul := (bits .and .u16 (Int.fdiv x 16384) 1) == 1 } } 1 64).bind _) (some _) = _
  have hb := beg1 { S with c1 := freqC x S.c1 } (by show 0 ≤ x % 2048 ∧ x % 2048 < 2048; omega)
  simp only [fd8, fd16, fd32, fd64, fd128, fd256, fd2048, fd4096, fd8192, fd16384, fd32768, ba1_7 hx, wa1_7 hx, ba8_1 hx, wa8_1 hx, ba16_7 hx, wa16_7 hx, ba1_63 hx, wa1_63 hx, ba64_3 hx, wa64_3 hx, ba256_7 hx, wa256_7 hx, ba2048_1 hx, wa2048_1 hx, ba1_2047 hx, wa1_2047 hx, ba16384_1 hx, wa16384_1 hx, ba32_1 hx, wa32_1 hx, ba64_1 hx, wa64_1 hx, ba128_1 hx, wa128_1 hx, ba16_15 hx, wa16_15 hx, wf4096 hx, wf32768 hx, wf256 hx, wf8192 hx, wl64 hx, wl256 hx]
  unfold wr4
  cases (x / 32768 == 1)
  · rfl
  · refine (congrArg (fun z => Option.bind z _) hb).trans ?_
    rfl
theorem pW5 {S : PS} (h : TOk S) {x : Int} (hx : 0 ≤ x ∧ x < 65536) : k_pWrite S S.now 5 x = some (r_pWrite (wr5 S x)) := by
  unfold k_pWrite pA f_pWrite
  refine (bind_of (r_pRun S) (run_here h)).trans ?_
  show cond (!(bits .and .u16 (Int.fdiv x 128) 1 == 1)) _ _ = _
  simp only [fd8, fd16, fd32, fd64, fd128, fd256, fd2048, fd4096, fd8192, fd16384, fd32768, ba1_7 hx, wa1_7 hx, ba8_1 hx, wa8_1 hx, ba16_7 hx, wa16_7 hx, ba1_63 hx, wa1_63 hx, ba64_3 hx, wa64_3 hx, ba256_7 hx, wa256_7 hx, ba2048_1 hx, wa2048_1 hx, ba1_2047 hx, wa1_2047 hx, ba16384_1 hx, wa16384_1 hx, ba32_1 hx, wa32_1 hx, ba64_1 hx, wa64_1 hx, ba128_1 hx, wa128_1 hx, ba16_15 hx, wa16_15 hx, wf4096 hx, wf32768 hx, wf256 hx, wf8192 hx, wl64 hx, wl256 hx]
  unfold wr5
  cases (x / 128 % 2 == 1) <;> rfl
theorem pW6 {S : PS} (h : TOk S) {x : Int} (hx : 0 ≤ x ∧ x < 65536) : k_pWrite S S.now 6 x = some (r_pWrite (wr6 S x)) := by
  unfold k_pWrite pA f_pWrite
  refine (bind_of (r_pRun S) (run_here h)).trans ?_
  show cond (decide (0 ≤ Int.fdiv x 8192) && decide (Int.fdiv x 8192 < ((8 : Nat) : Int))) _ _ = _
  rw [fd8192, cand (by omega) (by omega)]
  have e : ixL ([0, 1, 2, 3, 4, 4, 4, 4] : List Int) (x / 8192) = if x / 8192 < 4 then x / 8192 else 4 := by
    have : 0 ≤ x / 8192 ∧ x / 8192 < 8 := by omega
    generalize x / 8192 = k at this ⊢
    obtain rfl | rfl | rfl | rfl | rfl | rfl | rfl | rfl : k = 0 ∨ k = 1 ∨ k = 2 ∨ k = 3 ∨ k = 4 ∨ k = 5 ∨ k = 6 ∨ k = 7 := by omega
    all_goals rfl
  rw [e]
  rfl
theorem pW8 {S : PS} (h : TOk S) {x : Int} (hx : 0 ≤ x ∧ x < 65536) : k_pWrite S S.now 8 x = some (r_pWrite (wr8 S x)) := by
  unfold k_pWrite pA f_pWrite
  refine (bind_of (r_pRun S) (run_here h)).trans ?_
  show cond (Int.fdiv x 32768 == 1) ((k_begin3 { S with div := IntKind.wrap .i64 (bits .and .u16 x 7), narrow := (bits .and .u16 (Int.fdiv x 8) 1) == 1, shift := IntKind.wrap .i64 (bits .and .u16 (Int.fdiv x 16) 15), c3 := { S.c3 with ul := (bits .and .u16 (Int.fdiv x 16384) 1) == 1 } } 3 64).bind _) (some _) = _
  have hb := beg3 { S with div := x % 8, narrow := x / 8 % 2 == 1, shift := x / 16 % 16, c3 := { S.c3 with ul := x / 16384 % 2 == 1 } } (by show 0 ≤ x % 8 ∧ x % 8 < 8; omega) (by show 0 ≤ x / 16 % 16 ∧ x / 16 % 16 < 16; omega)
  simp only [fd8, fd16, fd32, fd64, fd128, fd256, fd2048, fd4096, fd8192, fd16384, fd32768, ba1_7 hx, wa1_7 hx, ba8_1 hx, wa8_1 hx, ba16_7 hx, wa16_7 hx, ba1_63 hx, wa1_63 hx, ba64_3 hx, wa64_3 hx, ba256_7 hx, wa256_7 hx, ba2048_1 hx, wa2048_1 hx, ba1_2047 hx, wa1_2047 hx, ba16384_1 hx, wa16384_1 hx, ba32_1 hx, wa32_1 hx, ba64_1 hx, wa64_1 hx, ba128_1 hx, wa128_1 hx, ba16_15 hx, wa16_15 hx, wf4096 hx, wf32768 hx, wf256 hx, wf8192 hx, wl64 hx, wl256 hx]
  unfold wr8
  cases (x / 32768 == 1)
  · rfl
  · refine (congrArg (fun z => Option.bind z _) hb).trans ?_
    rfl
theorem pW9 {S : PS} (h : TOk S) {x : Int} (hx : 0 ≤ x ∧ x < 65536) : k_pWrite S S.now 9 x = some (r_pWrite (wr9 S x)) := by
  unfold k_pWrite pA f_pWrite
  refine (bind_of (r_pRun S) (run_here h)).trans ?_
  show cond (Int.fdiv x 32768 == 1) ((k_begin2 { S with c2 := { S.c2 with freq := IntKind.wrap .i64 (bits .and .u16 x 2047), ul := (bits .and .u16 (Int.fdiv x 16384) 1) == 1 } } 2 256).bind _) (some _) = _
  have hb := beg2 { S with c2 := freqC x S.c2 } (by show 0 ≤ x % 2048 ∧ x % 2048 < 2048; omega)
  simp only [fd8, fd16, fd32, fd64, fd128, fd256, fd2048, fd4096, fd8192, fd16384, fd32768, ba1_7 hx, wa1_7 hx, ba8_1 hx, wa8_1 hx, ba16_7 hx, wa16_7 hx, ba1_63 hx, wa1_63 hx, ba64_3 hx, wa64_3 hx, ba256_7 hx, wa256_7 hx, ba2048_1 hx, wa2048_1 hx, ba1_2047 hx, wa1_2047 hx, ba16384_1 hx, wa16384_1 hx, ba32_1 hx, wa32_1 hx, ba64_1 hx, wa64_1 hx, ba128_1 hx, wa128_1 hx, ba16_15 hx, wa16_15 hx, wf4096 hx, wf32768 hx, wf256 hx, wf8192 hx, wl64 hx, wl256 hx]
  unfold wr9
  cases (x / 32768 == 1)
  · rfl
  · refine (congrArg (fun z => Option.bind z _) hb).trans ?_
    rfl
theorem pW_else {S : PS} (h : TOk S) {r x : Int} (hr : ¬ (0 ≤ r ∧ r ≤ 9)) : k_pWrite S S.now r x = some (r_pWrite S) := by
  unfold k_pWrite pA f_pWrite
  refine (bind_of (r_pRun S) (run_here h)).trans ?_
  show cond (r == 0) _ _ = _
  rw [cne (by omega)]
  refine (bind_of false (by rw [cne (by omega), cne (by omega), show (r == 7) = false from beq_eq_false_iff_ne.2 (by omega)])).trans ?_
  rw [cfalse rfl]
  refine (bind_of false (by rw [cne (by omega), show (r == 4) = false from beq_eq_false_iff_ne.2 (by omega)])).trans ?_
  rw [cfalse rfl, cne (by omega), cne (by omega), cne (by omega), cne (by omega)]
theorem pWrite_eq {S : PS} (h : TOk S) {r x : Int} (hx : 0 ≤ x ∧ x < 65536) : k_pWrite S S.now r x = some (r_pWrite (writeA S r x)) := by
  by_cases hr : 0 ≤ r ∧ r ≤ 9
  · obtain rfl | rfl | rfl | rfl | rfl | rfl | rfl | rfl | rfl | rfl : r = 0 ∨ r = 1 ∨ r = 2 ∨ r = 3 ∨ r = 4 ∨ r = 5 ∨ r = 6 ∨ r = 7 ∨ r = 8 ∨ r = 9 := by omega
    · exact pW0 h hx
    · exact pW1 h hx
    · exact pW2 h hx
    · exact pW3 h hx
    · exact pW4 h hx
    · exact pW5 h hx
    · exact pW6 h hx
    · exact pW7 h hx
    · exact pW8 h hx
    · exact pW9 h hx
  · have e : writeA S r x = S := by
      unfold writeA
      rw [if_neg (by omega), if_neg (by omega), if_neg (by omega), if_neg (by omega), if_neg (by omega), if_neg (by omega), if_neg (by omega), if_neg (by omega), if_neg (by omega), if_neg (by omega)]
    rw [e]
    exact pW_else h hr
end Go.Proofs.Ytccmpceifheejaa
