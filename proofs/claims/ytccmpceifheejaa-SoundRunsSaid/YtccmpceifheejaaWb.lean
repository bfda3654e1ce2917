/-
  Writing to the channels: the program and the document.
-/
import Derived.Test.YtccmpceifheejaaRr
import Derived.Test.YtccmpceifheejaaBits
namespace Go.Proofs.Ytccmpceifheejaa
open Go.Vc
set_option linter.unusedVariables false
set_option linter.unusedSimpArgs false
theorem fd8 {x : Int} : Int.fdiv x 8 = x / 8 := fdiv_pos (by decide)
theorem fd16 {x : Int} : Int.fdiv x 16 = x / 16 := fdiv_pos (by decide)
theorem fd32 {x : Int} : Int.fdiv x 32 = x / 32 := fdiv_pos (by decide)
theorem fd64 {x : Int} : Int.fdiv x 64 = x / 64 := fdiv_pos (by decide)
theorem fd128 {x : Int} : Int.fdiv x 128 = x / 128 := fdiv_pos (by decide)
theorem fd256 {x : Int} : Int.fdiv x 256 = x / 256 := fdiv_pos (by decide)
theorem fd2048 {x : Int} : Int.fdiv x 2048 = x / 2048 := fdiv_pos (by decide)
theorem fd4096 {x : Int} : Int.fdiv x 4096 = x / 4096 := fdiv_pos (by decide)
theorem fd8192 {x : Int} : Int.fdiv x 8192 = x / 8192 := fdiv_pos (by decide)
theorem fd16384 {x : Int} : Int.fdiv x 16384 = x / 16384 := fdiv_pos (by decide)
theorem fd32768 {x : Int} : Int.fdiv x 32768 = x / 32768 := fdiv_pos (by decide)
theorem ba1_7 {x : Int} (h : 0 ≤ x ∧ x < 65536) : bits .and .u16 x 7 = x % 8 := by
  rw [and16 3 (by decide) (by decide) (by omega) (by omega)]; rfl
theorem wa1_7 {x : Int} (h : 0 ≤ x ∧ x < 65536) : IntKind.wrap .i64 (x % 8) = x % 8 := wrap_i64 (by omega) (by omega)
theorem ba8_1 {x : Int} (h : 0 ≤ x ∧ x < 65536) : bits .and .u16 (x / 8) 1 = x / 8 % 2 := by
  rw [and16 1 (by decide) (by decide) (by omega) (by omega)]; rfl
theorem wa8_1 {x : Int} (h : 0 ≤ x ∧ x < 65536) : IntKind.wrap .i64 (x / 8 % 2) = x / 8 % 2 := wrap_i64 (by omega) (by omega)
theorem ba16_7 {x : Int} (h : 0 ≤ x ∧ x < 65536) : bits .and .u16 (x / 16) 7 = x / 16 % 8 := by
  rw [and16 3 (by decide) (by decide) (by omega) (by omega)]; rfl
theorem wa16_7 {x : Int} (h : 0 ≤ x ∧ x < 65536) : IntKind.wrap .i64 (x / 16 % 8) = x / 16 % 8 := wrap_i64 (by omega) (by omega)
theorem ba1_63 {x : Int} (h : 0 ≤ x ∧ x < 65536) : bits .and .u16 x 63 = x % 64 := by
  rw [and16 6 (by decide) (by decide) (by omega) (by omega)]; rfl
theorem wa1_63 {x : Int} (h : 0 ≤ x ∧ x < 65536) : IntKind.wrap .i64 (x % 64) = x % 64 := wrap_i64 (by omega) (by omega)
theorem ba64_3 {x : Int} (h : 0 ≤ x ∧ x < 65536) : bits .and .u16 (x / 64) 3 = x / 64 % 4 := by
  rw [and16 2 (by decide) (by decide) (by omega) (by omega)]; rfl
theorem wa64_3 {x : Int} (h : 0 ≤ x ∧ x < 65536) : IntKind.wrap .i64 (x / 64 % 4) = x / 64 % 4 := wrap_i64 (by omega) (by omega)
theorem ba256_7 {x : Int} (h : 0 ≤ x ∧ x < 65536) : bits .and .u16 (x / 256) 7 = x / 256 % 8 := by
  rw [and16 3 (by decide) (by decide) (by omega) (by omega)]; rfl
theorem wa256_7 {x : Int} (h : 0 ≤ x ∧ x < 65536) : IntKind.wrap .i64 (x / 256 % 8) = x / 256 % 8 := wrap_i64 (by omega) (by omega)
theorem ba2048_1 {x : Int} (h : 0 ≤ x ∧ x < 65536) : bits .and .u16 (x / 2048) 1 = x / 2048 % 2 := by
  rw [and16 1 (by decide) (by decide) (by omega) (by omega)]; rfl
theorem wa2048_1 {x : Int} (h : 0 ≤ x ∧ x < 65536) : IntKind.wrap .i64 (x / 2048 % 2) = x / 2048 % 2 := wrap_i64 (by omega) (by omega)
theorem ba1_2047 {x : Int} (h : 0 ≤ x ∧ x < 65536) : bits .and .u16 x 2047 = x % 2048 := by
  rw [and16 11 (by decide) (by decide) (by omega) (by omega)]; rfl
theorem wa1_2047 {x : Int} (h : 0 ≤ x ∧ x < 65536) : IntKind.wrap .i64 (x % 2048) = x % 2048 := wrap_i64 (by omega) (by omega)
theorem ba16384_1 {x : Int} (h : 0 ≤ x ∧ x < 65536) : bits .and .u16 (x / 16384) 1 = x / 16384 % 2 := by
  rw [and16 1 (by decide) (by decide) (by omega) (by omega)]; rfl
theorem wa16384_1 {x : Int} (h : 0 ≤ x ∧ x < 65536) : IntKind.wrap .i64 (x / 16384 % 2) = x / 16384 % 2 := wrap_i64 (by omega) (by omega)
theorem ba32_1 {x : Int} (h : 0 ≤ x ∧ x < 65536) : bits .and .u16 (x / 32) 1 = x / 32 % 2 := by
  rw [and16 1 (by decide) (by decide) (by omega) (by omega)]; rfl
theorem wa32_1 {x : Int} (h : 0 ≤ x ∧ x < 65536) : IntKind.wrap .i64 (x / 32 % 2) = x / 32 % 2 := wrap_i64 (by omega) (by omega)
theorem ba64_1 {x : Int} (h : 0 ≤ x ∧ x < 65536) : bits .and .u16 (x / 64) 1 = x / 64 % 2 := by
  rw [and16 1 (by decide) (by decide) (by omega) (by omega)]; rfl
theorem wa64_1 {x : Int} (h : 0 ≤ x ∧ x < 65536) : IntKind.wrap .i64 (x / 64 % 2) = x / 64 % 2 := wrap_i64 (by omega) (by omega)
theorem ba128_1 {x : Int} (h : 0 ≤ x ∧ x < 65536) : bits .and .u16 (x / 128) 1 = x / 128 % 2 := by
  rw [and16 1 (by decide) (by decide) (by omega) (by omega)]; rfl
theorem wa128_1 {x : Int} (h : 0 ≤ x ∧ x < 65536) : IntKind.wrap .i64 (x / 128 % 2) = x / 128 % 2 := wrap_i64 (by omega) (by omega)
theorem ba16_15 {x : Int} (h : 0 ≤ x ∧ x < 65536) : bits .and .u16 (x / 16) 15 = x / 16 % 16 := by
  rw [and16 4 (by decide) (by decide) (by omega) (by omega)]; rfl
theorem wa16_15 {x : Int} (h : 0 ≤ x ∧ x < 65536) : IntKind.wrap .i64 (x / 16 % 16) = x / 16 % 16 := wrap_i64 (by omega) (by omega)
theorem wf4096 {x : Int} (h : 0 ≤ x ∧ x < 65536) : IntKind.wrap .i64 (x / 4096) = x / 4096 := wrap_i64 (by omega) (by omega)
theorem wf32768 {x : Int} (h : 0 ≤ x ∧ x < 65536) : IntKind.wrap .i64 (x / 32768) = x / 32768 := wrap_i64 (by omega) (by omega)
theorem wf256 {x : Int} (h : 0 ≤ x ∧ x < 65536) : IntKind.wrap .i64 (x / 256) = x / 256 := wrap_i64 (by omega) (by omega)
theorem wf8192 {x : Int} (h : 0 ≤ x ∧ x < 65536) : IntKind.wrap .i64 (x / 8192) = x / 8192 := wrap_i64 (by omega) (by omega)
theorem wl64 {x : Int} (h : 0 ≤ x ∧ x < 65536) : IntKind.wrap .i64 (64 - x % 64) = 64 - x % 64 := wrap_i64 (by omega) (by omega)
theorem wl256 {x : Int} (h : 0 ≤ x ∧ x < 65536) : IntKind.wrap .i64 (256 - x / 256) = 256 - x / 256 := wrap_i64 (by omega) (by omega)
theorem rb15_1 {x : Int} (h : 0 ≤ x ∧ x < 65536) : f_rbits x 15 1 = some (x / 32768) := by
  show some (Int.tmod (Int.fdiv (IntKind.wrap .i64 x) 32768) 2) = _
  rw [wrap_i64 (x := x) (by omega) (by omega), fdiv_pos (by decide), tmod_nn (by omega), Int.emod_eq_of_lt (by omega) (by omega)]
theorem rb14_1 {x : Int} (h : 0 ≤ x ∧ x < 65536) : f_rbits x 14 1 = some (x / 16384 % 2) := by
  show some (Int.tmod (Int.fdiv (IntKind.wrap .i64 x) 16384) 2) = _
  rw [wrap_i64 (x := x) (by omega) (by omega), fdiv_pos (by decide), tmod_nn (by omega)]
theorem rb0_3 {x : Int} (h : 0 ≤ x ∧ x < 65536) : f_rbits x 0 3 = some (x % 8) := by
  show some (Int.tmod (Int.fdiv (IntKind.wrap .i64 x) 1) 8) = _
  rw [wrap_i64 (x := x) (by omega) (by omega), fdiv_pos (by decide), tmod_nn (by omega), Int.ediv_one]
theorem rb3_1 {x : Int} (h : 0 ≤ x ∧ x < 65536) : f_rbits x 3 1 = some (x / 8 % 2) := by
  show some (Int.tmod (Int.fdiv (IntKind.wrap .i64 x) 8) 2) = _
  rw [wrap_i64 (x := x) (by omega) (by omega), fdiv_pos (by decide), tmod_nn (by omega)]
theorem rb4_3 {x : Int} (h : 0 ≤ x ∧ x < 65536) : f_rbits x 4 3 = some (x / 16 % 8) := by
  show some (Int.tmod (Int.fdiv (IntKind.wrap .i64 x) 16) 8) = _
  rw [wrap_i64 (x := x) (by omega) (by omega), fdiv_pos (by decide), tmod_nn (by omega)]
theorem rb0_6 {x : Int} (h : 0 ≤ x ∧ x < 65536) : f_rbits x 0 6 = some (x % 64) := by
  show some (Int.tmod (Int.fdiv (IntKind.wrap .i64 x) 1) 64) = _
  rw [wrap_i64 (x := x) (by omega) (by omega), fdiv_pos (by decide), tmod_nn (by omega), Int.ediv_one]
theorem rb6_2 {x : Int} (h : 0 ≤ x ∧ x < 65536) : f_rbits x 6 2 = some (x / 64 % 4) := by
  show some (Int.tmod (Int.fdiv (IntKind.wrap .i64 x) 64) 4) = _
  rw [wrap_i64 (x := x) (by omega) (by omega), fdiv_pos (by decide), tmod_nn (by omega)]
theorem rb8_3 {x : Int} (h : 0 ≤ x ∧ x < 65536) : f_rbits x 8 3 = some (x / 256 % 8) := by
  show some (Int.tmod (Int.fdiv (IntKind.wrap .i64 x) 256) 8) = _
  rw [wrap_i64 (x := x) (by omega) (by omega), fdiv_pos (by decide), tmod_nn (by omega)]
theorem rb11_1 {x : Int} (h : 0 ≤ x ∧ x < 65536) : f_rbits x 11 1 = some (x / 2048 % 2) := by
  show some (Int.tmod (Int.fdiv (IntKind.wrap .i64 x) 2048) 2) = _
  rw [wrap_i64 (x := x) (by omega) (by omega), fdiv_pos (by decide), tmod_nn (by omega)]
theorem rb12_4 {x : Int} (h : 0 ≤ x ∧ x < 65536) : f_rbits x 12 4 = some (x / 4096) := by
  show some (Int.tmod (Int.fdiv (IntKind.wrap .i64 x) 4096) 16) = _
  rw [wrap_i64 (x := x) (by omega) (by omega), fdiv_pos (by decide), tmod_nn (by omega), Int.emod_eq_of_lt (by omega) (by omega)]
theorem rb0_11 {x : Int} (h : 0 ≤ x ∧ x < 65536) : f_rbits x 0 11 = some (x % 2048) := by
  show some (Int.tmod (Int.fdiv (IntKind.wrap .i64 x) 1) 2048) = _
  rw [wrap_i64 (x := x) (by omega) (by omega), fdiv_pos (by decide), tmod_nn (by omega), Int.ediv_one]
theorem rb5_1 {x : Int} (h : 0 ≤ x ∧ x < 65536) : f_rbits x 5 1 = some (x / 32 % 2) := by
  show some (Int.tmod (Int.fdiv (IntKind.wrap .i64 x) 32) 2) = _
  rw [wrap_i64 (x := x) (by omega) (by omega), fdiv_pos (by decide), tmod_nn (by omega)]
theorem rb6_1 {x : Int} (h : 0 ≤ x ∧ x < 65536) : f_rbits x 6 1 = some (x / 64 % 2) := by
  show some (Int.tmod (Int.fdiv (IntKind.wrap .i64 x) 64) 2) = _
  rw [wrap_i64 (x := x) (by omega) (by omega), fdiv_pos (by decide), tmod_nn (by omega)]
theorem rb7_1 {x : Int} (h : 0 ≤ x ∧ x < 65536) : f_rbits x 7 1 = some (x / 128 % 2) := by
  show some (Int.tmod (Int.fdiv (IntKind.wrap .i64 x) 128) 2) = _
  rw [wrap_i64 (x := x) (by omega) (by omega), fdiv_pos (by decide), tmod_nn (by omega)]
theorem rb8_8 {x : Int} (h : 0 ≤ x ∧ x < 65536) : f_rbits x 8 8 = some (x / 256) := by
  show some (Int.tmod (Int.fdiv (IntKind.wrap .i64 x) 256) 256) = _
  rw [wrap_i64 (x := x) (by omega) (by omega), fdiv_pos (by decide), tmod_nn (by omega), Int.emod_eq_of_lt (by omega) (by omega)]
theorem rb13_3 {x : Int} (h : 0 ≤ x ∧ x < 65536) : f_rbits x 13 3 = some (x / 8192) := by
  show some (Int.tmod (Int.fdiv (IntKind.wrap .i64 x) 8192) 8) = _
  rw [wrap_i64 (x := x) (by omega) (by omega), fdiv_pos (by decide), tmod_nn (by omega), Int.emod_eq_of_lt (by omega) (by omega)]
theorem rb4_4 {x : Int} (h : 0 ≤ x ∧ x < 65536) : f_rbits x 4 4 = some (x / 16 % 16) := by
  show some (Int.tmod (Int.fdiv (IntKind.wrap .i64 x) 16) 16) = _
  rw [wrap_i64 (x := x) (by omega) (by omega), fdiv_pos (by decide), tmod_nn (by omega)]
def dutyC (x : Int) (c : Ch) : Ch := { c with length := 64 - x % 64, duty := x / 64 % 4, step := x / 256 % 8, up := x / 2048 % 2 == 1, start := x / 4096, on := cond (x / 4096 == 0) (cond (!(x / 2048 % 2 == 1)) false c.on) c.on }
def freqC (x : Int) (c : Ch) : Ch := { c with freq := x % 2048, ul := x / 16384 % 2 == 1 }
def begC (y full : Int) (on : Bool) (c : Ch) : Ch := { c with on := on, length := cond (c.length == 0) full c.length, volume := c.start, left := c.step, wait := y, at' := 0, sweepLeft := c.sweepIn }
def onC (c : Ch) : Bool := cond (decide (c.start > 0)) true c.up
def wr0 (S : PS) (x : Int) : PS := { S with c0 := { S.c0 with sweepBy := x % 8, sweepDown := x / 8 % 2 == 1, sweepIn := x / 16 % 8 } }
def wr1 (S : PS) (x : Int) : PS := { S with c0 := dutyC x S.c0 }
def wr3 (S : PS) (x : Int) : PS := { S with c1 := dutyC x S.c1 }
def wr7 (S : PS) (x : Int) : PS := { S with c3 := dutyC x S.c3 }
def wr2 (S : PS) (x : Int) : PS := { S with c0 := cond (x / 32768 == 1) (begC (cyc0 (freqC x S.c0)) 64 (onC S.c0) (freqC x S.c0)) (freqC x S.c0) }
def wr4 (S : PS) (x : Int) : PS := { S with c1 := cond (x / 32768 == 1) (begC (cyc0 (freqC x S.c1)) 64 (onC S.c1) (freqC x S.c1)) (freqC x S.c1) }
def wr9 (S : PS) (x : Int) : PS := { S with c2 := cond (x / 32768 == 1) (begC (cyc2 (freqC x S.c2)) 256 S.dac (freqC x S.c2)) (freqC x S.c2) }
def wr5 (S : PS) (x : Int) : PS := { S with two := x / 32 % 2 == 1, page := x / 64 % 2, dac := x / 128 % 2 == 1, c2 := { S.c2 with length := 256 - x / 256, on := cond (!(x / 128 % 2 == 1)) false S.c2.on } }
def wr6 (S : PS) (x : Int) : PS := { S with level := if x / 8192 < 4 then x / 8192 else 4 }
def wr8 (S : PS) (x : Int) : PS :=
  { S with div := x % 8, narrow := x / 8 % 2 == 1, shift := x / 16 % 16,
           c3 := cond (x / 32768 == 1) (begC (cyc3 (x / 16 % 16) (x % 8)) 64 (onC S.c3) { S.c3 with ul := x / 16384 % 2 == 1 }) { S.c3 with ul := x / 16384 % 2 == 1 },
           lfsr := cond (x / 32768 == 1) 32767 S.lfsr }
def writeA (S : PS) (r x : Int) : PS :=
  if r = 0 then wr0 S x else if r = 1 then wr1 S x else if r = 2 then wr2 S x else if r = 3 then wr3 S x else if r = 4 then wr4 S x else if r = 5 then wr5 S x else if r = 6 then wr6 S x else if r = 7 then wr7 S x else if r = 8 then wr8 S x else if r = 9 then wr9 S x else S
theorem dutyC_ok {c : Ch} (h : COk 8 c) {x : Int} (hx : 0 ≤ x ∧ x < 65536) : COk 8 (dutyC x c) := by
  refine ⟨fun k => h.w ?_, h.a, h.f, h.v, (by show 0 ≤ x / 4096 ∧ x / 4096 ≤ 15; omega), (by show 0 ≤ x / 64 % 4 ∧ x / 64 % 4 < 4; omega), h.b, (by show 0 ≤ x / 256 % 8; omega)⟩
  have k' : cond (x / 4096 == 0) (cond (!(x / 2048 % 2 == 1)) false c.on) c.on = true := k
  cases hc : c.on
  · rw [hc] at k'
    revert k'
    cases (x / 4096 == 0) <;> cases (x / 2048 % 2 == 1) <;> exact fun z => z
  · rfl
theorem freqC_ok {m : Int} {c : Ch} (h : COk m c) {x : Int} : COk m (freqC x c) := ⟨h.w, h.a, (by show 0 ≤ x % 2048 ∧ x % 2048 < 2048; omega), h.v, h.s, h.d, h.b, h.t⟩
theorem begC_ok {m y full : Int} {on : Bool} {c : Ch} (h : COk m c) (hm : 0 < m) (hy : 0 < y ∧ y ≤ 2147483648) : COk m (begC y full on c) := ⟨fun _ => hy, ⟨Int.le_refl 0, hm⟩, h.f, h.s, h.s, h.d, h.b, h.t⟩
theorem cond_ok {m : Int} {b : Bool} {c d : Ch} (h : COk m c) (h' : COk m d) : COk m (cond b c d) := by cases b <;> assumption
theorem freqC_cyc {c : Ch} {x : Int} : (0 < cyc0 (freqC x c) ∧ cyc0 (freqC x c) ≤ 2147483648) ∧ (0 < cyc2 (freqC x c) ∧ cyc2 (freqC x c) ≤ 2147483648) := by
  show (0 < 16 * (2048 - x % 2048) ∧ 16 * (2048 - x % 2048) ≤ 2147483648) ∧ (0 < 8 * (2048 - x % 2048) ∧ 8 * (2048 - x % 2048) ≤ 2147483648)
  omega
theorem write_gok {S : PS} (h : GOk S) {r x : Int} (hx : 0 ≤ x ∧ x < 65536) : GOk (writeA S r x) := by
  unfold writeA
  split
  · exact ⟨⟨h.c0.w, h.c0.a, h.c0.f, h.c0.v, h.c0.s, h.c0.d, (by show 0 ≤ x % 8 ∧ x % 8 < 8; omega), h.c0.t⟩, h.c1, h.c2, h.c3, h.lf, h.dv, h.sh⟩
  split
  · exact ⟨dutyC_ok h.c0 hx, h.c1, h.c2, h.c3, h.lf, h.dv, h.sh⟩
  split
  · exact ⟨cond_ok (begC_ok (freqC_ok h.c0) (by decide) freqC_cyc.1) (freqC_ok h.c0), h.c1, h.c2, h.c3, h.lf, h.dv, h.sh⟩
  split
  · exact ⟨h.c0, dutyC_ok h.c1 hx, h.c2, h.c3, h.lf, h.dv, h.sh⟩
  split
  · exact ⟨h.c0, cond_ok (begC_ok (freqC_ok h.c1) (by decide) freqC_cyc.1) (freqC_ok h.c1), h.c2, h.c3, h.lf, h.dv, h.sh⟩
  split
  · refine ⟨h.c0, h.c1, ⟨fun k => h.c2.w ?_, h.c2.a, h.c2.f, h.c2.v, h.c2.s, h.c2.d, h.c2.b, h.c2.t⟩, h.c3, h.lf, h.dv, h.sh⟩
    have k' : cond (!(x / 128 % 2 == 1)) false S.c2.on = true := k
    revert k'
    cases (x / 128 % 2 == 1) <;> simp
  split
  · exact ⟨h.c0, h.c1, h.c2, h.c3, h.lf, h.dv, h.sh⟩
  split
  · exact ⟨h.c0, h.c1, h.c2, dutyC_ok h.c3 hx, h.lf, h.dv, h.sh⟩
  split
  · have hd : 0 ≤ x % 8 ∧ x % 8 < 8 := by omega
    have hs : 0 ≤ x / 16 % 16 ∧ x / 16 % 16 < 16 := by omega
    have hc : COk 8 { S.c3 with ul := x / 16384 % 2 == 1 } := ⟨h.c3.w, h.c3.a, h.c3.f, h.c3.v, h.c3.s, h.c3.d, h.c3.b, h.c3.t⟩
    refine ⟨h.c0, h.c1, h.c2, cond_ok (begC_ok hc (by decide) ⟨(cyc3_range hd hs).1, by have := (cyc3_range hd hs).2; omega⟩) hc, ?_, hd, hs⟩
    show 0 ≤ cond (x / 32768 == 1) 32767 S.lfsr ∧ cond (x / 32768 == 1) 32767 S.lfsr < 32768
    cases (x / 32768 == 1)
    · exact h.lf
    · exact (by decide : (0 : Int) ≤ 32767 ∧ (32767 : Int) < 32768)
  split
  · exact ⟨h.c0, h.c1, cond_ok (begC_ok (freqC_ok h.c2) (by decide) freqC_cyc.2) (freqC_ok h.c2), h.c3, h.lf, h.dv, h.sh⟩
  · exact h
theorem beg0 (D : PS) (hf : 0 ≤ D.c0.freq ∧ D.c0.freq < 2048) : k_begin0 D 0 64 = some (onC D.c0, cond (D.c0.length == 0) 64 D.c0.length, D.c0.start, D.c0.step, cyc0 D.c0, D.c0.sweepIn) := by
  unfold k_begin0 pA f_begin0
  refine (bind_of (cond (D.c0.length == 0) 64 D.c0.length) (by show cond (D.c0.length == 0) _ _ = _; cases (D.c0.length == 0) <;> rfl)).trans ?_
  refine (bind_of (onC D.c0) (by show cond (decide (D.c0.start > 0)) _ _ = _; unfold onC; cases (decide (D.c0.start > 0)) <;> rfl)).trans ?_
  show (f_cycles _ _ _ _ _ _ _ _ _ _ _ _ _ _ _ _ _ _ _ _ _ _ _ _ _ _ _ _ _ _ _ _ _ _ _ _ _ _ _ _ _ _ _ _ _ _ _ _ _ _ _ _ _ _ _ _ _ _ _ _ _ _ _ _ _ _ _ _ _ _ _ _ _ _ _ _ _ _ _ _ _ _ _ _ _ _ _ _ _ _ _ _ _ _ _ _ _ _ _ _ _ _ _ _ _ _ 0).bind _ = _
  rw [cyc_0, freq16 hf]
  rfl
theorem beg1 (D : PS) (hf : 0 ≤ D.c1.freq ∧ D.c1.freq < 2048) : k_begin1 D 1 64 = some (onC D.c1, cond (D.c1.length == 0) 64 D.c1.length, D.c1.start, D.c1.step, cyc0 D.c1, D.c1.sweepIn) := by
  unfold k_begin1 pA f_begin1
  refine (bind_of (cond (D.c1.length == 0) 64 D.c1.length) (by show cond (D.c1.length == 0) _ _ = _; cases (D.c1.length == 0) <;> rfl)).trans ?_
  refine (bind_of (onC D.c1) (by show cond (decide (D.c1.start > 0)) _ _ = _; unfold onC; cases (decide (D.c1.start > 0)) <;> rfl)).trans ?_
  show (f_cycles _ _ _ _ _ _ _ _ _ _ _ _ _ _ _ _ _ _ _ _ _ _ _ _ _ _ _ _ _ _ _ _ _ _ _ _ _ _ _ _ _ _ _ _ _ _ _ _ _ _ _ _ _ _ _ _ _ _ _ _ _ _ _ _ _ _ _ _ _ _ _ _ _ _ _ _ _ _ _ _ _ _ _ _ _ _ _ _ _ _ _ _ _ _ _ _ _ _ _ _ _ _ _ _ _ _ 1).bind _ = _
  rw [cyc_1, freq16 hf]
  rfl
theorem beg2 (D : PS) (hf : 0 ≤ D.c2.freq ∧ D.c2.freq < 2048) : k_begin2 D 2 256 = some (true, cond (D.c2.length == 0) 256 D.c2.length, D.c2.start, D.c2.step, cyc2 D.c2, D.c2.sweepIn) := by
  unfold k_begin2 pA f_begin2
  refine (bind_of (cond (D.c2.length == 0) 256 D.c2.length) (by show cond (D.c2.length == 0) _ _ = _; cases (D.c2.length == 0) <;> rfl)).trans ?_
  refine (bind_of true rfl).trans ?_
  show (f_cycles _ _ _ _ _ _ _ _ _ _ _ _ _ _ _ _ _ _ _ _ _ _ _ _ _ _ _ _ _ _ _ _ _ _ _ _ _ _ _ _ _ _ _ _ _ _ _ _ _ _ _ _ _ _ _ _ _ _ _ _ _ _ _ _ _ _ _ _ _ _ _ _ _ _ _ _ _ _ _ _ _ _ _ _ _ _ _ _ _ _ _ _ _ _ _ _ _ _ _ _ _ _ _ _ _ _ 2).bind _ = _
  rw [cyc_2, freq8 hf]
  rfl
theorem beg3 (D : PS) (hd : 0 ≤ D.div ∧ D.div < 8) (hs : 0 ≤ D.shift ∧ D.shift < 16) : k_begin3 D 3 64 = some (onC D.c3, cond (D.c3.length == 0) 64 D.c3.length, D.c3.start, D.c3.step, cyc3 D.shift D.div, D.c3.sweepIn) := by
  unfold k_begin3 pA f_begin3
  refine (bind_of (cond (D.c3.length == 0) 64 D.c3.length) (by show cond (D.c3.length == 0) _ _ = _; cases (D.c3.length == 0) <;> rfl)).trans ?_
  refine (bind_of (onC D.c3) (by show cond (decide (D.c3.start > 0)) _ _ = _; unfold onC; cases (decide (D.c3.start > 0)) <;> rfl)).trans ?_
  show (f_cycles _ _ _ _ _ _ _ _ _ _ _ _ _ _ _ _ _ _ _ _ _ _ _ _ _ _ _ _ _ _ _ _ _ _ _ _ _ _ _ _ _ _ _ _ _ _ _ _ _ _ _ _ _ _ _ _ _ _ _ _ _ _ _ _ _ _ _ _ _ _ _ _ _ _ _ _ _ _ _ _ _ _ _ _ _ _ _ _ _ _ _ _ _ _ _ _ _ _ _ _ _ _ _ _ _ _ 3).bind _ = _
  rw [cyc_3 hd hs]
  rfl
theorem rbeg0 (U : US) {D : PS} (hU : U.ps = D) (hf : 0 ≤ D.c0.freq ∧ D.c0.freq < 2048) : k_rbegin U 0 = some (r_rbegin { U with ps := { D with c0 := begC (cyc0 D.c0) 64 (onC D.c0) D.c0 } }) := by
  subst hU
  obtain ⟨u0, u1, u2, u3, u4, u5, u6, u7, u8, u9, u10, u11, u12, D⟩ := U
  unfold k_rbegin rA f_rbegin
  refine (bind_of (cond (D.c0.length == 0) 64 D.c0.length) (by show cond (D.c0.length == 0) _ _ = _; cases (D.c0.length == 0) <;> rfl)).trans ?_
  refine (bind_of (onC D.c0) (by show cond (decide (D.c0.start > 0)) _ _ = _; unfold onC; cases (decide (D.c0.start > 0)) <;> rfl)).trans ?_
  rw [cne (a := (0 : Int)) (b := 2) (by decide)]
  show (f_rcyc _ _ _ _ _ _ _ _ _ _ _ _ _ _ _ _ _ _ _ _ _ _ _ _ _ _ _ _ _ _ _ _ _ _ _ _ _ _ _ _ _ _ _ _ _ _ _ _ _ _ _ _ _ _ _ _ _ _ _ _ _ _ _ _ _ _ _ _ _ _ _ _ _ _ _ _ _ _ _ _ _ _ _ _ _ _ _ _ _ _ _ _ _ _ _ _ _ _ _ _ _ _ _ _ _ _ _ _ _ _ _ _ _ _ _ _ 0).bind _ = _
  rw [rcyc_0, freq16 (f := D.c0.freq) hf]
  rfl
theorem rbeg1 (U : US) {D : PS} (hU : U.ps = D) (hf : 0 ≤ D.c1.freq ∧ D.c1.freq < 2048) : k_rbegin U 1 = some (r_rbegin { U with ps := { D with c1 := begC (cyc0 D.c1) 64 (onC D.c1) D.c1 } }) := by
  subst hU
  obtain ⟨u0, u1, u2, u3, u4, u5, u6, u7, u8, u9, u10, u11, u12, D⟩ := U
  unfold k_rbegin rA f_rbegin
  refine (bind_of (cond (D.c1.length == 0) 64 D.c1.length) (by show cond (D.c1.length == 0) _ _ = _; cases (D.c1.length == 0) <;> rfl)).trans ?_
  refine (bind_of (onC D.c1) (by show cond (decide (D.c1.start > 0)) _ _ = _; unfold onC; cases (decide (D.c1.start > 0)) <;> rfl)).trans ?_
  rw [cne (a := (1 : Int)) (b := 2) (by decide)]
  show (f_rcyc _ _ _ _ _ _ _ _ _ _ _ _ _ _ _ _ _ _ _ _ _ _ _ _ _ _ _ _ _ _ _ _ _ _ _ _ _ _ _ _ _ _ _ _ _ _ _ _ _ _ _ _ _ _ _ _ _ _ _ _ _ _ _ _ _ _ _ _ _ _ _ _ _ _ _ _ _ _ _ _ _ _ _ _ _ _ _ _ _ _ _ _ _ _ _ _ _ _ _ _ _ _ _ _ _ _ _ _ _ _ _ _ _ _ _ _ 1).bind _ = _
  rw [rcyc_1, freq16 (f := D.c1.freq) hf]
  rfl
theorem rbeg2 (U : US) {D : PS} (hU : U.ps = D) (hf : 0 ≤ D.c2.freq ∧ D.c2.freq < 2048) : k_rbegin U 2 = some (r_rbegin { U with ps := { D with c2 := begC (cyc2 D.c2) 256 (D.dac) D.c2 } }) := by
  subst hU
  obtain ⟨u0, u1, u2, u3, u4, u5, u6, u7, u8, u9, u10, u11, u12, D⟩ := U
  unfold k_rbegin rA f_rbegin
  refine (bind_of (cond (D.c2.length == 0) 256 D.c2.length) (by show cond (D.c2.length == 0) _ _ = _; cases (D.c2.length == 0) <;> rfl)).trans ?_
  refine (bind_of (onC D.c2) (by show cond (decide (D.c2.start > 0)) _ _ = _; unfold onC; cases (decide (D.c2.start > 0)) <;> rfl)).trans ?_
  rw [ceq (a := (2 : Int)) (b := 2) rfl]
  show (f_rcyc _ _ _ _ _ _ _ _ _ _ _ _ _ _ _ _ _ _ _ _ _ _ _ _ _ _ _ _ _ _ _ _ _ _ _ _ _ _ _ _ _ _ _ _ _ _ _ _ _ _ _ _ _ _ _ _ _ _ _ _ _ _ _ _ _ _ _ _ _ _ _ _ _ _ _ _ _ _ _ _ _ _ _ _ _ _ _ _ _ _ _ _ _ _ _ _ _ _ _ _ _ _ _ _ _ _ _ _ _ _ _ _ _ _ _ _ 2).bind _ = _
  rw [rcyc_2, freq8 (f := D.c2.freq) hf]
  rfl
theorem rbeg3 (U : US) {D : PS} (hU : U.ps = D) (hd : 0 ≤ D.div ∧ D.div < 8) (hs : 0 ≤ D.shift ∧ D.shift < 16) : k_rbegin U 3 = some (r_rbegin { U with ps := { D with c3 := begC (cyc3 D.shift D.div) 64 (onC D.c3) D.c3 } }) := by
  subst hU
  obtain ⟨u0, u1, u2, u3, u4, u5, u6, u7, u8, u9, u10, u11, u12, D⟩ := U
  unfold k_rbegin rA f_rbegin
  refine (bind_of (cond (D.c3.length == 0) 64 D.c3.length) (by show cond (D.c3.length == 0) _ _ = _; cases (D.c3.length == 0) <;> rfl)).trans ?_
  refine (bind_of (onC D.c3) (by show cond (decide (D.c3.start > 0)) _ _ = _; unfold onC; cases (decide (D.c3.start > 0)) <;> rfl)).trans ?_
  rw [cne (a := (3 : Int)) (b := 2) (by decide)]
  show (f_rcyc _ _ _ _ _ _ _ _ _ _ _ _ _ _ _ _ _ _ _ _ _ _ _ _ _ _ _ _ _ _ _ _ _ _ _ _ _ _ _ _ _ _ _ _ _ _ _ _ _ _ _ _ _ _ _ _ _ _ _ _ _ _ _ _ _ _ _ _ _ _ _ _ _ _ _ _ _ _ _ _ _ _ _ _ _ _ _ _ _ _ _ _ _ _ _ _ _ _ _ _ _ _ _ _ _ _ _ _ _ _ _ _ _ _ _ _ 3).bind _ = _
  rw [rcyc_3 (xv := D.shift) (xw := D.div) hd hs]
  rfl
end Go.Proofs.Ytccmpceifheejaa
