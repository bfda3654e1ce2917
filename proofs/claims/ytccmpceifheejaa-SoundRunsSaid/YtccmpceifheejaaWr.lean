/-
  The document writes to a register of the channels.
-/
import Derived.Test.YtccmpceifheejaaWp
namespace Go.Proofs.Ytccmpceifheejaa
open Go.Vc
set_option linter.unusedVariables false
set_option linter.unusedSimpArgs false
set_option maxHeartbeats 4000000
theorem rrun_here (U : US) {S : PS} (hU : U.ps = S) (h : TOk S) : k_rpRun U S.now = some (r_rpRun U) := by
  have := rpRun_eq U hU h.g h.n0 h.n1 h.n1
  rw [show (S.now - S.now).toNat = 0 by omega] at this
  subst hU
  exact this
theorem rW0 {u0 : List Int} {u1 : Int} {u2 : List Int} {u3 u4 u5 : Int} {u6 : Bool} {u7 : Int} {u8 : List E38} {u9 u10 : Int} {u11 u12 : List Int} {S : PS} (h : TOk S) {x : Int} (hx : 0 ≤ x ∧ x < 65536) : k_rpWrite ⟨u0, u1, u2, u3, u4, u5, u6, u7, u8, u9, u10, u11, u12, S⟩ S.now 0 x = some (r_rpWrite ⟨u0, u1, u2, u3, u4, u5, u6, u7, u8, u9, u10, u11, u12, wr0 S x⟩) := by
  unfold k_rpWrite rA f_rpWrite
  refine (bind_of (r_rpRun ⟨u0, u1, u2, u3, u4, u5, u6, u7, u8, u9, u10, u11, u12, S⟩) (rrun_here ⟨u0, u1, u2, u3, u4, u5, u6, u7, u8, u9, u10, u11, u12, S⟩ rfl h)).trans ?_
  show (f_rbits x 15 1).bind _ = _
  rw [rb15_1 hx, bind_some', rb14_1 hx, bind_some']
  rw [ceq (a := (0 : Int)) (b := 0) rfl]
  rw [cand (by decide) (by decide)]
  rw [rb0_3 hx, bind_some', rb3_1 hx, bind_some', rb4_3 hx, bind_some']
  rfl
theorem rW1 {u0 : List Int} {u1 : Int} {u2 : List Int} {u3 u4 u5 : Int} {u6 : Bool} {u7 : Int} {u8 : List E38} {u9 u10 : Int} {u11 u12 : List Int} {S : PS} (h : TOk S) {x : Int} (hx : 0 ≤ x ∧ x < 65536) : k_rpWrite ⟨u0, u1, u2, u3, u4, u5, u6, u7, u8, u9, u10, u11, u12, S⟩ S.now 1 x = some (r_rpWrite ⟨u0, u1, u2, u3, u4, u5, u6, u7, u8, u9, u10, u11, u12, wr1 S x⟩) := by
  unfold k_rpWrite rA f_rpWrite
  refine (bind_of (r_rpRun ⟨u0, u1, u2, u3, u4, u5, u6, u7, u8, u9, u10, u11, u12, S⟩) (rrun_here ⟨u0, u1, u2, u3, u4, u5, u6, u7, u8, u9, u10, u11, u12, S⟩ rfl h)).trans ?_
  show (f_rbits x 15 1).bind _ = _
  rw [rb15_1 hx, bind_some', rb14_1 hx, bind_some']
  rw [cne (a := (1 : Int)) (b := 0) (by decide)]
  refine (bind_of true rfl).trans ?_
  rw [ctrue rfl]
  rw [cand (by decide) (by decide)]
  rw [ceq (a := IntKind.wrap .i64 (Int.tdiv 1 2)) (b := 0) rfl]
  rw [rb0_6 hx, bind_some', rb6_2 hx, bind_some', rb8_3 hx, bind_some', rb11_1 hx, bind_some', rb12_4 hx, bind_some']
  unfold wr1 dutyC
  rw [wl64 hx]
  cases (x / 4096 == 0) <;> cases (x / 2048 % 2 == 1) <;> rfl
theorem rW3 {u0 : List Int} {u1 : Int} {u2 : List Int} {u3 u4 u5 : Int} {u6 : Bool} {u7 : Int} {u8 : List E38} {u9 u10 : Int} {u11 u12 : List Int} {S : PS} (h : TOk S) {x : Int} (hx : 0 ≤ x ∧ x < 65536) : k_rpWrite ⟨u0, u1, u2, u3, u4, u5, u6, u7, u8, u9, u10, u11, u12, S⟩ S.now 3 x = some (r_rpWrite ⟨u0, u1, u2, u3, u4, u5, u6, u7, u8, u9, u10, u11, u12, wr3 S x⟩) := by
  unfold k_rpWrite rA f_rpWrite
  refine (bind_of (r_rpRun ⟨u0, u1, u2, u3, u4, u5, u6, u7, u8, u9, u10, u11, u12, S⟩) (rrun_here ⟨u0, u1, u2, u3, u4, u5, u6, u7, u8, u9, u10, u11, u12, S⟩ rfl h)).trans ?_
  show (f_rbits x 15 1).bind _ = _
  rw [rb15_1 hx, bind_some', rb14_1 hx, bind_some']
  rw [cne (a := (3 : Int)) (b := 0) (by decide)]
  refine (bind_of true rfl).trans ?_
  rw [ctrue rfl]
  rw [cand (by decide) (by decide)]
  rw [cne (a := IntKind.wrap .i64 (Int.tdiv 3 2)) (b := 0) (by decide), ceq (a := IntKind.wrap .i64 (Int.tdiv 3 2)) (b := 1) rfl]
  rw [rb0_6 hx, bind_some', rb6_2 hx, bind_some', rb8_3 hx, bind_some', rb11_1 hx, bind_some', rb12_4 hx, bind_some']
  unfold wr3 dutyC
  rw [wl64 hx]
  cases (x / 4096 == 0) <;> cases (x / 2048 % 2 == 1) <;> rfl
theorem rW7 {u0 : List Int} {u1 : Int} {u2 : List Int} {u3 u4 u5 : Int} {u6 : Bool} {u7 : Int} {u8 : List E38} {u9 u10 : Int} {u11 u12 : List Int} {S : PS} (h : TOk S) {x : Int} (hx : 0 ≤ x ∧ x < 65536) : k_rpWrite ⟨u0, u1, u2, u3, u4, u5, u6, u7, u8, u9, u10, u11, u12, S⟩ S.now 7 x = some (r_rpWrite ⟨u0, u1, u2, u3, u4, u5, u6, u7, u8, u9, u10, u11, u12, wr7 S x⟩) := by
  unfold k_rpWrite rA f_rpWrite
  refine (bind_of (r_rpRun ⟨u0, u1, u2, u3, u4, u5, u6, u7, u8, u9, u10, u11, u12, S⟩) (rrun_here ⟨u0, u1, u2, u3, u4, u5, u6, u7, u8, u9, u10, u11, u12, S⟩ rfl h)).trans ?_
  show (f_rbits x 15 1).bind _ = _
  rw [rb15_1 hx, bind_some', rb14_1 hx, bind_some']
  rw [cne (a := (7 : Int)) (b := 0) (by decide)]
  refine (bind_of true rfl).trans ?_
  rw [ctrue rfl]
  rw [cand (by decide) (by decide)]
  rw [cne (a := IntKind.wrap .i64 (Int.tdiv 7 2)) (b := 0) (by decide), cne (a := IntKind.wrap .i64 (Int.tdiv 7 2)) (b := 1) (by decide), cne (a := IntKind.wrap .i64 (Int.tdiv 7 2)) (b := 2) (by decide)]
  rw [rb0_6 hx, bind_some', rb6_2 hx, bind_some', rb8_3 hx, bind_some', rb11_1 hx, bind_some', rb12_4 hx, bind_some']
  unfold wr7 dutyC
  rw [wl64 hx]
  cases (x / 4096 == 0) <;> cases (x / 2048 % 2 == 1) <;> rfl
theorem rW2 {u0 : List Int} {u1 : Int} {u2 : List Int} {u3 u4 u5 : Int} {u6 : Bool} {u7 : Int} {u8 : List E38} {u9 u10 : Int} {u11 u12 : List Int} {S : PS} (h : TOk S) {x : Int} (hx : 0 ≤ x ∧ x < 65536) : k_rpWrite ⟨u0, u1, u2, u3, u4, u5, u6, u7, u8, u9, u10, u11, u12, S⟩ S.now 2 x = some (r_rpWrite ⟨u0, u1, u2, u3, u4, u5, u6, u7, u8, u9, u10, u11, u12, wr2 S x⟩) := by
  unfold k_rpWrite rA f_rpWrite
  refine (bind_of (r_rpRun ⟨u0, u1, u2, u3, u4, u5, u6, u7, u8, u9, u10, u11, u12, S⟩) (rrun_here ⟨u0, u1, u2, u3, u4, u5, u6, u7, u8, u9, u10, u11, u12, S⟩ rfl h)).trans ?_
  show (f_rbits x 15 1).bind _ = _
  rw [rb15_1 hx, bind_some', rb14_1 hx, bind_some']
  rw [cne (a := (2 : Int)) (b := 0) (by decide)]
  refine (bind_of false rfl).trans ?_
  rw [cfalse rfl]
  refine (bind_of true rfl).trans ?_
  rw [ctrue rfl]
  rw [cand (by decide) (by decide)]
  rw [rb0_11 hx, bind_some']
  show cond (x / 32768 == 1) ((k_rbegin ⟨u0, u1, u2, u3, u4, u5, u6, u7, u8, u9, u10, u11, u12, { S with c0 := freqC x S.c0 }⟩ 0).bind _) (some _) = _
  have hb := rbeg0 ⟨u0, u1, u2, u3, u4, u5, u6, u7, u8, u9, u10, u11, u12, { S with c0 := freqC x S.c0 }⟩ rfl (by show 0 ≤ x % 2048 ∧ x % 2048 < 2048; omega)
  unfold wr2
  cases (x / 32768 == 1)
  · rfl
  · refine (congrArg (fun z => Option.bind z _) hb).trans ?_
    rfl
theorem rW4 {u0 : List Int} {u1 : Int} {u2 : List Int} {u3 u4 u5 : Int} {u6 : Bool} {u7 : Int} {u8 : List E38} {u9 u10 : Int} {u11 u12 : List Int} {S : PS} (h : TOk S) {x : Int} (hx : 0 ≤ x ∧ x < 65536) : k_rpWrite ⟨u0, u1, u2, u3, u4, u5, u6, u7, u8, u9, u10, u11, u12, S⟩ S.now 4 x = some (r_rpWrite ⟨u0, u1, u2, u3, u4, u5, u6, u7, u8, u9, u10, u11, u12, wr4 S x⟩) := by
  unfold k_rpWrite rA f_rpWrite
  refine (bind_of (r_rpRun ⟨u0, u1, u2, u3, u4, u5, u6, u7, u8, u9, u10, u11, u12, S⟩) (rrun_here ⟨u0, u1, u2, u3, u4, u5, u6, u7, u8, u9, u10, u11, u12, S⟩ rfl h)).trans ?_
  show (f_rbits x 15 1).bind _ = _
  rw [rb15_1 hx, bind_some', rb14_1 hx, bind_some']
  rw [cne (a := (4 : Int)) (b := 0) (by decide)]
  refine (bind_of false rfl).trans ?_
  rw [cfalse rfl]
  refine (bind_of true rfl).trans ?_
  rw [ctrue rfl]
  rw [cand (by decide) (by decide)]
  rw [rb0_11 hx, bind_some']
  show cond (x / 32768 == 1) ((k_rbegin ⟨u0, u1, u2, u3, u4, u5, u6, u7, u8, u9, u10, u11, u12, { S with c1 := freqC x S.c1 }⟩ 1).bind _) (some _) = _
  have hb := rbeg1 ⟨u0, u1, u2, u3, u4, u5, u6, u7, u8, u9, u10, u11, u12, { S with c1 := freqC x S.c1 }⟩ rfl (by show 0 ≤ x % 2048 ∧ x % 2048 < 2048; omega)
  unfold wr4
  cases (x / 32768 == 1)
  · rfl
  · refine (congrArg (fun z => Option.bind z _) hb).trans ?_
    rfl
theorem rW9 {u0 : List Int} {u1 : Int} {u2 : List Int} {u3 u4 u5 : Int} {u6 : Bool} {u7 : Int} {u8 : List E38} {u9 u10 : Int} {u11 u12 : List Int} {S : PS} (h : TOk S) {x : Int} (hx : 0 ≤ x ∧ x < 65536) : k_rpWrite ⟨u0, u1, u2, u3, u4, u5, u6, u7, u8, u9, u10, u11, u12, S⟩ S.now 9 x = some (r_rpWrite ⟨u0, u1, u2, u3, u4, u5, u6, u7, u8, u9, u10, u11, u12, wr9 S x⟩) := by
  unfold k_rpWrite rA f_rpWrite
  refine (bind_of (r_rpRun ⟨u0, u1, u2, u3, u4, u5, u6, u7, u8, u9, u10, u11, u12, S⟩) (rrun_here ⟨u0, u1, u2, u3, u4, u5, u6, u7, u8, u9, u10, u11, u12, S⟩ rfl h)).trans ?_
  show (f_rbits x 15 1).bind _ = _
  rw [rb15_1 hx, bind_some', rb14_1 hx, bind_some']
  rw [cne (a := (9 : Int)) (b := 0) (by decide)]
  refine (bind_of false rfl).trans ?_
  rw [cfalse rfl]
  refine (bind_of true rfl).trans ?_
  rw [ctrue rfl]
  rw [cand (by decide) (by decide)]
  rw [rb0_11 hx, bind_some']
  show cond (x / 32768 == 1) ((k_rbegin ⟨u0, u1, u2, u3, u4, u5, u6, u7, u8, u9, u10, u11, u12, { S with c2 := freqC x S.c2 }⟩ 2).bind _) (some _) = _
  have hb := rbeg2 ⟨u0, u1, u2, u3, u4, u5, u6, u7, u8, u9, u10, u11, u12, { S with c2 := freqC x S.c2 }⟩ rfl (by show 0 ≤ x % 2048 ∧ x % 2048 < 2048; omega)
  unfold wr9
  cases (x / 32768 == 1)
  · rfl
  · refine (congrArg (fun z => Option.bind z _) hb).trans ?_
    rfl
theorem rW5 {u0 : List Int} {u1 : Int} {u2 : List Int} {u3 u4 u5 : Int} {u6 : Bool} {u7 : Int} {u8 : List E38} {u9 u10 : Int} {u11 u12 : List Int} {S : PS} (h : TOk S) {x : Int} (hx : 0 ≤ x ∧ x < 65536) : k_rpWrite ⟨u0, u1, u2, u3, u4, u5, u6, u7, u8, u9, u10, u11, u12, S⟩ S.now 5 x = some (r_rpWrite ⟨u0, u1, u2, u3, u4, u5, u6, u7, u8, u9, u10, u11, u12, wr5 S x⟩) := by
  unfold k_rpWrite rA f_rpWrite
  refine (bind_of (r_rpRun ⟨u0, u1, u2, u3, u4, u5, u6, u7, u8, u9, u10, u11, u12, S⟩) (rrun_here ⟨u0, u1, u2, u3, u4, u5, u6, u7, u8, u9, u10, u11, u12, S⟩ rfl h)).trans ?_
  show (f_rbits x 15 1).bind _ = _
  rw [rb15_1 hx, bind_some', rb14_1 hx, bind_some']
  rw [cne (a := (5 : Int)) (b := 0) (by decide)]
  refine (bind_of false rfl).trans ?_
  rw [cfalse rfl]
  refine (bind_of false rfl).trans ?_
  rw [cfalse rfl]
  rw [ceq (a := (5 : Int)) (b := 5) rfl]
  rw [rb5_1 hx, bind_some', rb6_1 hx, bind_some', rb7_1 hx, bind_some', rb8_8 hx, bind_some', wl256 hx]
  unfold wr5
  cases (x / 128 % 2 == 1) <;> rfl
theorem rW6 {u0 : List Int} {u1 : Int} {u2 : List Int} {u3 u4 u5 : Int} {u6 : Bool} {u7 : Int} {u8 : List E38} {u9 u10 : Int} {u11 u12 : List Int} {S : PS} (h : TOk S) {x : Int} (hx : 0 ≤ x ∧ x < 65536) : k_rpWrite ⟨u0, u1, u2, u3, u4, u5, u6, u7, u8, u9, u10, u11, u12, S⟩ S.now 6 x = some (r_rpWrite ⟨u0, u1, u2, u3, u4, u5, u6, u7, u8, u9, u10, u11, u12, wr6 S x⟩) := by
  unfold k_rpWrite rA f_rpWrite
  refine (bind_of (r_rpRun ⟨u0, u1, u2, u3, u4, u5, u6, u7, u8, u9, u10, u11, u12, S⟩) (rrun_here ⟨u0, u1, u2, u3, u4, u5, u6, u7, u8, u9, u10, u11, u12, S⟩ rfl h)).trans ?_
  show (f_rbits x 15 1).bind _ = _
  rw [rb15_1 hx, bind_some', rb14_1 hx, bind_some']
  rw [cne (a := (6 : Int)) (b := 0) (by decide)]
  refine (bind_of false rfl).trans ?_
  rw [cfalse rfl]
  refine (bind_of false rfl).trans ?_
  rw [cfalse rfl]
  rw [cne (a := (6 : Int)) (b := 5) (by decide)]
  rw [ceq (a := (6 : Int)) (b := 6) rfl]
  rw [rb13_3 hx, bind_some']
  rfl
theorem rW8 {u0 : List Int} {u1 : Int} {u2 : List Int} {u3 u4 u5 : Int} {u6 : Bool} {u7 : Int} {u8 : List E38} {u9 u10 : Int} {u11 u12 : List Int} {S : PS} (h : TOk S) {x : Int} (hx : 0 ≤ x ∧ x < 65536) : k_rpWrite ⟨u0, u1, u2, u3, u4, u5, u6, u7, u8, u9, u10, u11, u12, S⟩ S.now 8 x = some (r_rpWrite ⟨u0, u1, u2, u3, u4, u5, u6, u7, u8, u9, u10, u11, u12, wr8 S x⟩) := by
  unfold k_rpWrite rA f_rpWrite
  refine (bind_of (r_rpRun ⟨u0, u1, u2, u3, u4, u5, u6, u7, u8, u9, u10, u11, u12, S⟩) (rrun_here ⟨u0, u1, u2, u3, u4, u5, u6, u7, u8, u9, u10, u11, u12, S⟩ rfl h)).trans ?_
  show (f_rbits x 15 1).bind _ = _
  rw [rb15_1 hx, bind_some', rb14_1 hx, bind_some']
  rw [cne (a := (8 : Int)) (b := 0) (by decide)]
  refine (bind_of false rfl).trans ?_
  rw [cfalse rfl]
  refine (bind_of false rfl).trans ?_
  rw [cfalse rfl]
  rw [cne (a := (8 : Int)) (b := 5) (by decide)]
  rw [cne (a := (8 : Int)) (b := 6) (by decide)]
  rw [ceq (a := (8 : Int)) (b := 8) rfl]
  rw [rb0_3 hx, bind_some', rb3_1 hx, bind_some', rb4_4 hx, bind_some']
  show cond (x / 32768 == 1) ((k_rbegin ⟨u0, u1, u2, u3, u4, u5, u6, u7, u8, u9, u10, u11, u12, { S with div := x % 8, narrow := x / 8 % 2 == 1, shift := x / 16 % 16, c3 := { S.c3 with ul := x / 16384 % 2 == 1 } }⟩ 3).bind _) (some _) = _
  have hb := rbeg3 ⟨u0, u1, u2, u3, u4, u5, u6, u7, u8, u9, u10, u11, u12, { S with div := x % 8, narrow := x / 8 % 2 == 1, shift := x / 16 % 16, c3 := { S.c3 with ul := x / 16384 % 2 == 1 } }⟩ rfl (by show 0 ≤ x % 8 ∧ x % 8 < 8; omega) (by show 0 ≤ x / 16 % 16 ∧ x / 16 % 16 < 16; omega)
  unfold wr8
  cases (x / 32768 == 1)
  · rfl
  · refine (congrArg (fun z => Option.bind z _) hb).trans ?_
    rfl
theorem rW_else {u0 : List Int} {u1 : Int} {u2 : List Int} {u3 u4 u5 : Int} {u6 : Bool} {u7 : Int} {u8 : List E38} {u9 u10 : Int} {u11 u12 : List Int} {S : PS} (h : TOk S) {r x : Int} (hr : ¬ (0 ≤ r ∧ r ≤ 9)) (hx : 0 ≤ x ∧ x < 65536) : k_rpWrite ⟨u0, u1, u2, u3, u4, u5, u6, u7, u8, u9, u10, u11, u12, S⟩ S.now r x = some (r_rpWrite ⟨u0, u1, u2, u3, u4, u5, u6, u7, u8, u9, u10, u11, u12, S⟩) := by
  unfold k_rpWrite rA f_rpWrite
  refine (bind_of (r_rpRun ⟨u0, u1, u2, u3, u4, u5, u6, u7, u8, u9, u10, u11, u12, S⟩) (rrun_here ⟨u0, u1, u2, u3, u4, u5, u6, u7, u8, u9, u10, u11, u12, S⟩ rfl h)).trans ?_
  show (f_rbits x 15 1).bind _ = _
  rw [rb15_1 hx, bind_some', rb14_1 hx, bind_some']
  show cond (r == 0) _ _ = _
  rw [cne (by omega)]
  refine (bind_of false (by rw [cne (by omega), cne (by omega), show (r == 7) = false from beq_eq_false_iff_ne.2 (by omega)])).trans ?_
  rw [cfalse rfl]
  refine (bind_of false (by rw [cne (by omega), cne (by omega), show (r == 9) = false from beq_eq_false_iff_ne.2 (by omega)])).trans ?_
  rw [cfalse rfl, cne (by omega), cne (by omega), cne (by omega)]
theorem rpWrite_eq (U : US) {S : PS} (hU : U.ps = S) (h : TOk S) {r x : Int} (hx : 0 ≤ x ∧ x < 65536) : k_rpWrite U S.now r x = some (r_rpWrite { U with ps := writeA S r x }) := by
  subst hU
  obtain ⟨u0, u1, u2, u3, u4, u5, u6, u7, u8, u9, u10, u11, u12, S⟩ := U
  by_cases hr : 0 ≤ r ∧ r ≤ 9
  · obtain rfl | rfl | rfl | rfl | rfl | rfl | rfl | rfl | rfl | rfl : r = 0 ∨ r = 1 ∨ r = 2 ∨ r = 3 ∨ r = 4 ∨ r = 5 ∨ r = 6 ∨ r = 7 ∨ r = 8 ∨ r = 9 := by omega
    · exact rW0 h hx
    · exact rW1 h hx
    · exact rW2 h hx
    · exact rW3 h hx
    · exact rW4 h hx
    · exact rW5 h hx
    · exact rW6 h hx
    · exact rW7 h hx
    · exact rW8 h hx
    · exact rW9 h hx
  · have e : writeA S r x = S := by
      unfold writeA
      rw [if_neg (by omega), if_neg (by omega), if_neg (by omega), if_neg (by omega), if_neg (by omega), if_neg (by omega), if_neg (by omega), if_neg (by omega), if_neg (by omega), if_neg (by omega)]
    show _ = some (r_rpWrite ⟨u0, u1, u2, u3, u4, u5, u6, u7, u8, u9, u10, u11, u12, writeA S r x⟩)
    rw [e]
    exact rW_else h hr hx
end Go.Proofs.Ytccmpceifheejaa
