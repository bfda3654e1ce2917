/-
  What a unit keeps while it runs; to write, to read and to take, of both units.
-/
import Derived.Test.YtccmpceifheejaaRu
namespace Go.Proofs.Ytccmpceifheejaa
open Go.Vc
set_option linter.unusedVariables false
set_option linter.unusedSimpArgs false
set_option maxHeartbeats 4000000
def ku (U : US) := (U.w0, U.n0, U.w1, U.n1, U.mix, U.dir, U.ma, U.bias, U.s0, U.s1, konst U.ps)
theorem ku_smp {U : US} : ku (smp U) = ku U := by
  show (U.w0, U.n0, U.w1, U.n1, U.mix, U.dir, U.ma, U.bias, U.s0, U.s1, konst (runN _ _)) = _
  rw [konst_runN]; rfl
theorem ku_smpN : ∀ (n : Nat) (U : US), ku (smpN n U) = ku U
  | 0, _ => rfl
  | n + 1, U => (ku_smpN n (smp U)).trans ku_smp
theorem ku_runU {U : US} {q : Int} : ku (runU U q) = ku U := by
  have h := ku_smpN ((q - U.nx) / 512 + 1).toNat U
  unfold runU
  simp only
  generalize smpN ((q - U.nx) / 512 + 1).toNat U = V at h ⊢
  rw [← h]
  show (V.w0, V.n0, V.w1, V.n1, V.mix, V.dir, V.ma, V.bias, V.s0, V.s1, konst (runN _ _)) = _
  rw [konst_runN]; rfl
theorem keeps_of {U W : US} (h : ku W = ku U) : keeps U W = W := by
  obtain ⟨a0, a1, a2, a3, a4, a5, a6, a7, a8, a9, a10, a11, a12, a13⟩ := W
  simp only [ku, Prod.mk.injEq] at h
  obtain ⟨h1, h2, h3, h4, h5, h6, h7, h8, h9, h10, h11⟩ := h
  unfold keeps
  rw [mix_of h11]
  simp only [← h1, ← h2, ← h3, ← h4, ← h5, ← h6, ← h7, ← h8, ← h9, ← h10]
theorem keeps_runU (U : US) (q : Int) : keeps U (runU U q) = runU U q := keeps_of ku_runU
theorem smpN_nx : ∀ (n : Nat) (U : US), (smpN n U).nx = U.nx + 512 * n
  | 0, U => by show U.nx = _; omega
  | n + 1, U => by
    show (smpN n (smp U)).nx = _
    rw [smpN_nx n (smp U)]
    show U.nx + 512 + 512 * (n : Int) = _
    omega
theorem smpN_now : ∀ (n : Nat) (U : US), U.ps.now ≤ U.nx → (smpN (n + 1) U).ps.now = U.nx + 512 * n
  | 0, U, h => by
    show (runN _ _).now = _
    rw [runN_now]; omega
  | n + 1, U, h => by
    show (smpN (n + 1) (smp U)).ps.now = _
    rw [smpN_now n (smp U) (by show (runN _ _).now ≤ U.nx + 512; rw [runN_now]; omega)]
    show U.nx + 512 + 512 * (n : Int) = _
    omega
theorem smpN_good : ∀ (n : Nat) (U : US), Good U → U.nx + 512 * n ≤ 1900000512 → Good (smpN n U)
  | 0, _, h, _ => h
  | n + 1, U, h, hn => smpN_good n (smp U) (smp_good h (by omega)) (by show U.nx + 512 + 512 * (n : Int) ≤ _; omega)
theorem runU_good {U : US} (h : Good U) {q : Int} (h0 : U.ps.now ≤ q) (h1 : q ≤ 1900000000) : Good (runU U q) ∧ (runU U q).ps.now = q := by
  have e1 := smpN_nx ((q - U.nx) / 512 + 1).toNat U
  have e2 := smpN_good ((q - U.nx) / 512 + 1).toNat U h (by have := h.nx; have := h.n0; omega)
  unfold runU
  simp only
  have hnw : ∀ m : Nat, ((q - U.nx) / 512 + 1).toNat = m + 1 → (smpN ((q - U.nx) / 512 + 1).toNat U).ps.now = U.nx + 512 * m := fun m z => by
    rw [z]; exact smpN_now m U (by have := h.nx; omega)
  have hz : ((q - U.nx) / 512 + 1).toNat = 0 → smpN ((q - U.nx) / 512 + 1).toNat U = U := fun z => by rw [z]; rfl
  generalize smpN ((q - U.nx) / 512 + 1).toNat U = V at e1 e2 hz hnw ⊢
  have f1 := e2.nx; have f2 := e2.n0; have f3 := e2.out
  have hq : V.ps.now ≤ q ∧ q < V.nx := by
    by_cases z : ((q - U.nx) / 512 + 1).toNat = 0
    · rw [hz z] at *
      omega
    · obtain ⟨m, hm⟩ : ∃ m, ((q - U.nx) / 512 + 1).toNat = m + 1 := ⟨((q - U.nx) / 512 + 1).toNat - 1, by omega⟩
      have := hnw m hm
      omega
  have en : (runN (q - V.ps.now).toNat V.ps).now = q := by rw [runN_now]; omega
  refine ⟨⟨?_, ?_, ?_, ?_, ?_, ?_⟩, en⟩
  · exact ⟨runN_gok e2.u.g _, pok_runN e2.u.p _, e2.u.m, e2.u.d, e2.u.b, e2.u.a0, e2.u.a1⟩
  · show 0 ≤ (runN _ _).now; rw [en]; omega
  · show (runN _ _).now ≤ _; rw [en]; exact h1
  · show V.nx = ((runN _ _).now / 512 + 1) * 512; rw [en]; omega
  · show q = (runN _ _).now; rw [en]
  · show (V.out.length : Int) ≤ (runN _ _).now / 512; rw [en]; omega
def wU (V : US) (r x : Int) : US :=
  if r = 0 then { V with mix := bits .and .u16 x 65399 }
  else if r = 1 then { V with dir := bits .and .u16 x 30479, w0 := cond (btm x 11) [] V.w0, s0 := cond (btm x 11) [] V.s0, n0 := cond (btm x 11) 0 V.n0, w1 := cond (btm x 15) [] V.w1, s1 := cond (btm x 15) [] V.s1, n1 := cond (btm x 15) 0 V.n1 }
  else if r = 2 then { V with ma := btm x 7 }
  else if r = 3 then { V with bias := bits .and .u16 x 1022 } else V
theorem u16_range (k m : Int) : 0 ≤ bits .and .u16 k m ∧ bits .and .u16 k m < 65536 := by
  show 0 ≤ IntKind.wrap .u16 ((BitVec.ofInt 16 k &&& BitVec.ofInt 16 m).toNat : Int) ∧ IntKind.wrap .u16 ((BitVec.ofInt 16 k &&& BitVec.ofInt 16 m).toNat : Int) < 65536
  have := (BitVec.ofInt 16 k &&& BitVec.ofInt 16 m).isLt
  generalize (BitVec.ofInt 16 k &&& BitVec.ofInt 16 m).toNat = z at this ⊢
  have e : IntKind.wrap .u16 (z : Int) = (z : Int) := by
    have e1 : (2 : Int) ^ 16 = 65536 := by decide
    simp only [IntKind.wrap, IntKind.bits, IntKind.signed, e1, Bool.false_and]
    simp
    omega
  rw [e]; omega
theorem bias_range {x : Int} (hx : 0 ≤ x ∧ x < 65536) : 0 ≤ bits .and .u16 x 1022 ∧ bits .and .u16 x 1022 ≤ 1023 := by
  refine ⟨(u16_range _ _).1, ?_⟩
  obtain ⟨A, rfl⟩ := Int.eq_ofNat_of_zero_le hx.1
  have := u16_and_nat A 1022 (by omega) (by omega)
  have e : bits .and .u16 (A : Int) 1022 = ((A &&& 1022 : Nat) : Int) := this
  rw [e]
  have : A &&& 1022 ≤ 1022 := Nat.and_le_right
  omega
theorem Write_eq {U : US} (h : Good U) {q : Int} (h0 : U.ps.now ≤ q) (h1 : q ≤ 1900000000) {r x : Int} (hx : 0 ≤ x ∧ x < 65536) : k_Write U q r x = some (r_Write (wU (runU U q) r x)) := by
  unfold k_Write uA f_Write
  refine (bind_of _ (Run_eq h h0 h1)).trans ?_
  rw [← keeps_runU U q]
  generalize runU U q = W
  show cond (r == 0) _ _ = _
  unfold wU
  by_cases r0 : r = 0
  · rw [ceq r0, if_pos r0]; rfl
  rw [cne r0, if_neg r0]
  by_cases r1 : r = 1
  · rw [ceq r1, if_pos r1]
    refine loopO_for (fun i => match i with
      | 0 => ((0 : Int), U.n0, U.n1, U.w0, U.w1)
      | 1 => ((1 : Int), cond (btm x 11) 0 U.n0, U.n1, cond (btm x 11) [] U.w0, U.w1)
      | _ => ((2 : Int), cond (btm x 11) 0 U.n0, cond (btm x 15) 0 U.n1, cond (btm x 11) [] U.w0, cond (btm x 15) [] U.w1)) 2 ?_ ?_
    · intro i hi
      obtain rfl | rfl : i = 0 ∨ i = 1 := by omega
      · show cond (bits .and .u16 (Int.fdiv x (2 ^ 11)) 1 == 1) _ _ = _
        rw [bp hx 11 (by decide)]
        cases (btm x 11) <;> rfl
      · show cond (bits .and .u16 (Int.fdiv x (2 ^ 15)) 1 == 1) _ _ = _
        rw [bp hx 15 (by decide)]
        cases (btm x 15) <;> rfl
    · rfl
  rw [cne r1, if_neg r1]
  by_cases r2 : r = 2
  · rw [ceq r2, if_pos r2, show (bits .and .u16 (Int.fdiv x 128) 1 == 1) = btm x 7 from bp hx 7 (by decide)]; rfl
  rw [cne r2, if_neg r2]
  by_cases r3 : r = 3
  · rw [ceq r3, if_pos r3]; rfl
  rw [cne r3, if_neg r3]
  rfl
theorem rWrite_eq {U : US} (h : Good U) {q : Int} (h0 : U.ps.now ≤ q) (h1 : q ≤ 1900000000) {r x : Int} (hx : 0 ≤ x ∧ x < 65536) : k_rWrite U q r x = some (r_rWrite (wU (runU U q) r x)) := by
  unfold k_rWrite rA f_rWrite
  refine (bind_of _ (rRun_eq h h0 h1)).trans ?_
  rw [← keeps_runU U q]
  generalize runU U q = W
  show cond (r == 0) _ _ = _
  unfold wU
  by_cases r0 : r = 0
  · rw [ceq r0, if_pos r0]; rfl
  rw [cne r0, if_neg r0]
  by_cases r1 : r = 1
  · rw [ceq r1, if_pos r1]
    refine loopO_for (fun i => match i with
      | 0 => ((0 : Int), U.n0, U.n1, U.s0, U.s1)
      | 1 => ((1 : Int), cond (btm x 11) 0 U.n0, U.n1, cond (btm x 11) [] U.s0, U.s1)
      | _ => ((2 : Int), cond (btm x 11) 0 U.n0, cond (btm x 15) 0 U.n1, cond (btm x 11) [] U.s0, cond (btm x 15) [] U.s1)) 2 ?_ ?_
    · intro i hi
      obtain rfl | rfl : i = 0 ∨ i = 1 := by omega
      · refine ceval (by rfl) ?_
        refine (bind_of _ (br hx 11 (by decide) rfl)).trans ?_
        cases (btm x 11) <;> rfl
      · refine ceval (by rfl) ?_
        refine (bind_of _ (br hx 15 (by decide) rfl)).trans ?_
        cases (btm x 15) <;> rfl
    · rfl
  rw [cne r1, if_neg r1]
  by_cases r2 : r = 2
  · rw [ceq r2, if_pos r2]
    refine (bind_of _ (br hx 7 (by decide) rfl)).trans ?_
    rfl
  rw [cne r2, if_neg r2]
  by_cases r3 : r = 3
  · have := bias_range hx
    rw [ceq r3, if_pos r3, wrap_i64 (x := bits .and .u16 x 1022) (by omega) (by omega)]; rfl
  rw [cne r3, if_neg r3]
  rfl
theorem play_range (S : PS) : 0 ≤ playA S ∧ playA S < 128 ∧ bits .or .u16 (IntKind.wrap .u16 (playA S)) 128 = IntKind.wrap .u16 (IntKind.wrap .u16 (playA S) + 128) := by
  unfold playA
  cases S.c0.on <;> cases S.c1.on <;> cases S.c2.on <;> cases S.c3.on <;> exact ⟨by decide, by decide, by decide⟩
def rdV (V : US) (r : Int) : Int :=
  if r = 0 then V.mix else if r = 1 then V.dir else if r = 2 then cond V.ma (IntKind.wrap .u16 (IntKind.wrap .u16 (playA V.ps) + 128)) (IntKind.wrap .u16 (playA V.ps)) else if r = 3 then V.bias else 0
theorem Read_eq {U : US} (h : Good U) {q : Int} (h0 : U.ps.now ≤ q) (h1 : q ≤ 1900000000) {r : Int} : k_Read U q r = some (r_Read (rdV (runU U q) r) (runU U q)) := by
  unfold k_Read uA f_Read
  refine (bind_of _ (Run_eq h h0 h1)).trans ?_
  rw [← keeps_runU U q]
  generalize runU U q = W
  show cond (r == 0) _ _ = _
  unfold rdV
  by_cases r0 : r = 0
  · rw [ceq r0, if_pos r0]; rfl
  rw [cne r0, if_neg r0]
  by_cases r1 : r = 1
  · rw [ceq r1, if_pos r1]; rfl
  rw [cne r1, if_neg r1]
  by_cases r2 : r = 2
  · rw [ceq r2, if_pos r2]
    refine (bind_of _ (Playing_eq (keeps U W).ps)).trans ?_
    show cond U.ma _ _ = some (r_Read (cond U.ma _ _) _)
    rw [Let_eq, (play_range (keeps U W).ps).2.2]
    cases U.ma <;> rfl
  rw [cne r2, if_neg r2]
  by_cases r3 : r = 3
  · rw [ceq r3, if_pos r3]; rfl
  rw [cne r3, if_neg r3]
theorem rRead_eq {U : US} (h : Good U) {q : Int} (h0 : U.ps.now ≤ q) (h1 : q ≤ 1900000000) {r : Int} : k_rRead U q r = some (r_rRead (rdV (runU U q) r) (runU U q)) := by
  unfold k_rRead rA f_rRead
  have hb := h.u.b
  refine (bind_of _ (rRun_eq h h0 h1)).trans ?_
  rw [← keeps_runU U q]
  generalize runU U q = W
  show cond (r == 0) _ _ = _
  unfold rdV
  by_cases r0 : r = 0
  · rw [ceq r0, if_pos r0]; rfl
  rw [cne r0, if_neg r0]
  by_cases r1 : r = 1
  · rw [ceq r1, if_pos r1]; rfl
  rw [cne r1, if_neg r1]
  by_cases r2 : r = 2
  · rw [ceq r2, if_pos r2]
    refine (bind_of _ (rPlaying_eq (keeps U W) rfl)).trans ?_
    show cond U.ma _ _ = some (r_rRead (cond U.ma _ _) _)
    cases U.ma <;> rfl
  rw [cne r2, if_neg r2]
  by_cases r3 : r = 3
  · have e : IntKind.wrap .u16 U.bias = U.bias := by
      have e1 : (2 : Int) ^ 16 = 65536 := by decide
      simp only [IntKind.wrap, IntKind.bits, IntKind.signed, e1, Bool.false_and]
      simp
      omega
    rw [ceq r3, if_pos r3, e]; rfl
  rw [cne r3, if_neg r3]
theorem Take_eq {U : US} (h : Good U) {q : Int} (h0 : U.ps.now ≤ q) (h1 : q ≤ 1900000000) : k_Take U q = some (r_Take (runU U q).out (runU U q)) := by
  unfold k_Take uA f_Take
  refine (bind_of _ (Run_eq h h0 h1)).trans ?_
  rfl
theorem rTake_eq {U : US} (h : Good U) {q : Int} (h0 : U.ps.now ≤ q) (h1 : q ≤ 1900000000) : k_rTake U q = some (r_rTake (runU U q).out (runU U q)) := by
  unfold k_rTake rA f_rTake
  refine (bind_of _ (rRun_eq h h0 h1)).trans ?_
  rfl
end Go.Proofs.Ytccmpceifheejaa
