/-
  The unit up to a cycle: the program and the document.
-/
import Derived.Test.YtccmpceifheejaaSr
namespace Go.Proofs.Ytccmpceifheejaa
open Go.Vc
set_option linter.unusedVariables false
set_option linter.unusedSimpArgs false
set_option maxHeartbeats 4000000
def smp (U : US) : US :=
  { U with ps := runN (U.nx - U.ps.now).toNat U.ps, out := U.out ++ [⟨side1 { U with ps := runN (U.nx - U.ps.now).toNat U.ps }, side0 { U with ps := runN (U.nx - U.ps.now).toNat U.ps }⟩], nx := U.nx + 512, cy := U.nx }
def smpN : Nat → US → US
  | 0, U => U
  | n + 1, U => smpN n (smp U)
def runU (U : US) (q : Int) : US :=
  let V := smpN ((q - U.nx) / 512 + 1).toNat U
  { V with ps := runN (q - V.ps.now).toNat V.ps, cy := q }
structure Good (U : US) : Prop where
  u : UOk U
  n0 : 0 ≤ U.ps.now
  n1 : U.ps.now ≤ 1900000000
  nx : U.nx = (U.ps.now / 512 + 1) * 512
  cy : U.cy = U.ps.now
  out : (U.out.length : Int) ≤ U.ps.now / 512
theorem pok_runN {S : PS} (h : POk S) (n : Nat) : POk (runN n S) := by
  have e := mix_of (konst_runN (S := S) n)
  rw [← e]
  exact ⟨h.pg, h.lv⟩
theorem uok_ps {U : US} (h : UOk U) (n : Nat) : UOk { U with ps := runN n U.ps } := ⟨runN_gok h.g n, pok_runN h.p n, h.m, h.d, h.b, h.a0, h.a1⟩
theorem smp_good {U : US} (h : Good U) (hn : U.nx ≤ 1900000000) : Good (smp U) := by
  have h1 := h.nx; have h2 := h.n0; have h3 := h.out
  have e : (runN (U.nx - U.ps.now).toNat U.ps).now = U.nx := by rw [runN_now]; omega
  refine ⟨⟨runN_gok h.u.g _, pok_runN h.u.p _, h.u.m, h.u.d, h.u.b, h.u.a0, h.u.a1⟩, ?_, ?_, ?_, ?_, ?_⟩
  · show 0 ≤ (runN _ _).now; rw [e]; omega
  · show (runN _ _).now ≤ _; rw [e]; exact hn
  · show U.nx + 512 = ((runN _ _).now / 512 + 1) * 512; rw [e]; omega
  · show U.nx = (runN _ _).now; rw [e]
  · show ((U.out ++ [_]).length : Int) ≤ (runN _ _).now / 512
    rw [e, List.length_append]; simp only [List.length_singleton]; omega
theorem runU_smp {U : US} {q : Int} (h : U.nx ≤ q) : runU (smp U) q = runU U q := by
  have e : ((q - U.nx) / 512 + 1).toNat = ((q - (smp U).nx) / 512 + 1).toNat + 1 := by show _ = ((q - (U.nx + 512)) / 512 + 1).toNat + 1; omega
  show (let V := smpN ((q - (smp U).nx) / 512 + 1).toNat (smp U); ({ V with ps := runN (q - V.ps.now).toNat V.ps, cy := q } : US)) = (let V := smpN ((q - U.nx) / 512 + 1).toNat U; ({ V with ps := runN (q - V.ps.now).toNat V.ps, cy := q } : US))
  rw [e]
  rfl
theorem runU_end {U : US} {q : Int} (h : q < U.nx) : runU U q = { U with ps := runN (q - U.ps.now).toNat U.ps, cy := q } := by
  have e : ((q - U.nx) / 512 + 1).toNat = 0 := by omega
  unfold runU
  rw [e]
  rfl
def keeps (U W : US) : US := { U with ps := mix U.ps W.ps, out := W.out, nx := W.nx, cy := W.cy }
theorem Run_eq {U : US} (h : Good U) {q : Int} (h0 : U.ps.now ≤ q) (h1 : q ≤ 1900000000) : k_Run U q = some (r_Run (runU U q)) := by
  unfold k_Run uA f_Run
  refine loopO_inv (fun m s => ∃ W : US, s = r_Run W ∧ keeps U W = W ∧ konst W.ps = konst U.ps ∧ Good W ∧ W.ps.now ≤ q ∧ (m : Int) = q - W.ps.now ∧ runU W q = runU U q) ?_ (q - U.ps.now).toNat _ ⟨U, rfl, ?_, rfl, h, h0, by omega, rfl⟩
  rotate_left
  · unfold keeps; rw [mix_of rfl]
  rintro m s ⟨W, rfl, hW, hk, hG, hq, hm, hr⟩
  have hmix := mix_of hk
  have g1 := hG.nx; have g2 := hG.n0; have g3 := hG.out
  have hM : GOk (mix U.ps W.ps) := by rw [hmix]; exact hG.u.g
  show (∃ s' m', cond (decide (W.nx ≤ q)) _ _ = _ ∧ _) ∨ cond (decide (W.nx ≤ q)) _ _ = _
  by_cases hlt : W.nx ≤ q
  · left
    have hrun := pRun_eq (S := mix U.ps W.ps) hM hG.n0 (by show W.ps.now ≤ _; omega) (q := W.nx) (by omega)
    have eP : runN (W.nx - (mix U.ps W.ps).now).toNat (mix U.ps W.ps) = runN (W.nx - W.ps.now).toNat W.ps := by rw [hmix]
    rw [eP] at hrun
    have hkP : konst (runN (W.nx - W.ps.now).toNat W.ps) = konst U.ps := (konst_runN _).trans hk
    have hV : ({ U with ps := mix U.ps (runN (W.nx - W.ps.now).toNat W.ps), out := W.out, nx := W.nx, cy := W.cy } : US) = { W with ps := runN (W.nx - W.ps.now).toNat W.ps } := by
      rw [mix_of hkP]
      exact congrArg (fun V : US => ({ V with ps := runN (W.nx - W.ps.now).toNat W.ps } : US)) hW
    have hU := uok_ps hG.u (W.nx - W.ps.now).toNat
    have s1 := side1_eq hU
    have s0 := side0_eq hU
    rw [← hV] at s1 s0
    refine ⟨r_Run (smp W), (q - W.nx).toNat, ?_, ?_, smp W, rfl, ?_, hkP, smp_good hG (by omega), ?_, ?_, ?_⟩
    · rw [cpos hlt]
      refine (bind_of _ hrun).trans ?_
      refine (bind_of _ s1).trans ?_
      refine (bind_of _ s0).trans ?_
      show cond (decide ((W.out ++ [_]).length ≤ 56294995341976)) _ _ = _
      rw [cpos (by rw [List.length_append]; simp only [List.length_singleton]; omega), wrap_i64 (x := W.nx + 512) (by omega) (by omega), hV]
      rfl
    · omega
    · unfold keeps
      show ({ U with ps := mix U.ps (runN (W.nx - W.ps.now).toNat W.ps), out := (smp W).out, nx := (smp W).nx, cy := (smp W).cy } : US) = smp W
      rw [mix_of hkP]
      have := congrArg (fun V : US => ({ V with out := (smp W).out, nx := (smp W).nx, cy := (smp W).cy, ps := runN (W.nx - W.ps.now).toNat W.ps } : US)) hW
      exact this
    · show (runN _ _).now ≤ q
      rw [runN_now]; omega
    · show ((q - W.nx).toNat : Int) = q - (runN _ _).now
      rw [runN_now]; omega
    · rw [runU_smp hlt]; exact hr
  · right
    rw [cneg hlt, ← hr, runU_end (by omega)]
    have hrun := pRun_eq (S := mix U.ps W.ps) hM hG.n0 (by show W.ps.now ≤ _; omega) (q := q) (by omega)
    have eP : runN (q - (mix U.ps W.ps).now).toNat (mix U.ps W.ps) = runN (q - W.ps.now).toNat W.ps := by rw [hmix]
    rw [eP] at hrun
    refine (bind_of _ hrun).trans ?_
    rfl
theorem rRun_eq {U : US} (h : Good U) {q : Int} (h0 : U.ps.now ≤ q) (h1 : q ≤ 1900000000) : k_rRun U q = some (r_rRun (runU U q)) := by
  unfold k_rRun rA f_rRun
  refine loopO_inv (fun m s => ∃ W : US, s = r_rRun W ∧ keeps U W = W ∧ konst W.ps = konst U.ps ∧ Good W ∧ W.ps.now ≤ q ∧ (m : Int) = q - W.ps.now ∧ runU W q = runU U q) ?_ (q - U.ps.now).toNat _ ⟨U, rfl, ?_, rfl, h, h0, by omega, rfl⟩
  rotate_left
  · unfold keeps; rw [mix_of rfl]
  rintro m s ⟨W, rfl, hW, hk, hG, hq, hm, hr⟩
  have hmix := mix_of hk
  have g1 := hG.nx; have g2 := hG.n0; have g3 := hG.out; have g4 := hG.cy
  have hM : GOk (mix U.ps W.ps) := by rw [hmix]; exact hG.u.g
  show (∃ s' m', cond (decide (W.cy < q)) _ _ = _ ∧ _) ∨ cond (decide (W.cy < q)) _ _ = _
  by_cases hlt : W.cy < q
  · left
    have enx : IntKind.wrap .i64 (IntKind.wrap .i64 (IntKind.wrap .i64 (Int.tdiv W.cy 512) * 512) + 512) = W.nx := by
      rw [tdiv_nn (a := W.cy) (by omega), wrap_i64 (x := W.cy / 512) (by omega) (by omega), wrap_i64 (x := W.cy / 512 * 512) (by omega) (by omega), wrap_i64 (x := W.cy / 512 * 512 + 512) (by omega) (by omega)]
      omega
    by_cases hs : W.nx ≤ q
    · have hrun := rpRun_eq ({ U with ps := mix U.ps W.ps, out := W.out, nx := W.nx, cy := W.cy }) (S := mix U.ps W.ps) rfl hM hG.n0 (by show W.ps.now ≤ _; omega) (q := W.nx) (by omega)
      have eP : runN (W.nx - (mix U.ps W.ps).now).toNat (mix U.ps W.ps) = runN (W.nx - W.ps.now).toNat W.ps := by rw [hmix]
      rw [eP] at hrun
      have hkP : konst (runN (W.nx - W.ps.now).toNat W.ps) = konst U.ps := (konst_runN _).trans hk
      have hV : ({ U with ps := mix U.ps (runN (W.nx - W.ps.now).toNat W.ps), out := W.out, nx := W.nx, cy := W.nx } : US) = { W with ps := runN (W.nx - W.ps.now).toNat W.ps, cy := W.nx } := by
        rw [mix_of hkP]
        exact congrArg (fun V : US => ({ V with ps := runN (W.nx - W.ps.now).toNat W.ps, cy := W.nx } : US)) hW
      have hU0 := uok_ps hG.u (W.nx - W.ps.now).toNat
      have hU : UOk { W with ps := runN (W.nx - W.ps.now).toNat W.ps, cy := W.nx } := ⟨hU0.g, hU0.p, hU0.m, hU0.d, hU0.b, hU0.a0, hU0.a1⟩
      have s1 := rside1_eq hU
      have s0 := rside0_eq hU
      rw [← hV] at s1 s0
      refine ⟨r_rRun (smp W), (q - W.nx).toNat, ?_, ?_, smp W, rfl, ?_, hkP, smp_good hG (by omega), ?_, ?_, ?_⟩
      · rw [cpos hlt, Let_eq]
        show (Option.bind (f_rpRun _ _ _ _ _ _ _ _ _ _ _ _ _ _ _ _ _ _ _ _ _ _ _ _ _ _ _ _ _ _ _ _ _ _ _ _ _ _ _ _ _ _ _ _ _ _ _ _ _ _ _ _ _ _ _ _ _ _ _ _ _ _ _ _ _ _ _ _ _ _ _ _ _ _ _ _ _ _ _ _ _ _ _ _ _ _ _ _ _ _ _ _ _ _ _ _ _ _ _ _ _ _ _ _ _ _ _ _ _ _ _ _ _ _ _ _ (if IntKind.wrap .i64 (IntKind.wrap .i64 (IntKind.wrap .i64 (Int.tdiv W.cy 512) * 512) + 512) < q then IntKind.wrap .i64 (IntKind.wrap .i64 (IntKind.wrap .i64 (Int.tdiv W.cy 512) * 512) + 512) else q)) _) = _
        rw [enx, show (if W.nx < q then W.nx else q) = W.nx by split <;> omega]
        refine (bind_of _ hrun).trans ?_
        show cond (Int.tmod W.nx 512 == 0) _ _ = _
        rw [tmod_nn (a := W.nx) (by omega), ceq (by omega)]
        refine (bind_of _ s1).trans ?_
        refine (bind_of _ s0).trans ?_
        show cond (decide ((W.out ++ [_]).length ≤ 56294995341976)) _ _ = _
        rw [cpos (by rw [List.length_append]; simp only [List.length_singleton]; omega), hV]
        rfl
      · omega
      · unfold keeps
        show ({ U with ps := mix U.ps (runN (W.nx - W.ps.now).toNat W.ps), out := (smp W).out, nx := (smp W).nx, cy := (smp W).cy } : US) = smp W
        rw [mix_of hkP]
        have := congrArg (fun V : US => ({ V with out := (smp W).out, nx := (smp W).nx, cy := (smp W).cy, ps := runN (W.nx - W.ps.now).toNat W.ps } : US)) hW
        exact this
      · show (runN _ _).now ≤ q
        rw [runN_now]; omega
      · show ((q - W.nx).toNat : Int) = q - (runN _ _).now
        rw [runN_now]; omega
      · rw [runU_smp hs]; exact hr
    · have hrun := rpRun_eq ({ U with ps := mix U.ps W.ps, out := W.out, nx := W.nx, cy := W.cy }) (S := mix U.ps W.ps) rfl hM hG.n0 (by show W.ps.now ≤ _; omega) (q := q) (by omega)
      have eP : runN (q - (mix U.ps W.ps).now).toNat (mix U.ps W.ps) = runN (q - W.ps.now).toNat W.ps := by rw [hmix]
      rw [eP] at hrun
      have hkP : konst (runN (q - W.ps.now).toNat W.ps) = konst U.ps := (konst_runN _).trans hk
      have en : (runN (q - W.ps.now).toNat W.ps).now = q := by rw [runN_now]; omega
      refine ⟨r_rRun { W with ps := runN (q - W.ps.now).toNat W.ps, cy := q }, 0, ?_, ?_, { W with ps := runN (q - W.ps.now).toNat W.ps, cy := q }, rfl, ?_, hkP, ?_, ?_, ?_, ?_⟩
      · rw [cpos hlt, Let_eq]
        show (Option.bind (f_rpRun _ _ _ _ _ _ _ _ _ _ _ _ _ _ _ _ _ _ _ _ _ _ _ _ _ _ _ _ _ _ _ _ _ _ _ _ _ _ _ _ _ _ _ _ _ _ _ _ _ _ _ _ _ _ _ _ _ _ _ _ _ _ _ _ _ _ _ _ _ _ _ _ _ _ _ _ _ _ _ _ _ _ _ _ _ _ _ _ _ _ _ _ _ _ _ _ _ _ _ _ _ _ _ _ _ _ _ _ _ _ _ _ _ _ _ _ (if IntKind.wrap .i64 (IntKind.wrap .i64 (IntKind.wrap .i64 (Int.tdiv W.cy 512) * 512) + 512) < q then IntKind.wrap .i64 (IntKind.wrap .i64 (IntKind.wrap .i64 (Int.tdiv W.cy 512) * 512) + 512) else q)) _) = _
        rw [enx, show (if W.nx < q then W.nx else q) = q by split <;> omega]
        refine (bind_of _ hrun).trans ?_
        show cond (Int.tmod q 512 == 0) _ _ = _
        rw [tmod_nn (a := q) (by omega), cne (by omega)]
      · omega
      · unfold keeps
        show ({ U with ps := mix U.ps (runN (q - W.ps.now).toNat W.ps), out := W.out, nx := W.nx, cy := q } : US) = _
        rw [mix_of hkP]
        have := congrArg (fun V : US => ({ V with cy := q, ps := runN (q - W.ps.now).toNat W.ps } : US)) hW
        exact this
      · have hu := uok_ps hG.u (q - W.ps.now).toNat
        refine ⟨⟨hu.g, hu.p, hu.m, hu.d, hu.b, hu.a0, hu.a1⟩, ?_, ?_, ?_, ?_, ?_⟩
        · show 0 ≤ (runN _ _).now; rw [en]; omega
        · show (runN _ _).now ≤ _; rw [en]; omega
        · show W.nx = ((runN _ _).now / 512 + 1) * 512; rw [en]; omega
        · show q = (runN _ _).now; rw [en]
        · show (W.out.length : Int) ≤ (runN _ _).now / 512; rw [en]; omega
      · show (runN _ _).now ≤ q; rw [en]; omega
      · show ((0 : Nat) : Int) = q - (runN _ _).now; rw [en]; omega
      · rw [← hr, runU_end (U := W) (by omega), runU_end (by show q < W.nx; omega)]
        show ({ W with ps := runN (q - (runN (q - W.ps.now).toNat W.ps).now).toNat (runN (q - W.ps.now).toNat W.ps), cy := q } : US) = _
        rw [en, show (q - q).toNat = 0 by omega]
        rfl
  · right
    rw [cneg hlt, ← hr, runU_end (by omega), show (q - W.ps.now).toNat = 0 by omega]
    have : q = W.cy := by omega
    rw [this]
    rfl
end Go.Proofs.Ytccmpceifheejaa
