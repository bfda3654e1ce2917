/-
  CpuBreaks.
-/
import Derived.Test.YtdjgicimfeocbaaGreatAw
import Derived.Test.YtdjgicimfeocbaaGreatStart
namespace Go.Proofs.YtdjgicimfeocbaaGreat
open Go.Vc
set_option linter.unusedVariables false
set_option linter.unusedSimpArgs false

theorem al_eq (c a : Int) (h : W c = 4) (h4 : a % 4 = 0) : al c a = a := by unfold al; rw [h]; omega
theorem At_eq {p0 p1 : Int} {af mv : Bool} {r o h s : Nat → Int} {c : Int} {m : Nat → Int} {log : List E51} (c0 : 0 ≤ c) (c1 : c < 4294967296) : f_At p0 p1 af mv r o h s c m log = some ((r 15 - 2 * (W c : Int)) % 4294967296) := by
  unfold f_At
  rw [show (15 : Int) = ((15 : Nat) : Int) from rfl, Get_eq 15 (by decide), bind_some', thumbed_eq c0 c1, bind_some', Let_eq, wr_u32, wr_u32]
  have hw := W_or c
  rw [wrap_i64 (x := 2 * (W c : Int)) (by omega) (by omega)]
  show some ((r 15 - 2 * (W c : Int) % 4294967296) % 4294967296) = _
  congr 1
  rcases hw with e | e <;> rw [e] <;> omega
theorem W146 : W 146 = 4 := by decide
theorem Enter_31 {r o h s : Nat → Int} {x : Int} : f_Enter r o h s 31 18 x = some (rup (rup (rup r 13 ((rup (rup o 0 (r 13)) 1 (r 14)) 4)) 14 ((rup (rup o 0 (r 13)) 1 (r 14)) 5)) 14 x, rup (rup o 0 (r 13)) 1 (r 14), h, rup s 2 31, 146) := rfl
theorem Back_31 {r o h s : Nat → Int} : f_SetStatus r o h s 146 31 = some (rup (rup r 13 ((rup (rup o 4 (r 13)) 5 (r 14)) 0)) 14 ((rup (rup o 4 (r 13)) 5 (r 14)) 1), rup (rup o 4 (r 13)) 5 (r 14), h, 31) := rfl
theorem Enter_ex {r o h s : Nat → Int} {x : Int} : ∃ r1 o1, f_Enter r o h s 31 18 x = some (r1, o1, h, rup s 2 31, 146) ∧ r1 14 = x ∧ r1 0 = r 0 := ⟨_, _, Enter_31, rup_at _ _ _, by rw [rup_ne _ _ (by decide), rup_ne _ _ (by decide), rup_ne _ _ (by decide)]⟩
theorem Back_ex {r o h s : Nat → Int} : ∃ r1 o1, f_SetStatus r o h s 146 31 = some (r1, o1, h, 31) ∧ r1 0 = r 0 := ⟨_, _, Back_31, by rw [rup_ne _ _ (by decide), rup_ne _ _ (by decide)]⟩
theorem Saved_146 {r o h s : Nat → Int} : f_Saved r o h s 146 = some (s 2) := rfl
set_option maxRecDepth 20000 in
theorem CpuBreaks_eq (cd : List Int) (At St : Int) (g0 g1 r2 r3 r4 r5 r6 r7 r8 r9 r10 r11 r12 r13 r14 r15 seed steps : Int) (brk : List Int) (a0 : 0 ≤ At) (a1 : At < 4294967296) (h0 : 0 ≤ g0) (h1 : g0 < 4294967296) :
    f_CpuBreaks cd At St g0 g1 r2 r3 r4 r5 r6 r7 r8 r9 r10 r11 r12 r13 r14 r15 seed steps brk = some true := by
  unfold f_CpuBreaks
  rw [awake_eq, bind_some', cnot, ctrue rfl]
  obtain ⟨a, ea, b0, b1, b2⟩ : ∃ a, bits .and .u32 At 2044 = a ∧ 0 ≤ a ∧ a < 2048 ∧ a % 4 = 0 := ⟨_, andHigh32 2 9 (by decide) (by decide) a0 a1, by omega, by omega, by omega⟩
  rw [ea]
  obtain ⟨q, eq, ⟨m, r, o, h, log, x, y, R, Sv, L, hm, hp, hr, hl, hlw, hoh, rfl⟩⟩ := pair_ok [3800039425, 3800039425, 3800039425] (by decide) a 31 b0 (by omega) (by decide) (by decide) g0 g1 r2 r3 r4 r5 r6 r7 r8 r9 r10 r11 r12 r13 r14 r15 seed steps brk
  rw [eq, bind_some']
  dsimp only
  have ha : al 31 a = a := al_eq _ _ W31 b2
  have ha4 : al 31 (a + 4) = a + 4 := al_eq _ _ W31 (by omega)
  have w0 : wd m a = 3800039425 := by
    have := wd_placed hp 0 (by decide) (by decide) (by decide)
    rw [show a + 4 * ((0 : Nat) : Int) = a by omega] at this
    exact this
  have w1 : wd m (a + 4) = 3800039425 := by
    have := wd_placed hp 1 (by decide) (by decide) (by decide)
    rw [show a + 4 * ((1 : Nat) : Int) = a + 4 by omega] at this
    exact this
  have hr0 : r 0 = g0 := hr 0 (by decide)
  rw [ha, W31, lo4, lo4, w0, show (a + ((4 : Nat) : Int)) % 4294967296 = a + 4 by omega, w1, show (a + 2 * ((4 : Nat) : Int)) % 4294967296 = a + 8 by omega]
  generalize hg : rup r 15 (a + 8) = g
  have g15 : g 15 = a + 8 := by rw [← hg, rup_at]
  have gg0 : g 0 = g0 := by rw [← hg, rup_ne _ _ (by decide), hr0]
  rw [show (0 : Int) = ((0 : Nat) : Int) from rfl, Get_eq 0 (by decide), bind_some']
  rw [show ((0 : Nat) : Int) = (0 : Int) from rfl, gg0, Step_add hm (by omega) (by decide) (by decide) W31 (by omega) (by omega) (by omega) (by omega), bind_some']
  dsimp only
  rw [gg0, g15, show (a + 8 + 4) % 4294967296 = a + 12 by omega]
  generalize hk : rup (rup g 0 ((g0 + 1) % 4294967296)) 15 (a + 12) = k
  have k15 : k 15 = a + 12 := by rw [← hk, rup_at]
  have k0 : k 0 = (g0 + 1) % 4294967296 := by rw [← hk, rup_ne _ _ (by decide), rup_at]
  rw [At_eq (by decide) (by decide), bind_some', k15, W31, show (a + 12 - 2 * ((4 : Nat) : Int)) % 4294967296 = a + 4 by omega]
  generalize hlog : log ++ [acc (a + 8) 4 (wd m (a + 8)) (cls false + 10)] = lg
  have hll : lg.length = 5 := by rw [← hlog, List.length_append, hl]; rfl
  unfold f_Interrupt f_Status
  obtain ⟨r1, o1, en, e14, e0⟩ := Enter_ex (r := k) (o := o) (h := h) (s := fun _ => 0) (x := a + 8)
  rw [bind_some', cne (by decide), At_eq (by decide) (by decide), bind_some', k15, W31, show (a + 12 - 2 * ((4 : Nat) : Int)) % 4294967296 = a + 4 by omega, wr_u32, show (a + 4 + 4) % 4294967296 = a + 8 by omega, en, bind_some']
  dsimp only
  have jl : al 146 24 = 24 := by decide
  rw [Jump_eq hm (by omega) (by decide) (by decide) (by decide) (by decide), bind_some', jl, W146]
  dsimp only
  rw [bind_some']
  dsimp only
  generalize hk2 : rup r1 15 ((24 + 2 * ((4 : Nat) : Int)) % 4294967296) = k2
  have k215 : k2 15 = 32 := by rw [← hk2, rup_at]; decide
  have k214 : k2 14 = a + 8 := by rw [← hk2, rup_ne _ _ (by decide), e14]
  have k20 : k2 0 = (g0 + 1) % 4294967296 := by rw [← hk2, rup_ne _ _ (by decide), e0, k0]
  rw [cnot, ctrue rfl, At_eq (by decide) (by decide), bind_some', k215, W146, show ((32 : Int) - 2 * ((4 : Nat) : Int)) % 4294967296 = 24 by decide, cbeq rfl, bind_some', cbeq (by decide), bind_some', ceq (by decide), bind_some']
  dsimp only
  rw [cfalse rfl, show (14 : Int) = ((14 : Nat) : Int) from rfl, Get_eq 14 (by decide), bind_some', k214, wr_u32, cbeq (by omega), Saved_146, bind_some', rup_at]
  obtain ⟨r3, o3, eb, b0'⟩ := Back_ex (r := k2) (o := o1) (h := h) (s := rup (fun _ => 0) 2 31)
  rw [eb, bind_some']
  dsimp only
  rw [Jump_eq hm (by simp; omega) (by decide) (by decide) (by omega) (by omega), bind_some', ha4, W31, lo4, lo4, w1]
  dsimp only
  generalize hk3 : rup r3 15 ((a + 4 + 2 * ((4 : Nat) : Int)) % 4294967296) = k3
  have k315 : k3 15 = a + 12 := by rw [← hk3, rup_at]; omega
  have k30 : k3 0 = (g0 + 1) % 4294967296 := by rw [← hk3, rup_ne _ _ (by decide), b0', k20]
  rw [Step_add (r := k3) hm (by simp; omega) (by decide) (by decide) W31 (by omega) (by omega) (by omega) (by omega), bind_some']
  dsimp only
  rw [show (0 : Int) = ((0 : Nat) : Int) from rfl, Get_eq 0 (by decide), bind_some', rup_ne _ _ (by decide), rup_at, k30, ceq (by omega), bind_some']
  rfl
theorem law_CpuBreaks (w : World) (l0 : List Value) (w0 : ∃ n, Rd Tryz.prog w n 27 l0) :
    Calls Tryz.prog n_CpuBreaks #[.agg l0.toArray] w fun e w' => e = .returned (.bool true) ∧ Chg (fun _ => False) w w' := by
  obtain ⟨p0, c0, x0, At, St, g, seed, steps, p1, c1, x1, s⟩ := start_of w0
  rw [s.cells]
  exact (t_CpuBreaks (CpuBreaks_eq x0 At St (g 0) (g 1) (g 2) (g 3) (g 4) (g 5) (g 6) (g 7) (g 8) (g 9) (g 10) (g 11) (g 12) (g 13) (g 14) (g 15) seed steps x1 s.hAt.1 s.hAt.2 (s.hg 0 (by decide)).1 (s.hg 0 (by decide)).2) trivial s.ro0 not_foot_nil0 s.ro1 not_foot_nil0 rfl rfl).mono fun e w' h => ⟨h.1, h.2.quiet⟩
end Go.Proofs.YtdjgicimfeocbaaGreat
