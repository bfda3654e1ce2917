/-
  The anchor; CpuNone; CpuSkips.
-/
import Derived.Test.YtdjgicimfeocbaaGreatStepM
namespace Go.Proofs.YtdjgicimfeocbaaGreat
open Go.Vc
set_option linter.unusedVariables false
set_option linter.unusedSimpArgs false

theorem wd_placed {code : List Int} {a : Int} {m : Nat → Int} {t : Nat} (h : Placed code a m t) (k : Nat) (hk : 4 * k + 4 ≤ t) (h0 : 0 ≤ code.getD k 0) (h1 : code.getD k 0 < 4294967296) : wd m (a + 4 * (k : Int)) = code.getD k 0 := by
  have e : ∀ i : Nat, i < 4 → mb m (a + 4 * (k : Int) + (i : Int)) = code.getD k 0 / ((2 ^ (8 * i) : Nat) : Int) % 256 := by
    intro i hi
    rw [show a + 4 * (k : Int) + (i : Int) = a + ((4 * k + i : Nat) : Int) by omega, h (4 * k + i) (by omega)]
    unfold cb
    rw [show (4 * k + i) / 4 = k by omega, show (4 * k + i) % 4 = i by omega]
  have e0 := e 0 (by decide)
  have e1 := e 1 (by decide)
  have e2 := e 2 (by decide)
  have e3 := e 3 (by decide)
  simp only [Nat.reduceMul, Nat.reducePow] at e0 e1 e2 e3
  rw [show a + 4 * (k : Int) + ((0 : Nat) : Int) = a + 4 * (k : Int) by omega] at e0
  unfold wd
  rw [e0, show a + 4 * (k : Int) + 1 = a + 4 * (k : Int) + ((1 : Nat) : Int) by omega, e1, show a + 4 * (k : Int) + 2 = a + 4 * (k : Int) + ((2 : Nat) : Int) by omega, e2, show a + 4 * (k : Int) + 3 = a + 4 * (k : Int) + ((3 : Nat) : Int) by omega, e3]
  generalize code.getD k 0 = x at *
  omega
theorem W31 : W 31 = 4 := by decide
theorem fl31 : flN 31 = false ∧ flZ 31 = false ∧ flC 31 = false ∧ flV 31 = false := by decide
theorem keeps4 : f_Keeps ((4 : Nat) : Int) = some false := by decide
theorem keeps13 : f_Keeps ((13 : Nat) : Int) = some false := by decide
theorem dec_mov5 : f_aDecode 3818913797 = some (1, 14, 13, false, 0, 0, 0, 0, 5, true, 0, 0, false, false, false, false, false, false, false, false, false) := by kernel_rfl
theorem dec_add1 : f_aDecode 3800039425 = some (1, 14, 4, false, 0, 0, 0, 0, 1, true, 0, 0, false, false, false, false, false, false, false, false, false) := by kernel_rfl
theorem holds14 {n z c v : Bool} : f_Holds 14 n z c v = some true := by cases n <;> cases z <;> cases c <;> cases v <;> decide
/-- MOV of an immediate, ADD of one to a register: a step of it. -/
theorem Step_mov {p1 : Int} {af mv : Bool} {r o h s : Nat → Int} {c : Int} {m : Nat → Int} {log : List E51} (hm : Byt m) (hl : log.length ≤ 800000) (c0 : 0 ≤ c) (c1 : c < 4294967296) (hW : W c = 4) (g0 : 0 ≤ r 15) (g1 : r 15 < 4294967296) :
    f_Step 3818913797 p1 af mv r o h s c m log = some (p1, lo m (r 15) 4, false, false, rup (rup r 0 5) 15 ((r 15 + 4) % 4294967296), o, h, c, m, log ++ [acc (r 15) 4 (lo m (r 15) 4) (cls af + 10)]) :=
  SS_data hm (by omega) c0 c1 hW g0 g1 dec_mov5 holds14 (hr := rup_ne _ _ (by decide)) (hx := fun log => data_imm (rn := 0) (rd := 0) (code := 13) (by decide) (by decide) (by decide) (by decide) c0 c1 keeps13 Do_mov)
theorem Step_add {p1 : Int} {af mv : Bool} {r o h s : Nat → Int} {c : Int} {m : Nat → Int} {log : List E51} (hm : Byt m) (hl : log.length ≤ 800000) (c0 : 0 ≤ c) (c1 : c < 4294967296) (hW : W c = 4) (g0 : 0 ≤ r 15) (g1 : r 15 < 4294967296) (q0 : 0 ≤ r 0) (q1 : r 0 < 4294967296) :
    f_Step 3800039425 p1 af mv r o h s c m log = some (p1, lo m (r 15) 4, false, false, rup (rup r 0 ((r 0 + 1) % 4294967296)) 15 ((r 15 + 4) % 4294967296), o, h, c, m, log ++ [acc (r 15) 4 (lo m (r 15) 4) (cls af + 10)]) :=
  SS_data hm (by omega) c0 c1 hW g0 g1 dec_add1 holds14 (hr := rup_ne _ _ (by decide)) (hx := fun log => data_imm (rn := 0) (rd := 0) (code := 4) (by decide) (by decide) (by decide) (by decide) c0 c1 keeps4 (Do_add q0 q1 (by decide) (by decide)))
theorem CNew0 : ∃ q, f_CNew (fun _ => 0) [] 0 = some q := by
  unfold f_CNew f_BNew
  rw [bind_some']
  dsimp only
  rw [Jump_eq byt0 (by simp) (by decide) (by decide) (by decide) (by decide), bind_some']
  exact ⟨_, rfl⟩
set_option maxRecDepth 20000 in
theorem awake_eq : f_awake = some true := by
  unfold f_awake
  obtain ⟨⟨y0, y1, y2, y3, y4, y5, y6⟩, e0⟩ := CNew0
  rw [e0, bind_some']
  dsimp only
  obtain ⟨q, eq, ⟨m, r, o, h, log, x, y, R, Sv, L, hm, hp, hr, hl, hlw, hoh, rfl⟩⟩ := pair_ok [3818913797, 3800039425] (by decide) 0 31 (by decide) (by decide) (by decide) (by decide) 0 0 0 0 0 0 0 0 0 0 0 0 0 0 0 0 0 0 []
  rw [eq, bind_some']
  dsimp only
  have a0 : al 31 0 = 0 := by decide
  have w0 : lo m (al 31 0) (W 31) = 3818913797 := by
    rw [a0, W31, lo4]
    exact (show wd m 0 = wd m (0 + 4 * ((0 : Nat) : Int)) from rfl).trans (wd_placed hp 0 (by decide) (by decide) (by decide))
  have w1 : lo m ((al 31 0 + W 31) % 4294967296) (W 31) = 3800039425 := by
    rw [a0, W31, lo4]
    exact (show wd m ((0 + ((4 : Nat) : Int)) % 4294967296) = wd m (0 + 4 * ((1 : Nat) : Int)) from rfl).trans (wd_placed hp 1 (by decide) (by decide) (by decide))
  have w15 : (al 31 0 + 2 * W 31) % 4294967296 = 8 := by rw [a0, W31]; rfl
  rw [w0, w1, w15]
  have h15 : rup r 15 8 15 = 8 := rup_at _ _ _
  rw [Step_mov hm (by omega) (by decide) (by decide) W31 (by rw [h15]; decide) (by rw [h15]; decide), bind_some', h15]
  dsimp only
  have g0 : rup (rup (rup r 15 8) 0 5) 15 ((8 + 4) % 4294967296) 0 = 5 := rfl
  have g15 : rup (rup (rup r 15 8) 0 5) 15 ((8 + 4) % 4294967296) 15 = 12 := rfl
  rw [show (0 : Int) = ((0 : Nat) : Int) from rfl, Get_eq 0 (by decide), bind_some', g0, Step_add hm (by simp; omega) (by decide) (by decide) W31 (by rw [g15]; decide) (by rw [g15]; decide) (by rw [g0]; decide) (by rw [g0]; decide), bind_some']
  dsimp only
  rw [ceq rfl, Get_eq 0 (by decide), bind_some']
  show cond (((5 + 1) % 4294967296 : Int) == 6) _ _ = _
  rw [ceq (by decide)]
  simp [hl]
end Go.Proofs.YtdjgicimfeocbaaGreat
