/-
  CpuSkips.
-/
import Derived.Test.YtdjgicimfeocbaaGreatAw
import Derived.Test.YtdjgicimfeocbaaGreatEnds
import Derived.Test.YtdjgicimfeocbaaGreatStart
import Derived.Laws.BitsAllLaws
namespace Go.Proofs.YtdjgicimfeocbaaGreat
open Go.Vc
set_option linter.unusedVariables false
set_option linter.unusedSimpArgs false

/-- Arm, and Z is set. -/
theorem stat_z {St : Int} (s0 : 0 ≤ St) (s1 : St < 4294967296) : ∃ c, bits .or .u32 (bits .andNot .u32 St 32) 1073741824 = c ∧ 0 ≤ c ∧ c < 4294967296 ∧ W c = 4 ∧ flZ c = true := by
  refine ⟨_, rfl, ?_⟩
  obtain ⟨S, rfl⟩ := Int.eq_ofNat_of_zero_le s0
  have h1 : S < 4294967296 := by omega
  have e := u32_andNot_nat S 32 h1 (by decide)
  have lt : S &&& (4294967295 - 32) < 4294967296 := Nat.lt_of_le_of_lt Nat.and_le_left h1
  have e2 := u32_or_nat (S &&& (4294967295 - 32)) 1073741824 lt (by decide)
  have e3 : bits .or .u32 (bits .andNot .u32 (S : Int) 32) 1073741824 = (((S &&& (4294967295 - 32)) ||| 1073741824 : Nat) : Int) := by
    have e' : bits .andNot .u32 (S : Int) 32 = ((S &&& (4294967295 - 32) : Nat) : Int) := e
    rw [e']; exact e2
  rw [e3]
  have lt2 : (S &&& (4294967295 - 32)) ||| 1073741824 < 2 ^ 32 := Nat.or_lt_two_pow lt (by decide)
  have b5 : ((S &&& (4294967295 - 32)) ||| 1073741824).testBit 5 = false := by
    rw [Nat.testBit_or, Nat.testBit_and, show (4294967295 - 32 : Nat).testBit 5 = false by decide, show (1073741824 : Nat).testBit 5 = false by decide, Bool.and_false]; rfl
  have b30 : ((S &&& (4294967295 - 32)) ||| 1073741824).testBit 30 = true := by
    rw [Nat.testBit_or, show (1073741824 : Nat).testBit 30 = true by decide, Bool.or_true]
  rw [Nat.testBit_eq_decide_div_mod_eq, decide_eq_false_iff_not] at b5
  rw [Nat.testBit_eq_decide_div_mod_eq, decide_eq_true_eq] at b30
  generalize (S &&& (4294967295 - 32)) ||| 1073741824 = T at *
  refine ⟨by omega, by omega, ?_, ?_⟩
  · unfold W; rw [if_neg (by omega)]
  · unfold flZ; rw [decide_eq_true_eq]; omega
theorem At_eq {p0 p1 : Int} {af mv : Bool} {r o h s : Nat → Int} {c : Int} {m : Nat → Int} {log : List E51} (c0 : 0 ≤ c) (c1 : c < 4294967296) : f_At p0 p1 af mv r o h s c m log = some ((r 15 - 2 * (W c : Int)) % 4294967296) := by
  unfold f_At
  rw [show (15 : Int) = ((15 : Nat) : Int) from rfl, Get_eq 15 (by decide), bind_some', thumbed_eq c0 c1, bind_some', Let_eq, wr_u32, wr_u32]
  have hw := W_or c
  rw [wrap_i64 (x := 2 * (W c : Int)) (by omega) (by omega)]
  show some ((r 15 - 2 * (W c : Int) % 4294967296) % 4294967296) = _
  congr 1
  rcases hw with e | e <;> rw [e] <;> omega
theorem holds1 {n c v : Bool} : f_Holds 1 n true c v = some false := by cases n <;> cases c <;> cases v <;> decide
theorem ne_word {q : Int} (q0 : 0 ≤ q) (q1 : q < 4294967296) : ∃ w, bits .or .u32 (bits .and .u32 q 268435455) 268435456 = w ∧ 0 ≤ w ∧ w < 4294967296 ∧ f_afield w 28 4 = some 1 := by
  have e : bits .or .u32 (bits .and .u32 q 268435455) 268435456 = q % 268435456 + 268435456 := by
    rw [and32 28 (by decide) (by decide) q0 q1, or32 28 (by decide) (by omega) (by omega) (by decide) (by decide) (by decide)]
    rfl
  refine ⟨_, rfl, by omega, by omega, ?_⟩
  unfold f_afield
  rw [e, ctrue (by decide), ctrue (by decide), Let_eq, show (2 : Int) ^ (min (28 : Int).toNat 32) = 268435456 by decide, fdiv_pos (by decide), show IntKind.wrap .u32 (IntKind.wrap .u32 ((1 : Int) * 2 ^ (min (4 : Int).toNat 32)) - 1) = 15 by decide, and32 4 (by decide) (by decide) (by omega) (by omega), show (q % 268435456 + 268435456) / 268435456 = 1 by omega]
  rfl
def pre (r : Nat → Int) (i k : Nat) : Int := if k < i then r k else 0
set_option maxRecDepth 20000 in
theorem CpuSkips_eq (cd : List Int) (At St r0 r1 r2 r3 r4 r5 r6 r7 r8 r9 r10 r11 r12 r13 r14 r15 seed steps : Int) (brk : List Int) (q : Int) (a0 : 0 ≤ At) (a1 : At < 4294967296) (s0 : 0 ≤ St) (s1 : St < 4294967296) (q0 : 0 ≤ q) (q1 : q < 4294967296) :
    f_CpuSkips cd At St r0 r1 r2 r3 r4 r5 r6 r7 r8 r9 r10 r11 r12 r13 r14 r15 seed steps brk q = some true := by
  unfold f_CpuSkips
  rw [awake_eq, bind_some', cnot, ctrue rfl]
  obtain ⟨c, ec, c0, c1, hW, hz⟩ := stat_z s0 s1
  obtain ⟨w, ew, w0, w1, hw⟩ := ne_word q0 q1
  obtain ⟨a, ea, b0, b1, b2⟩ : ∃ a, bits .and .u32 At 4092 = a ∧ 0 ≤ a ∧ a < 4096 ∧ a % 4 = 0 := ⟨_, andHigh32 2 10 (by decide) (by decide) a0 a1, by omega, by omega, by omega⟩
  rw [ec, ew, ea]
  obtain ⟨q, eq, ⟨m, r, o, h, log, x, y, R, Sv, L, hm, hp, hr, hl, hlw, hoh, rfl⟩⟩ := pair_ok [w] (show (1 : Nat) ≤ 100 by decide) a c b0 (by omega) c0 c1 r0 r1 r2 r3 r4 r5 r6 r7 r8 r9 r10 r11 r12 r13 r14 r15 seed steps brk
  rw [eq, bind_some']
  dsimp only
  have ha : al c a = a := by unfold al; rw [hW]; omega
  have w0' : lo m (al c a) (W c) = w := by
    rw [ha, hW, lo4]
    have := wd_placed hp 0 (show (4 : Nat) ≤ 4 by decide) (by exact w0) (by exact w1)
    rw [show a + 4 * ((0 : Nat) : Int) = a by omega] at this
    exact this
  rw [w0', ha]
  have e15 : ∀ f : Nat → Int, rup f 15 ((a + 2 * (W c : Int)) % 4294967296) 15 = a + 8 := fun f => by rw [rup_at, hW]; omega
  rw [At_eq c0 c1, bind_some', e15, hW]
  generalize hg : rup r 15 ((a + 2 * ((4 : Nat) : Int)) % 4294967296) = g at *
  have g15 : g 15 = a + 8 := by rw [← hg, rup_at]; omega
  obtain ⟨d, ed, hd⟩ := aDecode_ends w 1 hw
  have hst := Step_skip (p1 := lo m ((a + ((4 : Nat) : Int)) % 4294967296) 4) (af := false) (mv := false) (r := g) (o := o) (h := h) (s := fun _ => 0) (c := c) (m := m) (log := log) (q := d) hm (by omega) c0 c1 hW (by omega) (by omega) ed (by rw [hd, hz]; exact holds1)
  have z : (fun _ => (0 : Int)) = pre g 0 := by funext k; unfold pre; rw [if_neg (by omega)]
  rw [z]
  refine loopO_for (fun i => (((i : Nat) : Int), pre g i)) 15 (fun i hi => ?_) ?_
  · show cond (decide ((i : Int) < 15)) _ _ = _
    rw [cpos (by omega), Get_eq i (by omega), bind_some', cand (by omega) (by omega), wrap_i64 (by omega) (by omega)]
    congr 3
    funext k
    show rup (pre g i) _ _ k = pre g (i + 1) k
    by_cases e : k = i
    · subst e
      rw [show ((k : Int)).toNat = k by omega, rup_at]; unfold pre; rw [if_pos (by omega)]
    · rw [show ((i : Int)).toNat = i by omega, rup_ne _ _ e]; unfold pre
      by_cases e2 : k < i
      · rw [if_pos e2, if_pos (by omega)]
      · rw [if_neg e2, if_neg (by omega)]
  · show cond (decide (((15 : Nat) : Int) < 15)) _ _ = _
    rw [cneg (by decide)]
    unfold f_Status
    rw [bind_some', ← z, hst, bind_some']
    dsimp only
    refine loopO_for (fun i => ((i : Nat) : Int)) 15 (fun i hi => ?_) ?_
    · show cond (decide ((i : Int) < 15)) _ _ = _
      rw [cpos (by omega), cand (by omega) (by omega), Get_eq i (by omega), bind_some', rup_ne _ _ (by omega), show ((i : Int)).toNat = i by omega]
      have : pre g 15 i = g i := by unfold pre; rw [if_pos hi]
      rw [this, show (g i != g i) = false by simp, cfalse rfl, wrap_i64 (by omega) (by omega)]
      rfl
    · show cond (decide (((15 : Nat) : Int) < 15)) _ _ = _
      rw [cneg (by decide), bind_some', ceq rfl, At_eq c0 c1, bind_some', rup_at, hW, g15, wr_u32, ceq (by omega), List.length_append, hl, List.length_cons, List.length_nil, wrap_i64 (by decide) (by decide), ceq (by decide), cand (by decide) (by decide)]
      have hx : ixL (log ++ [acc (a + 8) 4 (wd m (a + 8)) (cls false + 10)]) ((4 : Nat) : Int) = acc (a + 8) 4 (wd m (a + 8)) (cls false + 10) := by
        unfold ixL
        rw [show (((4 : Nat) : Int)).toNat = log.length by omega, List.getD_eq_getElem?_getD, List.getElem?_append_right (Nat.le_refl _), Nat.sub_self]
        rfl
      rw [hx]
      rfl
theorem law_CpuSkips (w : World) (l0 : List Value) (w0 : ∃ n, Rd Tryz.prog w n 27 l0) (a1 : Int) (w1 : (Lit.int .u32 a1).wf = true) :
    Calls Tryz.prog n_CpuSkips #[.agg l0.toArray, .int .u32 a1] w fun e w' => e = .returned (.bool true) ∧ Chg (fun _ => False) w w' := by
  obtain ⟨p0, c0, x0, At, St, g, seed, steps, p1, c1, x1, s⟩ := start_of w0
  rw [s.cells]
  exact (t_CpuSkips (CpuSkips_eq x0 At St (g 0) (g 1) (g 2) (g 3) (g 4) (g 5) (g 6) (g 7) (g 8) (g 9) (g 10) (g 11) (g 12) (g 13) (g 14) (g 15) seed steps x1 a1 s.hAt.1 s.hAt.2 s.hSt.1 s.hSt.2 (wf_u32 w1).1 (wf_u32 w1).2) trivial s.ro0 not_foot_nil0 s.ro1 not_foot_nil0 rfl rfl).mono fun e w' h => ⟨h.1, h.2.quiet⟩
end Go.Proofs.YtdjgicimfeocbaaGreat
