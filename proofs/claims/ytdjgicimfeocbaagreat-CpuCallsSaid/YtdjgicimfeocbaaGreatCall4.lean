/-
  CpuCalls: the law.
-/
import Derived.Test.YtdjgicimfeocbaaGreatCall3
namespace Go.Proofs.YtdjgicimfeocbaaGreat
open Go.Vc
set_option linter.unusedVariables false
set_option linter.unusedSimpArgs false

theorem half {code : List Int} {a : Int} {m : Nat → Int} {t : Nat} (hp : Placed code a m t) (u : Nat) (hu : u + 1 < t) : lo m (a + (u : Int)) 2 = cb code u + 256 * cb code (u + 1) := by
  rw [lo2]
  unfold hw
  rw [hp u (by omega), show a + (u : Int) + 1 = a + ((u + 1 : Nat) : Int) by omega, hp (u + 1) hu]
theorem word {code : List Int} {a : Int} {m : Nat → Int} {t : Nat} (hp : Placed code a m t) (k : Nat) (hk : 4 * k + 4 ≤ t) (h0 : 0 ≤ code.getD k 0) (h1 : code.getD k 0 < 4294967296) : lo m (a + 4 * (k : Int)) 4 = code.getD k 0 := by rw [lo4]; exact wd_placed hp k hk h0 h1
def codeA : List Int := [3942645761, 3800178689, 3942645758, 3800109057, 3778019102]
def codeT : List Int := [4161073152, 3892195841, 1187006144, 1198534913]
set_option maxRecDepth 20000 in
theorem CpuCalls_eq (cd : List Int) (At St : Int) (g0 g1 g2 r3 r4 r5 r6 r7 r8 r9 r10 r11 r12 r13 r14 r15 seed steps : Int) (brk : List Int) (x : Int) (a0 : 0 ≤ At) (a1 : At < 4294967296) (x0 : 0 ≤ x) (x1 : x < 4294967296) :
    f_CpuCalls cd At St g0 g1 g2 r3 r4 r5 r6 r7 r8 r9 r10 r11 r12 r13 r14 r15 seed steps brk x = some true := by
  unfold f_CpuCalls
  rw [awake_eq, bind_some', cnot, ctrue rfl, cand (by decide) (by decide), cand (by decide) (by decide)]
  obtain ⟨a, ea, b0, b1, b2⟩ : ∃ a, bits .and .u32 At 1020 = a ∧ 0 ≤ a ∧ a < 1024 ∧ a % 4 = 0 := ⟨_, andHigh32 2 8 (by decide) (by decide) a0 a1, by omega, by omega, by omega⟩
  rw [ea]
  obtain ⟨q, eq, ⟨m, r, o, h, log, y, z, R, Sv, L, hm, hp, hr, hl, hlw, hoh, rfl⟩⟩ := pair_ok codeA (by decide) a 31 b0 (by omega) (by decide) (by decide) g0 x 5 r3 r4 r5 r6 r7 r8 r9 r10 r11 r12 r13 r14 r15 seed steps brk
  obtain ⟨q', eq', ⟨m', r', o', h', log', y', z', R', Sv', L', hm', hp', hr', hl', hlw', hoh', rfl⟩⟩ := pair_ok codeT (by decide) a 63 b0 (by omega) (by decide) (by decide) g0 x 5 r3 r4 r5 r6 r7 r8 r9 r10 r11 r12 r13 r14 r15 seed steps brk
  rw [show ([(3942645761 : Int), (3800178689 : Int), (3942645758 : Int), (3800109057 : Int), (3778019102 : Int)] : List Int) = codeA from rfl, show ([(4161073152 : Int), (3892195841 : Int), (1187006144 : Int), (1198534913 : Int)] : List Int) = codeT from rfl, eq, eq', bind_some']
  dsimp only
  -- the words
  have aA : al 31 a = a := al_even W31 b2
  have aT : al 63 a = a := al_even W63 (by omega)
  have w0 : lo m a 4 = 3942645761 := by have := word hp 0 (by decide) (by decide) (by decide); rw [show a + 4 * ((0 : Nat) : Int) = a by omega] at this; exact this
  have w1 : lo m (a + 4) 4 = 3800178689 := word hp 1 (by decide) (by decide) (by decide)
  have w3 : lo m (a + 12) 4 = 3800109057 := word hp 3 (by decide) (by decide) (by decide)
  have w4 : lo m (a + 16) 4 = 3778019102 := word hp 4 (by decide) (by decide) (by decide)
  have u0 : lo m' a 2 = 61440 := by have := half hp' 0 (by decide); rw [show a + ((0 : Nat) : Int) = a by omega] at this; exact this.trans (by decide)
  have u1 : lo m' (a + 2) 2 = 63492 := (half hp' 2 (by decide)).trans (by decide)
  have u2 : lo m' (a + 4) 2 = 12801 := (half hp' 4 (by decide)).trans (by decide)
  have u6 : lo m' (a + 12) 2 = 12545 := (half hp' 12 (by decide)).trans (by decide)
  have u7 : lo m' (a + 14) 2 = 18288 := (half hp' 14 (by decide)).trans (by decide)
  rw [aA, aT, W31, W63, w0, u0, show (a + ((4 : Nat) : Int)) % 4294967296 = a + 4 by omega, w1, show (a + ((2 : Nat) : Int)) % 4294967296 = a + 2 by omega, u1, show (a + 2 * ((4 : Nat) : Int)) % 4294967296 = a + 8 by omega, show (a + 2 * ((2 : Nat) : Int)) % 4294967296 = a + 4 by omega]
  obtain ⟨g, hg⟩ : ∃ g, g = rup r 15 (a + 8) := ⟨_, rfl⟩
  obtain ⟨k, hk⟩ : ∃ k, k = rup r' 15 (a + 4) := ⟨_, rfl⟩
  rw [← hg, ← hk]
  have gv : g 15 = a + 8 ∧ g 1 = x ∧ g 2 = 5 := ⟨by rw [hg, rup_at], by rw [hg, rup_ne _ _ (by decide)]; exact hr 1 (by decide), by rw [hg, rup_ne _ _ (by decide)]; exact hr 2 (by decide)⟩
  have kv : k 15 = a + 4 ∧ k 1 = x ∧ k 2 = 5 := ⟨by rw [hk, rup_at], by rw [hk, rup_ne _ _ (by decide)]; exact hr' 1 (by decide), by rw [hk, rup_ne _ _ (by decide)]; exact hr' 2 (by decide)⟩
  obtain ⟨gv15, gv1, gv2⟩ := gv
  obtain ⟨kv15, kv1, kv2⟩ := kv
  -- ARM code
  obtain ⟨t1, l1, e1, n1, p1, q1, f1⟩ := s_bl (p1 := 3800178689) (mv := false) (o := o) (h := h) (s := fun _ => 0) (log := log) hm (by omega) gv15 (by omega) (by omega) (by omega)
  rw [show a + 8 + 4 = a + 12 by omega, show a + 8 + 8 = a + 16 by omega, w3, w4] at e1
  obtain ⟨t2, l2, e2, n2, p2, q2, f2⟩ := s_add (k := 1) (p1 := 3778019102) (mv := false) (o := o) (h := h) (s := fun _ => 0) (log := l1) dec_a1 (by decide) hm (by omega) p1 (by omega) (by omega) (by rw [f1 1 (by decide), gv1]; omega) (by rw [f1 1 (by decide), gv1]; omega)
  obtain ⟨t3, l3, e3, n3, p3, f3⟩ := s_bx (p1 := lo m (a + 8 + 12) 4) (mv := false) (o := o) (h := h) (s := fun _ => 0) (log := l2) (b := a + 4) hm (by omega) p2 (by omega) (by omega) (by rw [f2 14 (by decide) (by decide), q1]; omega) (by omega) (by omega) (by omega)
  rw [w1] at e3
  have t31 : t3 1 = (x + 1) % 4294967296 := by rw [f3 1 (by decide), q2, f1 1 (by decide), gv1]
  have t32 : t3 2 = 5 := by rw [f3 2 (by decide), f2 2 (by decide) (by decide), f1 2 (by decide), gv2]
  obtain ⟨t4, l4, e4, n4, p4, q4, f4⟩ := s_add (k := 2) (p1 := lo m (a + 4 + 4) 4) (mv := false) (o := o) (h := h) (s := fun _ => 0) (log := l3) dec_a2 (by decide) hm (by omega) p3 (by omega) (by omega) (by rw [t32]; decide) (by rw [t32]; decide)
  have t41 : t4 1 = (x + 1) % 4294967296 := by rw [f4 1 (by decide) (by decide), t31]
  have t42 : t4 2 = 6 := by rw [q4, t32]; decide
  -- Thumb code
  obtain ⟨v1, j1, c1, i1, s1, z1, y1⟩ := s_near (p1 := 63492) (mv := false) (o := o') (h := h') (s := fun _ => 0) (log := log') (c := 63) (by decide) (by decide) W63 hm' (by omega) kv15 (by omega) (by omega)
  rw [u2] at c1
  obtain ⟨v2, j2, c2, i2, s2, z2, y2⟩ := s_far (p1 := 12801) (mv := false) (o := o') (h := h') (s := fun _ => 0) (log := j1) (c := 63) (by decide) (by decide) W63 hm' (by omega) s1 (by omega) (by omega) (by omega) z1 (by omega) (by omega) (by omega)
  rw [show a + 4 + 8 = a + 12 by omega, show a + 4 + 10 = a + 14 by omega, u6, u7] at c2
  obtain ⟨v3, j3, d3, c3, i3, s3, z3, y3, m0, m1, mW⟩ := s_tadd (k := 1) (p1 := 18288) (mv := false) (o := o') (h := h') (s := fun _ => 0) (log := j2) (c := 63) dec_ta1 (by decide) (by decide) (by decide) W63 hm' (by omega) s2 (by omega) (by omega) (by rw [y2 1 (by decide), y1 1 (by decide), kv1]; omega) (by rw [y2 1 (by decide), y1 1 (by decide), kv1]; omega)
  obtain ⟨v4, j4, c4, i4, s4, y4⟩ := s_tbx (p1 := lo m' (a + 4 + 12) 2) (mv := false) (o := o') (h := h') (s := fun _ => 0) (log := j3) (c := d3) (b := a + 5) m0 m1 mW hm' (by omega) s3 (by omega) (by omega) (by rw [y3 14 (by decide) (by decide), z2]; omega) (by omega) (by omega) (by omega)
  rw [show a + 5 - 1 = a + 4 by omega, u2] at c4
  have v41 : v4 1 = (x + 1) % 4294967296 := by rw [y4 1 (by decide), z3, y2 1 (by decide), y1 1 (by decide), kv1]
  have v42 : v4 2 = 5 := by rw [y4 2 (by decide), y3 2 (by decide) (by decide), y2 2 (by decide), y1 2 (by decide), kv2]
  obtain ⟨v5, j5, d5, c5, i5, s5, z5, y5, m2, m3, mV⟩ := s_tadd (k := 2) (p1 := lo m' (a + 5 + 1) 2) (mv := false) (o := o') (h := h') (s := fun _ => 0) (log := j4) (c := d3) dec_ta2 (by decide) m0 m1 mW hm' (by omega) s4 (by omega) (by omega) (by rw [v42]; decide) (by rw [v42]; decide)
  have v51 : v5 1 = (x + 1) % 4294967296 := by rw [y5 1 (by decide) (by decide), v41]
  have v52 : v5 2 = 6 := by rw [z5, v42]; decide
  have m5 : d5 / 32 % 2 = 1 := by
    unfold W at mV
    by_cases e : d5 / 32 % 2 = 1
    · exact e
    · rw [if_neg e] at mV; cases mV
  rw [loopO_eq]
  show Option.bind (cond (decide ((0 : Int) < 4)) _ _) _ = _
  rw [cpos (by decide), e1, bind_some']
  dsimp only
  rw [bind_some', wrap_i64 (by decide) (by decide)]
  dsimp only
  rw [loopO_eq]
  show Option.bind (cond (decide ((0 + 1 : Int) < 4)) _ _) _ = _
  rw [cpos (by decide), e2, bind_some']
  dsimp only
  rw [bind_some', wrap_i64 (by decide) (by decide)]
  dsimp only
  rw [loopO_eq]
  show Option.bind (cond (decide ((0 + 1 + 1 : Int) < 4)) _ _) _ = _
  rw [cpos (by decide), e3, bind_some']
  dsimp only
  rw [bind_some', wrap_i64 (by decide) (by decide)]
  dsimp only
  rw [loopO_eq]
  show Option.bind (cond (decide ((0 + 1 + 1 + 1 : Int) < 4)) _ _) _ = _
  rw [cpos (by decide), e4, bind_some']
  dsimp only
  rw [bind_some', wrap_i64 (by decide) (by decide)]
  dsimp only
  rw [loopO_eq]
  show Option.bind (cond (decide ((0 + 1 + 1 + 1 + 1 : Int) < 4)) _ _) _ = _
  have G1 : ∀ (r o h s : Nat → Int) (c : Int), f_Get r o h s c 1 = some (r 1) := fun r o h s c => Get_eq 1 (by decide)
  have G2 : ∀ (r o h s : Nat → Int) (c : Int), f_Get r o h s c 2 = some (r 2) := fun r o h s c => Get_eq 2 (by decide)
  rw [cneg (by decide)]
  dsimp only
  rw [G1, bind_some', t41, wr_u32, cbeq rfl, G2, bind_some', t42, cbeq rfl, At_eq (by decide) (by decide), bind_some', p4, W31, wr_u32, cbeq (by omega), bind_some']
  dsimp only
  rw [loopO_eq]
  show Option.bind (Option.bind (cond (decide ((0 : Int) < 5)) _ _) _) _ = _
  rw [cpos (by decide), c1, bind_some']
  dsimp only
  rw [bind_some', wrap_i64 (by decide) (by decide)]
  dsimp only
  rw [loopO_eq]
  show Option.bind (Option.bind (cond (decide ((0 + 1 : Int) < 5)) _ _) _) _ = _
  rw [cpos (by decide), c2, bind_some']
  dsimp only
  rw [bind_some', wrap_i64 (by decide) (by decide)]
  dsimp only
  rw [loopO_eq]
  show Option.bind (Option.bind (cond (decide ((0 + 1 + 1 : Int) < 5)) _ _) _) _ = _
  rw [cpos (by decide), c3, bind_some']
  dsimp only
  rw [bind_some', wrap_i64 (by decide) (by decide)]
  dsimp only
  rw [loopO_eq]
  show Option.bind (Option.bind (cond (decide ((0 + 1 + 1 + 1 : Int) < 5)) _ _) _) _ = _
  rw [cpos (by decide), c4, bind_some']
  dsimp only
  rw [bind_some', wrap_i64 (by decide) (by decide)]
  dsimp only
  rw [loopO_eq]
  show Option.bind (Option.bind (cond (decide ((0 + 1 + 1 + 1 + 1 : Int) < 5)) _ _) _) _ = _
  rw [cpos (by decide), c5, bind_some']
  dsimp only
  rw [bind_some', wrap_i64 (by decide) (by decide)]
  dsimp only
  rw [loopO_eq]
  show Option.bind (Option.bind (cond (decide ((0 + 1 + 1 + 1 + 1 + 1 : Int) < 5)) _ _) _) _ = _
  unfold f_Status
  rw [cneg (by decide)]
  dsimp only
  rw [G1, bind_some', v51, wr_u32, ceq rfl, G2, bind_some', v52, ceq rfl, At_eq m2 m3, bind_some', s5, mV, ceq (by omega), bind_some', andHigh32 5 1 (by decide) (by decide) m2 m3]
  have hm5 : (d5 / ((2 ^ 5 : Nat) : Int) % ((2 ^ 1 : Nat) : Int) * ((2 ^ 5 : Nat) : Int) != 0) = true := by
    rw [show d5 / ((2 ^ 5 : Nat) : Int) % ((2 ^ 1 : Nat) : Int) = 1 from m5]
    decide
  rw [hm5]
  rfl
theorem law_CpuCalls (w : World) (l0 : List Value) (w0 : ∃ n, Rd Tryz.prog w n 27 l0) (a1 : Int) (w1 : (Lit.int .u32 a1).wf = true) :
    Calls Tryz.prog n_CpuCalls #[.agg l0.toArray, .int .u32 a1] w fun e w' => e = .returned (.bool true) ∧ Chg (fun _ => False) w w' := by
  obtain ⟨p0, c0, x0, At, St, g, seed, steps, p1, c1, x1, s⟩ := start_of w0
  rw [s.cells]
  exact (t_CpuCalls (CpuCalls_eq x0 At St (g 0) (g 1) (g 2) (g 3) (g 4) (g 5) (g 6) (g 7) (g 8) (g 9) (g 10) (g 11) (g 12) (g 13) (g 14) (g 15) seed steps x1 a1 s.hAt.1 s.hAt.2 (wf_u32 w1).1 (wf_u32 w1).2) trivial s.ro0 not_foot_nil0 s.ro1 not_foot_nil0 rfl rfl).mono fun e w' h => ⟨h.1, h.2.quiet⟩
end Go.Proofs.YtdjgicimfeocbaaGreat
