/-
  CpuMoves: the law.
-/
import Derived.Test.YtdjgicimfeocbaaGreatMove
import Derived.Test.YtdjgicimfeocbaaGreatStart
namespace Go.Proofs.YtdjgicimfeocbaaGreat
open Go.Vc
set_option linter.unusedVariables false
set_option linter.unusedSimpArgs false

def codeM : List Int := [3850375168, 3851427840, 3788517552, 3788521712, 3788525779, 3855638529, 3851448322, 3774906513]
theorem word8 {a : Int} {m : Nat → Int} (hp : Placed codeM a m (4 * codeM.length)) (k : Nat) (hk : k < 8) (h0 : 0 ≤ codeM.getD k 0) (h1 : codeM.getD k 0 < 4294967296) : wd m (a + 4 * (k : Int)) = codeM.getD k 0 := wd_placed hp k (show 4 * k + 4 ≤ 32 by omega) h0 h1
theorem b8 {x : Int} (x0 : 0 ≤ x) (x1 : x < 4294967296) : bits .and .u32 (Int.fdiv x 256) 255 = x / 256 % 256 := by
  rw [fdiv_pos (by decide)]
  have q0 : 0 ≤ x / 256 := by omega
  have q1 : x / 256 < 4294967296 := by omega
  exact and32 8 (by decide) (by decide) q0 q1
theorem sx16 (x : Int) : IntKind.wrap .i16 (x % 65536) = IntKind.wrap .i16 x := by
  rw [wr_i16, wr_i16]; omega
theorem sx8 {x : Int} (x0 : 0 ≤ x) (x1 : x < 4294967296) : IntKind.wrap .u32 (IntKind.wrap .i32 (IntKind.wrap .i8 (x / 16777216 % 256))) = IntKind.wrap .u32 (Int.fdiv (IntKind.wrap .i32 x) 16777216) := by
  rw [fdiv_pos (by decide), wr_u32, wr_u32, wr_i8, wr_i32, wr_i32]; omega
set_option maxRecDepth 20000 in
set_option maxHeartbeats 400000 in
theorem CpuMoves_eq (cd : List Int) (At St : Int) (g0 g1 r2 r3 r4 r5 r6 r7 r8 r9 r10 r11 r12 r13 r14 r15 seed steps : Int) (brk : List Int) (x q : Int) (a0 : 0 ≤ At) (a1 : At < 4294967296) (x0 : 0 ≤ x) (x1 : x < 4294967296) (q0 : 0 ≤ q) (q1 : q < 4294967296) :
    f_CpuMoves cd At St g0 g1 r2 r3 r4 r5 r6 r7 r8 r9 r10 r11 r12 r13 r14 r15 seed steps brk x q = some true := by
  unfold f_CpuMoves
  rw [awake_eq, bind_some', cnot, ctrue rfl, Let_eq, cand (by decide) (by decide), cand (by decide) (by decide)]
  obtain ⟨a, ea, b0, b1, b2⟩ : ∃ a, bits .and .u32 At 1020 = a ∧ 0 ≤ a ∧ a < 1024 ∧ a % 4 = 0 := ⟨_, andHigh32 2 8 (by decide) (by decide) a0 a1, by omega, by omega, by omega⟩
  obtain ⟨A, eA, A0, A1, A4⟩ : ∃ A, IntKind.wrap .u32 (3584 + IntKind.wrap .u32 (Int.tmod q 64 * 4)) = A ∧ 3584 ≤ A ∧ A < 3900 ∧ A % 4 = 0 := by
    have e : Int.tmod q 64 = q % 64 := Int.tmod_eq_emod_of_nonneg q0
    rw [e, wrap_u32 (x := q % 64 * 4) (by omega) (by omega), wrap_u32 (by omega) (by omega)]
    exact ⟨_, rfl, by omega, by omega, by omega⟩
  rw [ea, eA, show ([(3850375168 : Int), (3851427840 : Int), (3788517552 : Int), (3788521712 : Int), (3788525779 : Int), (3855638529 : Int), (3851448322 : Int), (3774906513 : Int)] : List Int) = codeM from rfl]
  obtain ⟨qq, eq, ⟨m, r, o, h, log, y, z, R, Sv, L, hm, hp, hr, hl, hlw, hoh, rfl⟩⟩ := pair_ok codeM (by decide) a 31 b0 (by omega) (by decide) (by decide) A x r2 r3 r4 r5 r6 r7 r8 r9 r10 r11 r12 r13 r14 r15 seed steps brk
  rw [eq, bind_some']
  dsimp only
  have ha : al 31 a = a := by unfold al; rw [W31]; omega
  have P : ∀ k : Nat, k < 8 → ∀ v, codeM.getD k 0 = v → 0 ≤ v → v < 4294967296 → wd m (a + 4 * (k : Int)) = v := fun k hk v hv v0 v1 => by rw [word8 hp k hk (by rw [hv]; exact v0) (by rw [hv]; exact v1), hv]
  have w0 : lo m a 4 = 3850375168 := by have := P 0 (by decide) 3850375168 rfl (by decide) (by decide); rw [show a + 4 * ((0 : Nat) : Int) = a by omega] at this; rw [lo4]; exact this
  have w1 : lo m (a + 4) 4 = 3851427840 := by rw [lo4]; exact P 1 (by decide) _ rfl (by decide) (by decide)
  have w2 : lo m (a + 8) 4 = 3788517552 := by rw [lo4]; exact P 2 (by decide) _ rfl (by decide) (by decide)
  rw [ha, W31, w0, show (a + ((4 : Nat) : Int)) % 4294967296 = a + 4 by omega, w1, show (a + 2 * ((4 : Nat) : Int)) % 4294967296 = a + 8 by omega]
  obtain ⟨t0, ht0⟩ : ∃ t0, t0 = rup r 15 (a + 8) := ⟨_, rfl⟩
  rw [← ht0]
  have v0 : t0 15 = a + 8 := by rw [ht0, rup_at]
  have v00 : t0 0 = A := by rw [ht0, rup_ne _ _ (by decide)]; exact hr 0 (by decide)
  have v01 : t0 1 = x := by rw [ht0, rup_ne _ _ (by decide)]; exact hr 1 (by decide)
  obtain ⟨M, hM⟩ : ∃ M, M = st4 m A x := ⟨_, rfl⟩
  have hMb : Byt M := by rw [hM]; exact st4_byt hm _ _
  have hMw : wd M A = x := by rw [hM]; exact wd_same (by omega) (by omega) x0 x1
  have hMh : hw M A = x % 65536 := by rw [hM]; exact hw_st4 (by omega) (by omega)
  have hM1 : mb M (A + 1) = x / 256 % 256 := by rw [hM]; exact st4_1 (by omega) (by omega)
  have hM3 : mb M (A + 3) = x / 16777216 % 256 := by rw [hM]; exact st4_3 (by omega) (by omega)
  have low : ∀ c, 0 ≤ c → c + 4 ≤ 3000 → wd M c = wd m c := fun c c0 c1 => by rw [hM]; exact wd_other (by omega) (by omega) c0 (by omega) (.inl (by omega))
  have e1 := SS_word (p0 := 3850375168) (p1 := 3851427840) (af := false) (mv := false) (r := t0) (o := o) (h := h) (s := fun _ => 0) (c := 31) (m := m) (log := log) hm (by omega) (by decide) (by decide) W31 (by omega) (by omega) dec_str holds14 (r' := t0) (m' := M) (hx := fun log' hlog' => by rw [hM]; exact word_st v00 v01 (by omega) (by omega) A4 x0 x1 (by omega)) (hr := rfl)
  rw [v0, w2, show (a + 8 + 4) % 4294967296 = a + 12 by omega] at e1
  obtain ⟨t1, ht1⟩ : ∃ t1, t1 = rup (t0) 15 (a + 12) := ⟨_, rfl⟩
  rw [← ht1] at e1
  have v1 : t1 15 = a + 12 := by rw [ht1, rup_at]
  have v10 : t1 0 = A := by rw [ht1, rup_ne _ _ (by decide)]; exact v00
  have v11 : t1 1 = x := by rw [ht1, rup_ne _ _ (by decide)]; exact v01
  generalize hL1 : log ++ [acc (a + 8) 4 _ _] ++ _ = L1 at e1
  have n1 : L1.length ≤ 9 := by rw [← hL1]; simp only [List.length_append, List.length_cons, List.length_nil]; omega
  have e2 := SS_word (p0 := 3851427840) (p1 := 3788517552) (af := true) (mv := false) (r := t1) (o := o) (h := h) (s := fun _ => 0) (c := 31) (m := M) (log := L1) hMb (by omega) (by decide) (by decide) W31 (by omega) (by omega) dec_ldr holds14 (r' := rup t1 2 x) (m' := M) (T := [⟨0, 0, A, 4, false, x, 0⟩] ++ [⟨0, 0, 0, 1, false, 0, 2⟩]) (hx := fun log' hlog' => (word_ld (rd := 2) (e := ⟨0, 0, A, 4, false, x, 0⟩) (by decide) v10 (by omega) (by omega) (by decide) (by decide) (by omega) (by rw [show A + 0 = A by omega]; exact load_w hMb (by omega) (by omega) (by omega) A4 hMw x0 x1)).trans (by rw [List.append_assoc])) (hr := rup_ne _ _ (by decide))
  rw [v1, lo4, low (a + 12) (by omega) (by omega), show wd m (a + 12) = 3788521712 from P 3 (by decide) 3788521712 rfl (by decide) (by decide), show (a + 12 + 4) % 4294967296 = a + 16 by omega] at e2
  obtain ⟨t2, ht2⟩ : ∃ t2, t2 = rup (rup t1 2 x) 15 (a + 16) := ⟨_, rfl⟩
  rw [← ht2] at e2
  have v2 : t2 15 = a + 16 := by rw [ht2, rup_at]
  have v20 : t2 0 = A := by rw [ht2, rup_ne _ _ (by decide), rup_ne _ _ (by decide)]; exact v10
  have v21 : t2 1 = x := by rw [ht2, rup_ne _ _ (by decide), rup_ne _ _ (by decide)]; exact v11
  have u2_2 : t2 2 = x := by rw [ht2, rup_ne _ _ (by decide), rup_at]
  generalize hL2 : L1 ++ [acc (a + 12) 4 _ _] ++ _ = L2 at e2
  have n2 : L2.length ≤ 14 := by rw [← hL2]; simp only [List.length_append, List.length_cons, List.length_nil]; omega
  have e3 := SS_half (p0 := 3788517552) (p1 := 3788521712) (af := true) (mv := false) (r := t2) (o := o) (h := h) (s := fun _ => 0) (c := 31) (m := M) (log := L2) hMb (by omega) (by decide) (by decide) W31 (by omega) (by omega) dec_ldrh holds14 (r' := rup t2 3 (x % 65536)) (m' := M) (T := [⟨0, 0, A, 2, false, x % 65536, 0⟩] ++ [⟨0, 0, 0, 1, false, 0, 2⟩]) (hx := fun log' hlog' => (half_ld (rd := 3) (e := ⟨0, 0, A, 2, false, x % 65536, 0⟩) (by decide) v20 (by omega) (by omega) (by decide) (by decide) (by omega) (by rw [show A + 0 = A by omega]; exact small_1 hMb (by omega) (by omega) (by omega) (by omega) hMh (by omega) (by omega))).trans (by rw [List.append_assoc])) (hr := rup_ne _ _ (by decide))
  rw [v2, lo4, low (a + 16) (by omega) (by omega), show wd m (a + 16) = 3788525779 from P 4 (by decide) 3788525779 rfl (by decide) (by decide), show (a + 16 + 4) % 4294967296 = a + 20 by omega] at e3
  obtain ⟨t3, ht3⟩ : ∃ t3, t3 = rup (rup t2 3 (x % 65536)) 15 (a + 20) := ⟨_, rfl⟩
  rw [← ht3] at e3
  have v3 : t3 15 = a + 20 := by rw [ht3, rup_at]
  have v30 : t3 0 = A := by rw [ht3, rup_ne _ _ (by decide), rup_ne _ _ (by decide)]; exact v20
  have v31 : t3 1 = x := by rw [ht3, rup_ne _ _ (by decide), rup_ne _ _ (by decide)]; exact v21
  have u3_2 : t3 2 = x := by rw [ht3, rup_ne _ _ (by decide), rup_ne _ _ (by decide)]; exact u2_2
  have u3_3 : t3 3 = (x % 65536) := by rw [ht3, rup_ne _ _ (by decide), rup_at]
  generalize hL3 : L2 ++ [acc (a + 16) 4 _ _] ++ _ = L3 at e3
  have n3 : L3.length ≤ 19 := by rw [← hL3]; simp only [List.length_append, List.length_cons, List.length_nil]; omega
  have e4 := SS_half (p0 := 3788521712) (p1 := 3788525779) (af := true) (mv := false) (r := t3) (o := o) (h := h) (s := fun _ => 0) (c := 31) (m := M) (log := L3) hMb (by omega) (by decide) (by decide) W31 (by omega) (by omega) dec_ldrsh holds14 (r' := rup t3 4 (IntKind.wrap .u32 (IntKind.wrap .i32 (IntKind.wrap .i16 (x % 65536))))) (m' := M) (T := [⟨0, 0, A, 2, false, x % 65536, 0⟩] ++ [⟨0, 0, 0, 1, false, 0, 2⟩]) (hx := fun log' hlog' => (half_ld (rd := 4) (e := ⟨0, 0, A, 2, false, x % 65536, 0⟩) (by decide) v30 (by omega) (by omega) (by decide) (by decide) (by omega) (by rw [show A + 0 = A by omega]; exact small_3 hMb (by omega) (by omega) (by omega) (by omega) hMh (by omega) (by omega))).trans (by rw [List.append_assoc])) (hr := rup_ne _ _ (by decide))
  rw [v3, lo4, low (a + 20) (by omega) (by omega), show wd m (a + 20) = 3855638529 from P 5 (by decide) 3855638529 rfl (by decide) (by decide), show (a + 20 + 4) % 4294967296 = a + 24 by omega] at e4
  obtain ⟨t4, ht4⟩ : ∃ t4, t4 = rup (rup t3 4 (IntKind.wrap .u32 (IntKind.wrap .i32 (IntKind.wrap .i16 (x % 65536))))) 15 (a + 24) := ⟨_, rfl⟩
  rw [← ht4] at e4
  have v4 : t4 15 = a + 24 := by rw [ht4, rup_at]
  have v40 : t4 0 = A := by rw [ht4, rup_ne _ _ (by decide), rup_ne _ _ (by decide)]; exact v30
  have v41 : t4 1 = x := by rw [ht4, rup_ne _ _ (by decide), rup_ne _ _ (by decide)]; exact v31
  have u4_2 : t4 2 = x := by rw [ht4, rup_ne _ _ (by decide), rup_ne _ _ (by decide)]; exact u3_2
  have u4_3 : t4 3 = (x % 65536) := by rw [ht4, rup_ne _ _ (by decide), rup_ne _ _ (by decide)]; exact u3_3
  have u4_4 : t4 4 = (IntKind.wrap .u32 (IntKind.wrap .i32 (IntKind.wrap .i16 (x % 65536)))) := by rw [ht4, rup_ne _ _ (by decide), rup_at]
  generalize hL4 : L3 ++ [acc (a + 20) 4 _ _] ++ _ = L4 at e4
  have n4 : L4.length ≤ 24 := by rw [← hL4]; simp only [List.length_append, List.length_cons, List.length_nil]; omega
  have e5 := SS_half (p0 := 3788525779) (p1 := 3855638529) (af := true) (mv := false) (r := t4) (o := o) (h := h) (s := fun _ => 0) (c := 31) (m := M) (log := L4) hMb (by omega) (by decide) (by decide) W31 (by omega) (by omega) dec_ldrsb holds14 (r' := rup t4 5 (IntKind.wrap .u32 (IntKind.wrap .i32 (IntKind.wrap .i8 (x / 16777216 % 256))))) (m' := M) (T := [⟨0, 0, A + 3, 1, false, x / 16777216 % 256, 0⟩] ++ [⟨0, 0, 0, 1, false, 0, 2⟩]) (hx := fun log' hlog' => (half_ld (rd := 5) (e := ⟨0, 0, A + 3, 1, false, x / 16777216 % 256, 0⟩) (by decide) v40 (by omega) (by omega) (by decide) (by decide) (by omega) (small_2 hMb (by omega) (by omega) (by omega) hM3)).trans (by rw [List.append_assoc])) (hr := rup_ne _ _ (by decide))
  rw [v4, lo4, low (a + 24) (by omega) (by omega), show wd m (a + 24) = 3851448322 from P 6 (by decide) 3851448322 rfl (by decide) (by decide), show (a + 24 + 4) % 4294967296 = a + 28 by omega] at e5
  obtain ⟨t5, ht5⟩ : ∃ t5, t5 = rup (rup t4 5 (IntKind.wrap .u32 (IntKind.wrap .i32 (IntKind.wrap .i8 (x / 16777216 % 256))))) 15 (a + 28) := ⟨_, rfl⟩
  rw [← ht5] at e5
  have v5 : t5 15 = a + 28 := by rw [ht5, rup_at]
  have v50 : t5 0 = A := by rw [ht5, rup_ne _ _ (by decide), rup_ne _ _ (by decide)]; exact v40
  have v51 : t5 1 = x := by rw [ht5, rup_ne _ _ (by decide), rup_ne _ _ (by decide)]; exact v41
  have u5_2 : t5 2 = x := by rw [ht5, rup_ne _ _ (by decide), rup_ne _ _ (by decide)]; exact u4_2
  have u5_3 : t5 3 = (x % 65536) := by rw [ht5, rup_ne _ _ (by decide), rup_ne _ _ (by decide)]; exact u4_3
  have u5_4 : t5 4 = (IntKind.wrap .u32 (IntKind.wrap .i32 (IntKind.wrap .i16 (x % 65536)))) := by rw [ht5, rup_ne _ _ (by decide), rup_ne _ _ (by decide)]; exact u4_4
  have u5_5 : t5 5 = (IntKind.wrap .u32 (IntKind.wrap .i32 (IntKind.wrap .i8 (x / 16777216 % 256)))) := by rw [ht5, rup_ne _ _ (by decide), rup_at]
  generalize hL5 : L4 ++ [acc (a + 24) 4 _ _] ++ _ = L5 at e5
  have n5 : L5.length ≤ 29 := by rw [← hL5]; simp only [List.length_append, List.length_cons, List.length_nil]; omega
  have e6 := SS_word (p0 := 3855638529) (p1 := 3851448322) (af := true) (mv := false) (r := t5) (o := o) (h := h) (s := fun _ => 0) (c := 31) (m := M) (log := L5) hMb (by omega) (by decide) (by decide) W31 (by omega) (by omega) dec_ldrb holds14 (r' := rup t5 6 (x / 256 % 256)) (m' := M) (T := [⟨0, 0, A + 1, 1, false, x / 256 % 256, 0⟩] ++ [⟨0, 0, 0, 1, false, 0, 2⟩]) (hx := fun log' hlog' => (word_ld (rd := 6) (e := ⟨0, 0, A + 1, 1, false, x / 256 % 256, 0⟩) (by decide) v50 (by omega) (by omega) (by decide) (by decide) (by omega) (load_b hMb (by omega) (by omega) (by omega) hM1 (by omega) (by omega))).trans (by rw [List.append_assoc])) (hr := rup_ne _ _ (by decide))
  rw [v5, lo4, low (a + 28) (by omega) (by omega), show wd m (a + 28) = 3774906513 from P 7 (by decide) 3774906513 rfl (by decide) (by decide), show (a + 28 + 4) % 4294967296 = a + 32 by omega] at e6
  obtain ⟨t6, ht6⟩ : ∃ t6, t6 = rup (rup t5 6 (x / 256 % 256)) 15 (a + 32) := ⟨_, rfl⟩
  rw [← ht6] at e6
  have v6 : t6 15 = a + 32 := by rw [ht6, rup_at]
  have v60 : t6 0 = A := by rw [ht6, rup_ne _ _ (by decide), rup_ne _ _ (by decide)]; exact v50
  have v61 : t6 1 = x := by rw [ht6, rup_ne _ _ (by decide), rup_ne _ _ (by decide)]; exact v51
  have u6_2 : t6 2 = x := by rw [ht6, rup_ne _ _ (by decide), rup_ne _ _ (by decide)]; exact u5_2
  have u6_3 : t6 3 = (x % 65536) := by rw [ht6, rup_ne _ _ (by decide), rup_ne _ _ (by decide)]; exact u5_3
  have u6_4 : t6 4 = (IntKind.wrap .u32 (IntKind.wrap .i32 (IntKind.wrap .i16 (x % 65536)))) := by rw [ht6, rup_ne _ _ (by decide), rup_ne _ _ (by decide)]; exact u5_4
  have u6_5 : t6 5 = (IntKind.wrap .u32 (IntKind.wrap .i32 (IntKind.wrap .i8 (x / 16777216 % 256)))) := by rw [ht6, rup_ne _ _ (by decide), rup_ne _ _ (by decide)]; exact u5_5
  have u6_6 : t6 6 = (x / 256 % 256) := by rw [ht6, rup_ne _ _ (by decide), rup_at]
  generalize hL6 : L5 ++ [acc (a + 28) 4 _ _] ++ _ = L6 at e6
  have n6 : L6.length ≤ 34 := by rw [← hL6]; simp only [List.length_append, List.length_cons, List.length_nil]; omega
  have e7 := SS_word (p0 := 3851448322) (p1 := 3774906513) (af := true) (mv := false) (r := t6) (o := o) (h := h) (s := fun _ => 0) (c := 31) (m := M) (log := L6) hMb (by omega) (by decide) (by decide) W31 (by omega) (by omega) dec_ldr2 holds14 (r' := rup t6 7 (bits .or .u32 (Int.fdiv x 65536) (IntKind.wrap .u32 (x * 65536)))) (m' := M) (T := [⟨0, 0, A, 4, false, x, 0⟩] ++ [⟨0, 0, 0, 1, false, 0, 2⟩]) (hx := fun log' hlog' => (word_ld (rd := 7) (e := ⟨0, 0, A, 4, false, x, 0⟩) (by decide) v60 (by omega) (by omega) (by decide) (by decide) (by omega) (load_2 hMb (by omega) (by omega) (by omega) A4 hMw x0 x1)).trans (by rw [List.append_assoc])) (hr := rup_ne _ _ (by decide))
  rw [v6, show (a + 32 + 4) % 4294967296 = a + 36 by omega] at e7
  obtain ⟨P8, hP8⟩ : ∃ P8, P8 = lo M (a + 32) 4 := ⟨_, rfl⟩
  rw [← hP8] at e7
  obtain ⟨t7, ht7⟩ : ∃ t7, t7 = rup (rup t6 7 (bits .or .u32 (Int.fdiv x 65536) (IntKind.wrap .u32 (x * 65536)))) 15 (a + 36) := ⟨_, rfl⟩
  rw [← ht7] at e7
  have v7 : t7 15 = a + 36 := by rw [ht7, rup_at]
  have v70 : t7 0 = A := by rw [ht7, rup_ne _ _ (by decide), rup_ne _ _ (by decide)]; exact v60
  have v71 : t7 1 = x := by rw [ht7, rup_ne _ _ (by decide), rup_ne _ _ (by decide)]; exact v61
  have u7_2 : t7 2 = x := by rw [ht7, rup_ne _ _ (by decide), rup_ne _ _ (by decide)]; exact u6_2
  have u7_3 : t7 3 = (x % 65536) := by rw [ht7, rup_ne _ _ (by decide), rup_ne _ _ (by decide)]; exact u6_3
  have u7_4 : t7 4 = (IntKind.wrap .u32 (IntKind.wrap .i32 (IntKind.wrap .i16 (x % 65536)))) := by rw [ht7, rup_ne _ _ (by decide), rup_ne _ _ (by decide)]; exact u6_4
  have u7_5 : t7 5 = (IntKind.wrap .u32 (IntKind.wrap .i32 (IntKind.wrap .i8 (x / 16777216 % 256)))) := by rw [ht7, rup_ne _ _ (by decide), rup_ne _ _ (by decide)]; exact u6_5
  have u7_6 : t7 6 = (x / 256 % 256) := by rw [ht7, rup_ne _ _ (by decide), rup_ne _ _ (by decide)]; exact u6_6
  have u7_7 : t7 7 = (bits .or .u32 (Int.fdiv x 65536) (IntKind.wrap .u32 (x * 65536))) := by rw [ht7, rup_ne _ _ (by decide), rup_at]
  generalize hL7 : L6 ++ [acc (a + 32) 4 _ _] ++ _ = L7 at e7
  have n7 : L7.length ≤ 39 := by rw [← hL7]; simp only [List.length_append, List.length_cons, List.length_nil]; omega
  obtain ⟨M8, hM8⟩ : ∃ M8, M8 = st4 M A x := ⟨_, rfl⟩
  have e8 := SS_swap (p0 := 3774906513) (p1 := P8) (af := true) (mv := false) (r := t7) (o := o) (h := h) (s := fun _ => 0) (c := 31) (m := M) (log := L7) hMb (by omega) (by decide) (by decide) W31 (by omega) (by omega) dec_swp holds14 (r' := rup t7 8 x) (m' := M8) (T := [⟨0, 0, A, 4, false, x, 0⟩] ++ ([⟨0, 0, A, 4, true, x, 0⟩] ++ [⟨0, 0, 0, 1, false, 0, 2⟩])) (hx := fun log' hlog' => by rw [hM8]; exact (swap_eq (rd := 8) (by decide) hMb (by omega) v70 v71 (by omega) (by omega) A4 hMw x0 x1).trans (by rw [List.append_assoc, List.append_assoc])) (hr := rup_ne _ _ (by decide))
  rw [v7, show (a + 36 + 4) % 4294967296 = a + 40 by omega] at e8
  obtain ⟨P9, hP9⟩ : ∃ P9, P9 = lo M (a + 36) 4 := ⟨_, rfl⟩
  rw [← hP9] at e8
  obtain ⟨t8, ht8⟩ : ∃ t8, t8 = rup (rup t7 8 x) 15 (a + 40) := ⟨_, rfl⟩
  rw [← ht8] at e8
  have v8 : t8 15 = a + 40 := by rw [ht8, rup_at]
  have v80 : t8 0 = A := by rw [ht8, rup_ne _ _ (by decide), rup_ne _ _ (by decide)]; exact v70
  have v81 : t8 1 = x := by rw [ht8, rup_ne _ _ (by decide), rup_ne _ _ (by decide)]; exact v71
  have u8_2 : t8 2 = x := by rw [ht8, rup_ne _ _ (by decide), rup_ne _ _ (by decide)]; exact u7_2
  have u8_3 : t8 3 = (x % 65536) := by rw [ht8, rup_ne _ _ (by decide), rup_ne _ _ (by decide)]; exact u7_3
  have u8_4 : t8 4 = (IntKind.wrap .u32 (IntKind.wrap .i32 (IntKind.wrap .i16 (x % 65536)))) := by rw [ht8, rup_ne _ _ (by decide), rup_ne _ _ (by decide)]; exact u7_4
  have u8_5 : t8 5 = (IntKind.wrap .u32 (IntKind.wrap .i32 (IntKind.wrap .i8 (x / 16777216 % 256)))) := by rw [ht8, rup_ne _ _ (by decide), rup_ne _ _ (by decide)]; exact u7_5
  have u8_6 : t8 6 = (x / 256 % 256) := by rw [ht8, rup_ne _ _ (by decide), rup_ne _ _ (by decide)]; exact u7_6
  have u8_7 : t8 7 = (bits .or .u32 (Int.fdiv x 65536) (IntKind.wrap .u32 (x * 65536))) := by rw [ht8, rup_ne _ _ (by decide), rup_ne _ _ (by decide)]; exact u7_7
  have u8_8 : t8 8 = x := by rw [ht8, rup_ne _ _ (by decide), rup_at]
  generalize hL8 : L7 ++ [acc (a + 36) 4 _ _] ++ _ = L8 at e8
  have n8 : L8.length ≤ 44 := by rw [← hL8]; simp only [List.length_append, List.length_cons, List.length_nil]; omega
  rw [loopO_eq]
  show Option.bind (cond (decide ((0 : Int) < 8)) _ _) _ = _
  rw [cpos (by decide), e1, bind_some']
  dsimp only
  rw [bind_some', wrap_i64 (by decide) (by decide)]
  dsimp only
  rw [loopO_eq]
  show Option.bind (cond (decide ((0 + 1 : Int) < 8)) _ _) _ = _
  rw [cpos (by decide), e2, bind_some']
  dsimp only
  rw [bind_some', wrap_i64 (by decide) (by decide)]
  dsimp only
  rw [loopO_eq]
  show Option.bind (cond (decide ((0 + 1 + 1 : Int) < 8)) _ _) _ = _
  rw [cpos (by decide), e3, bind_some']
  dsimp only
  rw [bind_some', wrap_i64 (by decide) (by decide)]
  dsimp only
  rw [loopO_eq]
  show Option.bind (cond (decide ((0 + 1 + 1 + 1 : Int) < 8)) _ _) _ = _
  rw [cpos (by decide), e4, bind_some']
  dsimp only
  rw [bind_some', wrap_i64 (by decide) (by decide)]
  dsimp only
  rw [loopO_eq]
  show Option.bind (cond (decide ((0 + 1 + 1 + 1 + 1 : Int) < 8)) _ _) _ = _
  rw [cpos (by decide), e5, bind_some']
  dsimp only
  rw [bind_some', wrap_i64 (by decide) (by decide)]
  dsimp only
  rw [loopO_eq]
  show Option.bind (cond (decide ((0 + 1 + 1 + 1 + 1 + 1 : Int) < 8)) _ _) _ = _
  rw [cpos (by decide), e6, bind_some']
  dsimp only
  rw [bind_some', wrap_i64 (by decide) (by decide)]
  dsimp only
  rw [loopO_eq]
  show Option.bind (cond (decide ((0 + 1 + 1 + 1 + 1 + 1 + 1 : Int) < 8)) _ _) _ = _
  rw [cpos (by decide), e7, bind_some']
  dsimp only
  rw [bind_some', wrap_i64 (by decide) (by decide)]
  dsimp only
  rw [loopO_eq]
  show Option.bind (cond (decide ((0 + 1 + 1 + 1 + 1 + 1 + 1 + 1 : Int) < 8)) _ _) _ = _
  rw [cpos (by decide), e8, bind_some']
  dsimp only
  rw [bind_some', wrap_i64 (by decide) (by decide)]
  dsimp only
  rw [loopO_eq]
  show Option.bind (cond (decide ((0 + 1 + 1 + 1 + 1 + 1 + 1 + 1 + 1 : Int) < 8)) _ _) _ = _
  rw [cneg (by decide)]
  dsimp only
  have G : ∀ (i : Nat) (hi : i < 16) (r o h s : Nat → Int) (c : Int), f_Get r o h s c (i : Int) = some (r i) := fun i hi r o h s c => Get_eq i hi
  have i16 : IntKind.wrap .i16 (x % 65536) = IntKind.wrap .i16 x := sx16 x
  have i8 : IntKind.wrap .u32 (IntKind.wrap .i32 (IntKind.wrap .i8 (x / 16777216 % 256))) = IntKind.wrap .u32 (Int.fdiv (IntKind.wrap .i32 x) 16777216) := sx8 x0 x1
  rw [show ∀ (r o h s : Nat → Int) (c : Int), f_Get r o h s c 2 = some (r 2) from G 2 (by decide), bind_some', u8_2, ceq rfl, show ∀ (r o h s : Nat → Int) (c : Int), f_Get r o h s c 3 = some (r 3) from G 3 (by decide), bind_some', u8_3, and32 16 (by decide) (by decide) x0 x1, ceq (show x % 65536 = x % ((2 ^ 16 : Nat) : Int) from rfl), show ∀ (r o h s : Nat → Int) (c : Int), f_Get r o h s c 4 = some (r 4) from G 4 (by decide), bind_some', u8_4, i16, ceq rfl, show ∀ (r o h s : Nat → Int) (c : Int), f_Get r o h s c 5 = some (r 5) from G 5 (by decide), bind_some', u8_5, i8, ceq rfl, show ∀ (r o h s : Nat → Int) (c : Int), f_Get r o h s c 6 = some (r 6) from G 6 (by decide), bind_some', u8_6, b8 x0 x1, ceq rfl, show ∀ (r o h s : Nat → Int) (c : Int), f_Get r o h s c 7 = some (r 7) from G 7 (by decide), bind_some', u8_7, ceq rfl, show ∀ (r o h s : Nat → Int) (c : Int), f_Get r o h s c 8 = some (r 8) from G 8 (by decide), bind_some', u8_8]
  rw [show (x == x) = true by simp]
  rfl
theorem law_CpuMoves (w : World) (l0 : List Value) (w0 : ∃ n, Rd Tryz.prog w n 27 l0) (a1 : Int) (w1 : (Lit.int .u32 a1).wf = true) (a2 : Int) (w2 : (Lit.int .u32 a2).wf = true) :
    Calls Tryz.prog n_CpuMoves #[.agg l0.toArray, .int .u32 a1, .int .u32 a2] w fun e w' => e = .returned (.bool true) ∧ Chg (fun _ => False) w w' := by
  obtain ⟨p0, c0, x0, At, St, g, seed, steps, p1, c1, x1, s⟩ := start_of w0
  rw [s.cells]
  exact (t_CpuMoves (CpuMoves_eq x0 At St (g 0) (g 1) (g 2) (g 3) (g 4) (g 5) (g 6) (g 7) (g 8) (g 9) (g 10) (g 11) (g 12) (g 13) (g 14) (g 15) seed steps x1 a1 a2 s.hAt.1 s.hAt.2 (wf_u32 w1).1 (wf_u32 w1).2 (wf_u32 w2).1 (wf_u32 w2).2) trivial s.ro0 not_foot_nil0 s.ro1 not_foot_nil0 rfl rfl).mono fun e w' h => ⟨h.1, h.2.quiet⟩
end Go.Proofs.YtdjgicimfeocbaaGreat
