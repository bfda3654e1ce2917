/-
  The document's Feed; what holds of a unit between the calls.
-/
import Derived.Test.YtccmpceifheejaaOv
namespace Go.Proofs.Ytccmpceifheejaa
open Go.Vc
set_option linter.unusedVariables false
set_option linter.unusedSimpArgs false
set_option maxHeartbeats 4000000
theorem rFeed_eq {U : US} (l0 : U.s0.length ≤ 32) (l1 : U.s1.length ≤ 32) {i x : Int} (hx : 0 ≤ x ∧ x < 4294967296) : k_rFeed U i x = some (r_rFeed (fU U i x)) := by
  unfold k_rFeed rA f_rFeed fU
  have q0 : IntKind.wrap .u32 (Int.tdiv x 256) = x / 256 := u32_div hx
  have q1 : IntKind.wrap .u32 (Int.tdiv (x / 256) 256) = x / 256 / 256 := u32_div (by omega)
  have q2 : IntKind.wrap .u32 (Int.tdiv (x / 256 / 256) 256) = x / 256 / 256 / 256 := u32_div (by omega)
  have q3 : IntKind.wrap .u32 (Int.tdiv (x / 256 / 256 / 256) 256) = x / 256 / 256 / 256 / 256 := u32_div (by omega)
  have b0 : x % 256 = by4 x 0 := by unfold by4; omega
  have b1 : x / 256 % 256 = by4 x 1 := by unfold by4; omega
  have b2 : x / 256 / 256 % 256 = by4 x 2 := by unfold by4; omega
  have b3 : x / 256 / 256 / 256 % 256 = by4 x 3 := by unfold by4; omega
  by_cases i0 : i = 0
  · subst i0
    rw [if_pos rfl]
    refine loopO_for (fun k => match k with
      | 0 => (x, (0 : Int), feedN sg x U.s0 0, U.s1)
      | 1 => (x / 256, (1 : Int), feedN sg x U.s0 1, U.s1)
      | 2 => (x / 256 / 256, (2 : Int), feedN sg x U.s0 2, U.s1)
      | 3 => (x / 256 / 256 / 256, (3 : Int), feedN sg x U.s0 3, U.s1)
      | _ => (x / 256 / 256 / 256 / 256, (4 : Int), feedN sg x U.s0 4, U.s1)) 4 ?_ ?_
    rotate_left
    · rfl
    intro k hk
    obtain rfl | rfl | rfl | rfl : k = 0 ∨ k = 1 ∨ k = 2 ∨ k = 3 := by omega
    · refine (fd_r (s := x) (l := feedN sg x U.s0 0) (by omega) (feedN_len l0 _) (fun l => (Sum.inl (IntKind.wrap .u32 (Int.tdiv (x) 256), (1 : Int), l, U.s1) : (Int × Int × List Int × List Int) ⊕ O_rFeed))).trans ?_
      rw [q0, b0]
      rfl
    · refine (fd_r (s := x / 256) (l := feedN sg x U.s0 1) (by omega) (feedN_len l0 _) (fun l => (Sum.inl (IntKind.wrap .u32 (Int.tdiv (x / 256) 256), (2 : Int), l, U.s1) : (Int × Int × List Int × List Int) ⊕ O_rFeed))).trans ?_
      rw [q1, b1]
      rfl
    · refine (fd_r (s := x / 256 / 256) (l := feedN sg x U.s0 2) (by omega) (feedN_len l0 _) (fun l => (Sum.inl (IntKind.wrap .u32 (Int.tdiv (x / 256 / 256) 256), (3 : Int), l, U.s1) : (Int × Int × List Int × List Int) ⊕ O_rFeed))).trans ?_
      rw [q2, b2]
      rfl
    · refine (fd_r (s := x / 256 / 256 / 256) (l := feedN sg x U.s0 3) (by omega) (feedN_len l0 _) (fun l => (Sum.inl (IntKind.wrap .u32 (Int.tdiv (x / 256 / 256 / 256) 256), (4 : Int), l, U.s1) : (Int × Int × List Int × List Int) ⊕ O_rFeed))).trans ?_
      rw [q3, b3]
      rfl
  rw [if_neg i0]
  by_cases i1 : i = 1
  · subst i1
    rw [if_pos rfl]
    refine loopO_for (fun k => match k with
      | 0 => (x, (0 : Int), U.s0, feedN sg x U.s1 0)
      | 1 => (x / 256, (1 : Int), U.s0, feedN sg x U.s1 1)
      | 2 => (x / 256 / 256, (2 : Int), U.s0, feedN sg x U.s1 2)
      | 3 => (x / 256 / 256 / 256, (3 : Int), U.s0, feedN sg x U.s1 3)
      | _ => (x / 256 / 256 / 256 / 256, (4 : Int), U.s0, feedN sg x U.s1 4)) 4 ?_ ?_
    rotate_left
    · rfl
    intro k hk
    obtain rfl | rfl | rfl | rfl : k = 0 ∨ k = 1 ∨ k = 2 ∨ k = 3 := by omega
    · refine (fd_r (s := x) (l := feedN sg x U.s1 0) (by omega) (feedN_len l1 _) (fun l => (Sum.inl (IntKind.wrap .u32 (Int.tdiv (x) 256), (1 : Int), U.s0, l) : (Int × Int × List Int × List Int) ⊕ O_rFeed))).trans ?_
      rw [q0, b0]
      rfl
    · refine (fd_r (s := x / 256) (l := feedN sg x U.s1 1) (by omega) (feedN_len l1 _) (fun l => (Sum.inl (IntKind.wrap .u32 (Int.tdiv (x / 256) 256), (2 : Int), U.s0, l) : (Int × Int × List Int × List Int) ⊕ O_rFeed))).trans ?_
      rw [q1, b1]
      rfl
    · refine (fd_r (s := x / 256 / 256) (l := feedN sg x U.s1 2) (by omega) (feedN_len l1 _) (fun l => (Sum.inl (IntKind.wrap .u32 (Int.tdiv (x / 256 / 256) 256), (3 : Int), U.s0, l) : (Int × Int × List Int × List Int) ⊕ O_rFeed))).trans ?_
      rw [q2, b2]
      rfl
    · refine (fd_r (s := x / 256 / 256 / 256) (l := feedN sg x U.s1 3) (by omega) (feedN_len l1 _) (fun l => (Sum.inl (IntKind.wrap .u32 (Int.tdiv (x / 256 / 256 / 256) 256), (4 : Int), U.s0, l) : (Int × Int × List Int × List Int) ⊕ O_rFeed))).trans ?_
      rw [q3, b3]
      rfl
  rw [if_neg i1]
  refine loopO_for (fun _ => (x, (0 : Int), U.s0, U.s1)) 0 (fun k hk => by omega) ?_
  refine ceval (by rfl) ?_
  by_cases i2 : i ≥ 0
  · rw [cpos i2, cneg (by omega)]
  · rw [cneg i2]
def zs (S : PS) := (S.c1.sweepBy, S.c1.sweepIn, S.c1.sweepDown, S.c2.duty, S.c2.start, S.c2.step, S.c2.up, S.c2.sweepBy, S.c2.sweepIn, S.c2.sweepDown, S.c3.freq, S.c3.sweepBy, S.c3.sweepIn, S.c3.sweepDown)
def z0 : Int × Int × Bool × Int × Int × Int × Bool × Int × Int × Bool × Int × Int × Int × Bool := (0, 0, false, 0, 0, 0, false, 0, 0, false, 0, 0, 0, false)
structure Inv (U : US) : Prop where
  g : Good U
  l0 : U.w0.length ≤ 32
  l1 : U.w1.length ≤ 32
  e0 : U.s0 = U.w0.map sg
  e1 : U.s1 = U.w1.map sg
  b0 : ∀ b ∈ U.w0, 0 ≤ b ∧ b < 256
  b1 : ∀ b ∈ U.w1, 0 ≤ b ∧ b < 256
  z : zs U.ps = z0
theorem zs_konst {S T : PS} (h : konst T = konst S) : zs T = zs S := by
  obtain ⟨⟨a0, a1, a2, a3, a4, a5, a6, a7, a8, a9, a10, a11, a12, a13, a14, a15⟩, ⟨b0, b1, b2, b3, b4, b5, b6, b7, b8, b9, b10, b11, b12, b13, b14, b15⟩, ⟨d0, d1, d2, d3, d4, d5, d6, d7, d8, d9, d10, d11, d12, d13, d14, d15⟩, ⟨e0, e1, e2, e3, e4, e5, e6, e7, e8, e9, e10, e11, e12, e13, e14, e15⟩, f0, f1, f2, f3, f4, f5, f6, f7, f8, f9⟩ := T
  simp only [konst, kc, Prod.mk.injEq] at h
  obtain ⟨⟨h1, h2, h3, h4, h5, h6, h7, h8⟩, ⟨⟨i1, i2, i3, i4, i5, i6, i7, i8⟩, i9, i10⟩, ⟨⟨j1, j2, j3, j4, j5, j6, j7, j8⟩, j9, j10⟩, ⟨⟨k1, k2, k3, k4, k5, k6, k7, k8⟩, k9, k10⟩, l1, l2, l3, l4, l5, l6, l7⟩ := h
  unfold zs
  simp only [← i6, ← i7, ← i8, ← j1, ← j3, ← j4, ← j5, ← j6, ← j7, ← j8, ← k6, ← k7, ← k8, ← k9]
theorem inv_ku {U W : US} (h : Inv U) (hk : ku W = ku U) (hg : Good W) : Inv W := by
  have hz : zs W.ps = zs U.ps := by
    simp only [ku, Prod.mk.injEq] at hk
    exact zs_konst hk.2.2.2.2.2.2.2.2.2.2
  simp only [ku, Prod.mk.injEq] at hk
  obtain ⟨h1, h2, h3, h4, h5, h6, h7, h8, h9, h10, h11⟩ := hk
  exact ⟨hg, by rw [h1]; exact h.l0, by rw [h3]; exact h.l1, by rw [h9, h1]; exact h.e0, by rw [h10, h3]; exact h.e1, by rw [h1]; exact h.b0, by rw [h3]; exact h.b1, hz.trans h.z⟩
theorem inv_run {U : US} (h : Inv U) {q : Int} (h0 : U.ps.now ≤ q) (h1 : q ≤ 1900000000) : Inv (runU U q) ∧ (runU U q).ps.now = q :=
  ⟨inv_ku h ku_runU (runU_good h.g h0 h1).1, (runU_good h.g h0 h1).2⟩
theorem inv_write {V : US} (h : Inv V) {r x : Int} (hx : 0 ≤ x ∧ x < 65536) : Inv (wU V r x) ∧ (wU V r x).ps.now = V.ps.now := by
  have g := h.g; have u := h.g.u
  unfold wU
  split
  · exact ⟨⟨⟨⟨u.g, u.p, u16_range _ _, u.d, u.b, u.a0, u.a1⟩, g.n0, g.n1, g.nx, g.cy, g.out⟩, h.l0, h.l1, h.e0, h.e1, h.b0, h.b1, h.z⟩, rfl⟩
  split
  · have c : ∀ (b : Bool) (l : List Int), l.length ≤ 32 → (cond b [] l).length ≤ 32 := fun b l k => by cases b; exact k; exact Nat.zero_le _
    have m : ∀ (b : Bool) (l s : List Int), s = l.map sg → cond b [] s = (cond b [] l).map sg := fun b l s k => by cases b; exact k; rfl
    have bb : ∀ (b : Bool) (l : List Int), (∀ z ∈ l, 0 ≤ z ∧ z < 256) → ∀ z ∈ cond b [] l, 0 ≤ z ∧ z < 256 := fun b l k => by cases b; exact k; exact fun z hz => by cases hz
    have n : ∀ (b : Bool) (z : Int), -128 ≤ z ∧ z ≤ 127 → -128 ≤ cond b 0 z ∧ cond b 0 z ≤ 127 := fun b z k => by cases b; exact k; exact (by decide : (-128 : Int) ≤ 0 ∧ (0 : Int) ≤ 127)
    exact ⟨⟨⟨⟨u.g, u.p, u.m, u16_range _ _, u.b, n _ _ u.a0, n _ _ u.a1⟩, g.n0, g.n1, g.nx, g.cy, g.out⟩, c _ _ h.l0, c _ _ h.l1, m _ _ _ h.e0, m _ _ _ h.e1, bb _ _ h.b0, bb _ _ h.b1, h.z⟩, rfl⟩
  split
  · exact ⟨⟨⟨⟨u.g, u.p, u.m, u.d, u.b, u.a0, u.a1⟩, g.n0, g.n1, g.nx, g.cy, g.out⟩, h.l0, h.l1, h.e0, h.e1, h.b0, h.b1, h.z⟩, rfl⟩
  split
  · exact ⟨⟨⟨⟨u.g, u.p, u.m, u.d, bias_range hx, u.a0, u.a1⟩, g.n0, g.n1, g.nx, g.cy, g.out⟩, h.l0, h.l1, h.e0, h.e1, h.b0, h.b1, h.z⟩, rfl⟩
  · exact ⟨h, rfl⟩
theorem popL_tail {g : Bool} {l : List Int} : popL g l = cond g l.tail l := by
  unfold popL
  cases g
  · rfl
  cases l with
  | nil => rfl
  | cons b r => simp
theorem inv_over {V : US} (h : Inv V) {t : Int} : Inv (oU V t) ∧ (oU V t).ps.now = V.ps.now := by
  have g := h.g; have u := h.g.u
  have c : ∀ (b : Bool) (l : List Int), l.length ≤ 32 → (popL b l).length ≤ 32 := fun b l k => by rw [popL_tail]; cases b; exact k; simp only [cond_true, List.length_tail]; omega
  have m : ∀ (b : Bool) (l s : List Int), s = l.map sg → popL b s = (popL b l).map sg := fun b l s k => by rw [popL_tail, popL_tail, k]; cases b; rfl; simp only [cond_true, List.map_tail]
  have bb : ∀ (b : Bool) (l : List Int), (∀ z ∈ l, 0 ≤ z ∧ z < 256) → ∀ z ∈ popL b l, 0 ≤ z ∧ z < 256 := fun b l k => by rw [popL_tail]; cases b; exact k; exact fun z hz => k z (List.mem_of_mem_tail hz)
  have n : ∀ (b : Bool) (l : List Int) (z : Int), -128 ≤ z ∧ z ≤ 127 → -128 ≤ popS b l z ∧ popS b l z ≤ 127 := fun b l z k => by
    unfold popS
    cases b
    · exact k
    simp only [cond_true]
    cases (decide (((l.length : Nat) : Int) > 0))
    · exact k
    simp only [cond_true]
    have r : ∀ y : Int, -128 ≤ IntKind.wrap .i8 y ∧ IntKind.wrap .i8 y ≤ 127 := fun y => by
      have e1 : (2 : Int) ^ 8 = 256 := by decide
      have e2 : (2 : Int) ^ (8 - 1) = 128 := by decide
      simp only [IntKind.wrap, IntKind.bits, IntKind.signed, e1, e2, Bool.true_and, decide_eq_true_eq]
      split <;> omega
    have := r (ixL l 0)
    rw [wrap_i64 (by omega) (by omega)]
    exact this
  exact ⟨⟨⟨⟨u.g, u.p, u.m, u.d, u.b, n _ _ _ u.a0, n _ _ _ u.a1⟩, g.n0, g.n1, g.nx, g.cy, g.out⟩, c _ _ h.l0, c _ _ h.l1, m _ _ _ h.e0, m _ _ _ h.e1, bb _ _ h.b0, bb _ _ h.b1, h.z⟩, rfl⟩
theorem inv_feed {V : US} (h : Inv V) {i x : Int} : Inv (fU V i x) ∧ (fU V i x).ps.now = V.ps.now := by
  have g := h.g; have u := h.g.u
  unfold fU
  split
  · exact ⟨⟨⟨⟨u.g, u.p, u.m, u.d, u.b, u.a0, u.a1⟩, g.n0, g.n1, g.nx, g.cy, g.out⟩, feedN_len h.l0 _, h.l1, by show feedN sg x V.s0 4 = _; rw [h.e0]; exact feedN_map 4, h.e1, feedN_mem h.b0 _, h.b1, h.z⟩, rfl⟩
  split
  · exact ⟨⟨⟨⟨u.g, u.p, u.m, u.d, u.b, u.a0, u.a1⟩, g.n0, g.n1, g.nx, g.cy, g.out⟩, h.l0, feedN_len h.l1 _, h.e0, by show feedN sg x V.s1 4 = _; rw [h.e1]; exact feedN_map 4, h.b0, feedN_mem h.b1 _, h.z⟩, rfl⟩
  · exact ⟨h, rfl⟩
theorem zs_write {S : PS} {r x : Int} : zs (writeA S r x) = zs S := by
  unfold writeA
  split
  · rfl
  split
  · rfl
  split
  · rfl
  split
  · rfl
  split
  · show (_, _, _, _) = _
    unfold wr4 zs
    cases (x / 32768 == 1) <;> rfl
  split
  · rfl
  split
  · rfl
  split
  · rfl
  split
  · unfold wr8 zs
    cases (x / 32768 == 1) <;> rfl
  split
  · unfold wr9 zs
    cases (x / 32768 == 1) <;> rfl
  · rfl
theorem now_write {S : PS} {r x : Int} : (writeA S r x).now = S.now := by
  unfold writeA
  split
  · rfl
  split
  · rfl
  split
  · rfl
  split
  · rfl
  split
  · rfl
  split
  · rfl
  split
  · rfl
  split
  · rfl
  split
  · rfl
  split
  · rfl
  · rfl
theorem pok_write {S : PS} (h : POk S) {r x : Int} (hx : 0 ≤ x ∧ x < 65536) : POk (writeA S r x) := by
  unfold writeA
  split
  · exact ⟨h.pg, h.lv⟩
  split
  · exact ⟨h.pg, h.lv⟩
  split
  · exact ⟨h.pg, h.lv⟩
  split
  · exact ⟨h.pg, h.lv⟩
  split
  · exact ⟨h.pg, h.lv⟩
  split
  · exact ⟨by show 0 ≤ x / 64 % 2 ∧ x / 64 % 2 < 2; omega, h.lv⟩
  split
  · refine ⟨h.pg, ?_⟩
    show 0 ≤ (if x / 8192 < 4 then x / 8192 else 4) ∧ (if x / 8192 < 4 then x / 8192 else 4) < 5
    split <;> omega
  split
  · exact ⟨h.pg, h.lv⟩
  split
  · exact ⟨h.pg, h.lv⟩
  split
  · exact ⟨h.pg, h.lv⟩
  · exact h
def pU (V : US) (r x : Int) : US := { V with ps := writeA V.ps r x }
theorem inv_pw {V : US} (h : Inv V) {r x : Int} (hx : 0 ≤ x ∧ x < 65536) : Inv (pU V r x) ∧ (pU V r x).ps.now = V.ps.now := by
  have g := h.g; have u := h.g.u
  have e : (writeA V.ps r x).now = V.ps.now := now_write
  refine ⟨⟨⟨⟨write_gok u.g hx, pok_write u.p hx, u.m, u.d, u.b, u.a0, u.a1⟩, ?_, ?_, ?_, ?_, ?_⟩, h.l0, h.l1, h.e0, h.e1, h.b0, h.b1, zs_write.trans h.z⟩, e⟩
  · show 0 ≤ (writeA _ _ _).now; rw [e]; exact g.n0
  · show (writeA _ _ _).now ≤ _; rw [e]; exact g.n1
  · show V.nx = ((writeA _ _ _).now / 512 + 1) * 512; rw [e]; exact g.nx
  · show V.cy = (writeA _ _ _).now; rw [e]; exact g.cy
  · show _ ≤ (writeA _ _ _).now / 512; rw [e]; exact g.out
end Go.Proofs.Ytccmpceifheejaa
