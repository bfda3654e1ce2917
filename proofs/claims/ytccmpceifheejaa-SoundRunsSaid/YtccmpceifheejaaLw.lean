/-
  SoundRuns.
-/
import Derived.Test.YtccmpceifheejaaSt
import Derived.Test.YtccmpceifheejaaRead
namespace Go.Proofs.Ytccmpceifheejaa
open Go.Vc
set_option linter.unusedVariables false
set_option linter.unusedSimpArgs false
set_option maxHeartbeats 4000000
def nz (S : PS) : PS :=
  { S with c1 := { S.c1 with sweepBy := 0, sweepIn := 0, sweepDown := false }, c2 := { S.c2 with duty := 0, start := 0, step := 0, up := false, sweepBy := 0, sweepIn := 0, sweepDown := false },
           c3 := { S.c3 with freq := 0, sweepBy := 0, sweepIn := 0, sweepDown := false } }
def nrm (U : US) : US := { U with ps := nz U.ps }
theorem nz_eq {S : PS} (h : zs S = z0) : nz S = S := by
  obtain ⟨⟨a0, a1, a2, a3, a4, a5, a6, a7, a8, a9, a10, a11, a12, a13, a14, a15⟩, ⟨b0, b1, b2, b3, b4, b5, b6, b7, b8, b9, b10, b11, b12, b13, b14, b15⟩, ⟨d0, d1, d2, d3, d4, d5, d6, d7, d8, d9, d10, d11, d12, d13, d14, d15⟩, ⟨e0, e1, e2, e3, e4, e5, e6, e7, e8, e9, e10, e11, e12, e13, e14, e15⟩, f0, f1, f2, f3, f4, f5, f6, f7, f8, f9⟩ := S
  simp only [zs, z0, Prod.mk.injEq] at h
  obtain ⟨h1, h2, h3, h4, h5, h6, h7, h8, h9, h10, h11, h12, h13, h14⟩ := h
  unfold nz
  simp only [h1, h2, h3, h4, h5, h6, h7, h8, h9, h10, h11, h12, h13, h14]
def nzr (S : PS) : PS :=
  { S with c1 := { S.c1 with sweepBy := 0, sweepIn := 0, sweepDown := false }, c2 := { S.c2 with sweepBy := 0, sweepIn := 0, sweepDown := false }, c3 := { S.c3 with sweepBy := 0, sweepIn := 0, sweepDown := false } }
def nrr (U : US) : US := { U with ps := nzr U.ps }
theorem nzr_eq {S : PS} (h : zs S = z0) : nzr S = S := by
  obtain ⟨⟨a0, a1, a2, a3, a4, a5, a6, a7, a8, a9, a10, a11, a12, a13, a14, a15⟩, ⟨b0, b1, b2, b3, b4, b5, b6, b7, b8, b9, b10, b11, b12, b13, b14, b15⟩, ⟨d0, d1, d2, d3, d4, d5, d6, d7, d8, d9, d10, d11, d12, d13, d14, d15⟩, ⟨e0, e1, e2, e3, e4, e5, e6, e7, e8, e9, e10, e11, e12, e13, e14, e15⟩, f0, f1, f2, f3, f4, f5, f6, f7, f8, f9⟩ := S
  simp only [zs, z0, Prod.mk.injEq] at h
  obtain ⟨h1, h2, h3, h4, h5, h6, h7, h8, h9, h10, h11, h12, h13, h14⟩ := h
  unfold nzr
  simp only [h1, h2, h3, h8, h9, h10, h12, h13, h14]
theorem nrr_eq {U : US} (h : zs U.ps = z0) : nrr U = U := by
  unfold nrr
  rw [nzr_eq h]
theorem nrm_eq {U : US} (h : zs U.ps = z0) : nrm U = U := by
  unfold nrm
  rw [nz_eq h]
def w2U (V : US) (r x : Int) : US := { V with mix := (wU V r x).mix, dir := (wU V r x).dir, ma := (wU V r x).ma, bias := (wU V r x).bias, n0 := (wU V r x).n0, n1 := (wU V r x).n1, w0 := (wU V r x).w0, w1 := (wU V r x).w1, s0 := (wU V r x).s0, s1 := (wU V r x).s1 }
theorem w2U_eq {V : US} {r x : Int} : wU V r x = w2U V r x := by
  unfold w2U wU
  split
  · rfl
  split
  · rfl
  split
  · rfl
  split <;> rfl
def f2U (V : US) (i x : Int) : US := { V with w0 := (fU V i x).w0, w1 := (fU V i x).w1, s0 := (fU V i x).s0, s1 := (fU V i x).s1 }
theorem f2U_eq {V : US} {i x : Int} : fU V i x = f2U V i x := by
  unfold f2U fU
  split
  · rfl
  split <;> rfl
theorem same_eq (l : List E38) (h : (l.length : Int) ≤ 9000000) : f_same l l = some true := by
  unfold f_same
  rw [cbeq rfl]
  refine loopO_for (fun i => (i : Int)) l.length ?_ ?_
  · intro i hi
    show cond (decide ((i : Int) < ((l.length : Nat) : Int))) _ _ = _
    rw [cpos (by omega), cand (by omega) (by omega), cand (by omega) (by omega)]
    have e : (!((((ixL l (i : Int)).L == (ixL l (i : Int)).L) && ((ixL l (i : Int)).R == (ixL l (i : Int)).R)))) = false := by simp
    rw [cfalse e, wrap_i64 (x := (i : Int) + 1) (by omega) (by omega)]
    rfl
  · show cond (decide (((l.length : Nat) : Int) < ((l.length : Nat) : Int))) _ _ = _
    rw [cneg (by omega)]
theorem step_goal {α β ρ : Type} {X : Option α} {K : α → Option (β ⊕ ρ)} {n m : Nat} {I : Nat → β → Prop} (f : US → α) (g : US → β) (Q : US → Prop) (hm : m < n) (hI : ∀ V, Q V → I m (g V)) (hX : ∃ V, X = some (f V) ∧ Q V) (hk : ∀ V, Q V → K (f V) = some (.inl (g V))) :
    ∃ s' m', X.bind K = some (.inl s') ∧ m' < n ∧ I m' s' := by
  obtain ⟨V, e, q⟩ := hX
  exact ⟨g V, m, (bind_of _ e).trans (hk V q), hm, hI V q⟩
theorem pWrite_at {S : PS} (h : TOk S) {q r x : Int} (hq : q = S.now) (hx : 0 ≤ x ∧ x < 65536) : k_pWrite S q r x = some (r_pWrite (writeA S r x)) := by
  subst hq; exact pWrite_eq h hx
theorem rpWrite_at (U : US) {S : PS} (hU : U.ps = S) (h : TOk S) {q r x : Int} (hq : q = S.now) (hx : 0 ≤ x ∧ x < 65536) : k_rpWrite U q r x = some (r_rpWrite { U with ps := writeA S r x }) := by
  subst hq; exact rpWrite_eq U hU h hx
theorem u16r (x : Int) : 0 ≤ IntKind.wrap .u16 x ∧ IntKind.wrap .u16 x < 65536 := by
  have e1 : (2 : Int) ^ 16 = 65536 := by decide
  simp only [IntKind.wrap, IntKind.bits, IntKind.signed, e1, Bool.false_and]
  simp
  omega
theorem SoundRuns_eq (xs : List E42) (hl : xs.length ≤ 140737488355328) (hx : ∀ c ∈ xs, 0 ≤ c.X ∧ c.X < 4294967296) (haw : f_awake = some true) : f_SoundRuns xs = some true := by
  unfold f_SoundRuns
  refine (bind_of true haw).trans ?_
  refine cevalF (by rfl) ?_
  refine (bind_of () rfl).trans ?_
  refine (bind_of () rfl).trans ?_
  let S0 : PS := ⟨⟨false, 0, 0, false, 0, 0, false, 0, 0, 0, 0, 0, 0, 0, false, 0⟩, ⟨false, 0, 0, false, 0, 0, false, 0, 0, 0, 0, 0, 0, 0, false, 0⟩, ⟨false, 0, 0, false, 0, 0, false, 0, 0, 0, 0, 0, 0, 0, false, 0⟩, ⟨false, 0, 0, false, 0, 0, false, 0, 0, 0, 0, 0, 0, 0, false, 0⟩, false, 0, 0, false, 0, false, 0, 0, 0, 0⟩
  let U0 : US := ⟨[], 0, [], 0, 0, 0, false, 512, [], 512, 0, [], [], S0⟩
  have c0 : ∀ m : Int, 0 < m → COk m ⟨false, 0, 0, false, 0, 0, false, 0, 0, 0, 0, 0, 0, 0, false, 0⟩ := fun m hm => ⟨(fun k => by cases k), ⟨Int.le_refl 0, hm⟩, (by decide), (by decide), (by decide), (by decide), (by decide), (by decide)⟩
  have hI0 : Inv U0 := ⟨⟨⟨⟨c0 8 (by decide), c0 8 (by decide), c0 64 (by decide), c0 8 (by decide), by decide, by decide, by decide⟩, ⟨by decide, by decide⟩, by decide, by decide, by decide, by decide, by decide⟩, by decide, by decide, by decide, by decide, by decide⟩, by decide, by decide, rfl, rfl, (fun b hb => by cases hb), (fun b hb => by cases hb), rfl⟩
  refine loopO_inv (fun m s => ∃ (i : Nat) (now : Int) (U : US), s = stt now (i : Int) U ∧ i ≤ xs.length ∧ m = xs.length - i ∧ Inv U ∧ U.ps.now ≤ now ∧ 0 ≤ now ∧ now ≤ 1050000) ?_ xs.length _ ⟨0, 0, U0, rfl, Nat.zero_le _, rfl, hI0, Int.le_refl 0, Int.le_refl 0, by decide⟩
  rintro n s ⟨i, now, U, rfl, hi, rfl, hU, hn, hn0, hn1⟩
  have hz := nrm_eq hU.z
  have hy := nrr_eq hU.z
  show (∃ s' m', cond (decide ((i : Int) < ((xs.length : Nat) : Int))) _ _ = _ ∧ _) ∨ cond (decide ((i : Int) < ((xs.length : Nat) : Int))) _ _ = _
  by_cases hlt : (i : Int) < ((xs.length : Nat) : Int)
  · left
    rw [cpos hlt, cand (by omega) hlt, wrap_i64 (x := (i : Int) + 1) (by omega) (by omega)]
    have hcx : 0 ≤ (ixL xs (i : Int)).X ∧ (ixL xs (i : Int)).X < 4294967296 := by
      rw [ixL_nat (by omega)]; exact hx _ (List.getElem_mem _)
    generalize ixL xs (i : Int) = c at hcx ⊢
    have skip : ∃ s' m', some (Sum.inl (stt now ((i : Int) + 1) U) : Q_14 ⊕ O_SoundRuns) = some (Sum.inl s') ∧ m' < xs.length - i ∧ ∃ (i : Nat) (now : Int) (U : US), s' = stt now (i : Int) U ∧ i ≤ xs.length ∧ m' = xs.length - i ∧ Inv U ∧ U.ps.now ≤ now ∧ 0 ≤ now ∧ now ≤ 1050000 :=
      ⟨_, xs.length - (i + 1), rfl, by omega, i + 1, now, U, rfl, by omega, rfl, hU, hn, hn0, hn1⟩
    by_cases w1 : c.Wait < 0
    · rw [cpos w1]; exact skip
    rw [cneg w1]
    by_cases w2 : c.Wait > 50000
    · rw [cpos w2]; exact skip
    rw [cneg w2]
    by_cases w3 : now > 1000000
    · rw [cpos w3]; exact skip
    rw [cneg w3, wrap_i64 (x := now + c.Wait) (by omega) (by omega)]
    have ht : U.ps.now ≤ now + c.Wait ∧ 0 ≤ now + c.Wait ∧ now + c.Wait ≤ 1050000 := by omega
    generalize now + c.Wait = t at ht ⊢
    have h16 := u16r c.X
    generalize IntKind.wrap .u16 c.X = x at h16 ⊢
    refine step_goal (fun V => Sum.inl (jst V)) (fun V => stt t ((i : Int) + 1) V) (fun V => Inv V ∧ V.ps.now ≤ t) (m := xs.length - (i + 1)) (by omega) (fun V q => ⟨i + 1, t, V, rfl, by omega, rfl, q.1, q.2, ht.2.1, ht.2.2⟩) ?_ ?_
    · have hq : t ≤ 1900000000 := by omega
      have hkeep := keeps_runU U t
      obtain ⟨hR, hRn⟩ := inv_run hU ht.1 hq
      have m0 : U.s0.length ≤ 32 := by rw [hU.e0, List.length_map]; exact hU.l0
      have m1 : U.s1.length ≤ 32 := by rw [hU.e1, List.length_map]; exact hU.l1
      by_cases k0 : c.Kind = 0
      · rw [ceq k0]
        have hw := inv_write hR (r := c.I) h16
        have p1 : k_Write (nrm U) t c.I x = some (r_Write (wU (runU U t) c.I x)) := by rw [hz]; exact Write_eq hU.g ht.1 hq h16
        have p2 : k_rWrite (nrr U) t c.I x = some (r_rWrite (wU (runU U t) c.I x)) := by rw [hy]; exact rWrite_eq hU.g ht.1 hq h16
        refine ⟨wU (runU U t) c.I x, ?_, hw.1, by omega⟩
        refine (bind_of _ p1).trans ?_
        refine (bind_of _ p2).trans ?_
        rw [w2U_eq, ← hkeep]
        rfl
      rw [cne k0]
      by_cases k1 : c.Kind = 1
      · rw [ceq k1]
        have hw := inv_pw hR (r := c.I) h16
        have p1 : k_Run (nrm U) t = some (r_Run (runU U t)) := by rw [hz]; exact Run_eq hU.g ht.1 hq
        have p2 : k_rRun (nrr U) t = some (r_rRun (runU U t)) := by rw [hy]; exact rRun_eq hU.g ht.1 hq
        refine ⟨pU (runU U t) c.I x, ?_, hw.1, by omega⟩
        refine (bind_of _ p1).trans ?_
        refine (bind_of _ p2).trans ?_
        rw [← hkeep] at hR hRn ⊢
        generalize runU U t = W at hR hRn ⊢
        refine (bind_of () rfl).trans ?_
        have hT : TOk (keeps U W).ps := ⟨hR.g.u.g, hR.g.n0, by have := hR.g.n1; omega⟩
        have p3 : k_pWrite (nz (keeps U W).ps) t c.I x = some (r_pWrite (writeA (keeps U W).ps c.I x)) := by rw [nz_eq hR.z]; exact pWrite_at hT hRn.symm h16
        have p4 : k_rpWrite (nrr (keeps U W)) t c.I x = some (r_rpWrite { keeps U W with ps := writeA (keeps U W).ps c.I x }) := by rw [nrr_eq hR.z]; exact rpWrite_at (keeps U W) rfl hT hRn.symm h16
        refine (bind_of _ p3).trans ?_
        refine (bind_of _ p4).trans ?_
        rfl
      rw [cne k1]
      by_cases k2 : c.Kind = 2
      · rw [ceq k2]
        have hw := inv_feed hU (i := c.I) (x := c.X)
        have p1 : k_Feed (nrm U) c.I c.X = some (r_Feed (fU U c.I c.X)) := by rw [hz]; exact Feed_eq hU.l0 hU.l1 hcx
        have p2 : k_rFeed (nrr U) c.I c.X = some (r_rFeed (fU U c.I c.X)) := by rw [hy]; exact rFeed_eq m0 m1 hcx
        refine ⟨fU U c.I c.X, ?_, hw.1, by omega⟩
        refine (bind_of _ p1).trans ?_
        refine (bind_of _ p2).trans ?_
        rw [f2U_eq]
        rfl
      rw [cne k2]
      by_cases k3 : c.Kind = 3
      · rw [ceq k3]
        have hw := inv_over hR (t := c.I)
        have p1 : k_Over (nrm U) t c.I = some (r_Over (oH (runU U t) c.I) (oU (runU U t) c.I)) := by rw [hz]; exact Over_eq hU.g (Nat.le_trans hU.l0 (by decide)) (Nat.le_trans hU.l1 (by decide)) ht.1 hq
        have p2 : k_rOver (nrr U) t c.I = some (r_rOver (oH (runU U t) c.I) (oU (runU U t) c.I)) := by rw [hy]; exact rOver_eq hU.g (Nat.le_trans m0 (by decide)) (Nat.le_trans m1 (by decide)) hU.e0 hU.e1 hU.b0 hU.b1 ht.1 hq
        refine ⟨oU (runU U t) c.I, ?_, hw.1, by omega⟩
        refine (bind_of _ p1).trans ?_
        refine (bind_of _ p2).trans ?_
        rw [← hkeep]
        generalize runU U t = W
        show cond (oH (keeps U W) c.I != oH (keeps U W) c.I) _ _ = _
        rw [cbeq rfl]
        rfl
      rw [cne k3]
      by_cases k4 : c.Kind = 4
      · rw [ceq k4]
        have hV : Inv { runU U t with out := [] } := ⟨⟨⟨hR.g.u.g, hR.g.u.p, hR.g.u.m, hR.g.u.d, hR.g.u.b, hR.g.u.a0, hR.g.u.a1⟩, hR.g.n0, hR.g.n1, hR.g.nx, hR.g.cy, by have := hR.g.n0; show ((0 : Nat) : Int) ≤ (runU U t).ps.now / 512; omega⟩, hR.l0, hR.l1, hR.e0, hR.e1, hR.b0, hR.b1, hR.z⟩
        have p1 : k_Take (nrm U) t = some (r_Take (runU U t).out (runU U t)) := by rw [hz]; exact Take_eq hU.g ht.1 hq
        have p2 : k_rTake (nrr U) t = some (r_rTake (runU U t).out (runU U t)) := by rw [hy]; exact rTake_eq hU.g ht.1 hq
        refine ⟨{ runU U t with out := [] }, ?_, hV, by show (runU U t).ps.now ≤ t; omega⟩
        refine (bind_of _ p1).trans ?_
        refine (bind_of _ p2).trans ?_
        have hout : ((runU U t).out.length : Int) ≤ 9000000 := by have := hR.g.out; omega
        rw [← hkeep] at hout ⊢
        generalize runU U t = W at hout ⊢
        refine (bind_of _ (same_eq _ hout)).trans ?_
        rfl
      rw [cne k4]
      have p1 : k_Read (nrm U) t c.I = some (r_Read (rdV (runU U t) c.I) (runU U t)) := by rw [hz]; exact Read_eq hU.g ht.1 hq
      have p2 : k_rRead (nrr U) t c.I = some (r_rRead (rdV (runU U t) c.I) (runU U t)) := by rw [hy]; exact rRead_eq hU.g ht.1 hq
      refine ⟨runU U t, ?_, hR, by omega⟩
      refine (bind_of _ p1).trans ?_
      refine (bind_of _ p2).trans ?_
      rw [← hkeep]
      generalize runU U t = W
      show cond (rdV (keeps U W) c.I != rdV (keeps U W) c.I) _ _ = _
      rw [cbeq rfl]
      rfl
    · rintro V ⟨hV, hVn⟩
      refine (bind_of ((V.w0.length : Nat) : Int) rfl).trans ?_
      show cond (((V.w0.length : Nat) : Int) != ((V.s0.length : Nat) : Int)) _ _ = _
      rw [cbeq (by rw [hV.e0, List.length_map])]
      refine (bind_of ((V.w1.length : Nat) : Int) rfl).trans ?_
      show cond (((V.w1.length : Nat) : Int) != ((V.s1.length : Nat) : Int)) _ _ = _
      rw [cbeq (by rw [hV.e1, List.length_map])]
  · right
    rw [cneg hlt, wrap_i64 (x := now + 3000) (by omega) (by omega)]
    have p1 : k_Take (nrm U) (now + 3000) = some (r_Take (runU U (now + 3000)).out (runU U (now + 3000))) := by rw [hz]; exact Take_eq hU.g (by omega) (by omega)
    have p2 : k_rTake (nrr U) (now + 3000) = some (r_rTake (runU U (now + 3000)).out (runU U (now + 3000))) := by rw [hy]; exact rTake_eq hU.g (by omega) (by omega)
    refine (bind_of _ p1).trans ?_
    refine (bind_of _ p2).trans ?_
    obtain ⟨hR, hRn⟩ := inv_run hU (q := now + 3000) (by omega) (by omega)
    have hout : ((runU U (now + 3000)).out.length : Int) ≤ 9000000 := by have := hR.g.out; omega
    refine (bind_of _ (same_eq _ hout)).trans ?_
    rfl
end Go.Proofs.Ytccmpceifheejaa
