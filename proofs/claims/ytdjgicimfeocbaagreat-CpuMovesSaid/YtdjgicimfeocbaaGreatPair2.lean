/-
  What pair gives.
-/
import Derived.Test.YtdjgicimfeocbaaGreatPair
namespace Go.Proofs.YtdjgicimfeocbaaGreat
open Go.Vc
set_option linter.unusedVariables false
set_option linter.unusedSimpArgs false

def Ends {α : Type} (o : Option α) (Q : α → Prop) : Prop := ∃ r, o = some r ∧ Q r
theorem ends_some {α : Type} {x : α} {Q : α → Prop} (h : Q x) : Ends (some x) Q := ⟨x, rfl, h⟩
theorem ends_bind {α β : Type} {o : Option α} {K : α → Option β} {Q : β → Prop} (P : α → Prop) (h : Ends o P) (h2 : ∀ r, P r → Ends (K r) Q) : Ends (o.bind K) Q := by
  obtain ⟨r, e, p⟩ := h
  rw [e]; exact h2 r p
def Nx {σ ρ : Type} (I : Nat → σ → Prop) (n : Nat) (Q : ρ → Prop) : σ ⊕ ρ → Prop
  | .inl s => ∃ m, m < n ∧ I m s
  | .inr y => Q y
theorem ends_loop {σ ρ : Type} {f : σ → Option (σ ⊕ ρ)} {Q : ρ → Prop} (I : Nat → σ → Prop) (h : ∀ n s, I n s → Ends (f s) (Nx I n Q)) : ∀ (n : Nat) (s : σ), I n s → Ends (loopO f s) Q := by
  intro n
  induction n using Nat.strongRecOn with
  | _ n ih =>
    intro s hs
    rw [loopO_eq]
    obtain ⟨t, e, ht⟩ := h n s hs
    rw [e]
    cases t with
    | inl s' => obtain ⟨m, hm, hi⟩ := ht; exact ih m hm s' hi
    | inr y => exact ⟨y, rfl, ht⟩
/-- The code's bytes, one by one. -/
def cb (code : List Int) (u : Nat) : Int := code.getD (u / 4) 0 / ((2 ^ (8 * (u % 4)) : Nat) : Int) % 256
/-- The first t of them lie in the memory. -/
def Placed (code : List Int) (a : Int) (f : Nat → Int) (t : Nat) : Prop := ∀ u, u < t → mb f (a + u) = cb code u
theorem cb_bd (code : List Int) (u : Nat) : 0 ≤ cb code u ∧ cb code u < 256 := by unfold cb; omega
theorem Placed.next {code : List Int} {a : Int} {f : Nat → Int} {t : Nat} (a0 : 0 ≤ a) (ht : t < 1000) (h : Placed code a f t) : Placed code a (rup f ((a + t) % 4096).toNat (cb code t)) (t + 1) := by
  intro u hu
  by_cases e : u = t
  · subst e; exact rup_at _ _ _
  · unfold mb
    rw [rup_ne _ _ (by omega)]
    exact h u (by omega)
theorem Byt.rup {f : Nat → Int} (h : Byt f) (i : Nat) {x : Int} (h0 : 0 ≤ x) (h1 : x < 256) : Byt (rup f i x) := by
  intro j
  by_cases e : j = i
  · subst e; rw [rup_at]; exact ⟨h0, h1⟩
  · rw [rup_ne f x e]; exact h j
structure Out (code : List Int) (At St : Int) (regs : List Int) (q : O_pair) : Prop where
  ex : ∃ (mem r o h : Nat → Int) (log : List E51) (x y : Int) (R Sv : Nat → Int) (L : List E51), Byt mem ∧ Placed code At mem (4 * code.length) ∧ (∀ i, i < 15 → r i = regs.getD i 0) ∧ log.length = 4 ∧ (∀ e ∈ log, e.Write = false) ∧ (St = 31 → o = (fun _ => 0) ∧ h = (fun _ => 0)) ∧
    q = (lo mem (al St At) (W St), lo mem ((al St At + W St) % 4294967296) (W St), mem, x, y, mem, (fun _ => 0), rup r 15 ((al St At + 2 * W St) % 4294967296), o, h, (fun _ => 0), St, R, Sv, St, log, L)
theorem byt0 : Byt (fun _ => 0) := fun _ => ⟨Int.le_refl _, by show (0 : Int) < 256; decide⟩
set_option maxRecDepth 20000 in
theorem pair_ok (code : List Int) (hcl : code.length ≤ 100) (At St : Int) (a0 : 0 ≤ At) (a1 : At < 4294967296) (s0 : 0 ≤ St) (s1 : St < 4294967296) (r0 r1 r2 r3 r4 r5 r6 r7 r8 r9 r10 r11 r12 r13 r14 r15 seed steps : Int) (brk : List Int) :
    Ends (f_pair code At St r0 r1 r2 r3 r4 r5 r6 r7 r8 r9 r10 r11 r12 r13 r14 r15 seed steps brk) (Out code At St [r0, r1, r2, r3, r4, r5, r6, r7, r8, r9, r10, r11, r12, r13, r14, r15]) := by
  unfold f_pair
  refine ends_loop (fun n (s : Int × Int × (Nat → Int)) => ∃ i : Nat, n = 4096 - i ∧ i ≤ 4096 ∧ s.2.1 = (i : Int) ∧ Byt s.2.2) ?_ 4096 _ ⟨0, rfl, by omega, rfl, byt0⟩
  rintro n ⟨s8, s23, f⟩ ⟨i, rfl, hi, hs, hf⟩
  have hs' : s23 = (i : Int) := hs
  subst hs'
  have hf' : Byt f := hf
  show Ends (cond (decide ((i : Int) < 4096)) (Let (IntKind.wrap .u32 (IntKind.wrap .u32 (s8 * 1664525) + 1013904223)) _) (Option.bind (loopO _ (0, f)) _)) _
  by_cases hc : i < 4096
  · rw [cpos (by omega), Let_eq, cand (by omega) (by omega), wrap_i64 (x := (i : Int) + 1) (by omega) (by omega)]
    refine ends_some ⟨4096 - (i + 1), by omega, i + 1, rfl, by omega, by show (i : Int) + 1 = _; omega, ?_⟩
    exact hf'.rup _ (by rw [wr_u8]; omega) (by rw [wr_u8]; omega)
  rw [cneg (by omega)]
  refine ends_bind (fun J => Byt J ∧ Placed code At J (4 * code.length)) ?_ ?_
  · refine ends_loop (fun n (s : Int × (Nat → Int)) => ∃ j : Nat, n = code.length - j ∧ j ≤ code.length ∧ s.1 = (j : Int) ∧ Byt s.2 ∧ Placed code At s.2 (4 * j)) ?_ code.length _ ⟨0, rfl, by omega, rfl, hf', fun u hu => by omega⟩
    rintro n ⟨s41, g⟩ ⟨j, rfl, hj, hs2, hg, hp⟩
    have hs2' : s41 = (j : Int) := hs2
    subst hs2'
    have hg' : Byt g := hg
    have hp' : Placed code At g (4 * j) := hp
    show Ends (cond (decide ((j : Int) < ((code.length : Nat) : Int))) (cond (decide (0 ≤ (j : Int)) && decide ((j : Int) < ((code.length : Nat) : Int))) (cond (decide ((j : Int) ≥ 1024)) _ (loopO _ (0, g))) none) _) _
    by_cases hjc : j < code.length
    · rw [cpos (by omega), cand (by omega) (by omega), cneg (by omega)]
      refine ends_loop (fun n (s : Int × (Nat → Int)) => ∃ k : Nat, n = 4 - k ∧ k ≤ 4 ∧ s.1 = (k : Int) ∧ Byt s.2 ∧ Placed code At s.2 (4 * j + k)) ?_ 4 _ ⟨0, rfl, by omega, rfl, hg', hp'⟩
      rintro n ⟨s48, e⟩ ⟨k, rfl, hk, hs3, he, hq⟩
      have hs3' : s48 = (k : Int) := hs3
      subst hs3'
      have he' : Byt e := he
      have hq' : Placed code At e (4 * j + k) := hq
      show Ends (cond (decide ((k : Int) < 4)) (cond (decide (0 ≤ IntKind.wrap .i64 (8 * (k : Int)))) (cond (decide (0 ≤ bits .and .u32 (IntKind.wrap .u32 (At + IntKind.wrap .u32 (IntKind.wrap .i64 (IntKind.wrap .i64 (4 * (j : Int)) + (k : Int))))) 4095) && decide (bits .and .u32 (IntKind.wrap .u32 (At + IntKind.wrap .u32 (IntKind.wrap .i64 (IntKind.wrap .i64 (4 * (j : Int)) + (k : Int))))) 4095 < ((4096 : Nat) : Int))) _ none) none) _) _
      by_cases hkc : k < 4
      · have hix : bits .and .u32 (IntKind.wrap .u32 (At + IntKind.wrap .u32 (IntKind.wrap .i64 (IntKind.wrap .i64 (4 * (j : Int)) + (k : Int))))) 4095 = (At + ((4 * j + k : Nat) : Int)) % 4096 := by
          rw [wrap_i64 (x := 4 * (j : Int)) (by omega) (by omega), wrap_i64 (x := 4 * (j : Int) + (k : Int)) (by omega) (by omega), wrap_u32 (x := 4 * (j : Int) + (k : Int)) (by omega) (by omega), wr_u32, and32 12 (by decide) (by decide) (by omega) (by omega)]
          show (At + (4 * (j : Int) + (k : Int))) % 4294967296 % 4096 = _
          omega
        rw [cpos (by omega), wrap_i64 (x := 8 * (k : Int)) (by omega) (by omega), cpos (by omega), hix, cand (by omega) (by omega), wrap_i64 (x := (k : Int) + 1) (by omega) (by omega)]
        have hv : IntKind.wrap .u8 (Int.fdiv (ixL code (j : Int)) (2 ^ (min (8 * (k : Int)).toNat 32))) = cb code (4 * j + k) := by
          have hp2 : (2 : Int) ^ (min (8 * (k : Int)).toNat 32) = ((2 ^ (8 * k) : Nat) : Int) := by
            rw [show min (8 * (k : Int)).toNat 32 = 8 * k by omega]; simp
          have hpos : 0 < ((2 ^ (8 * k) : Nat) : Int) := by exact_mod_cast Nat.two_pow_pos _
          rw [hp2, fdiv_pos hpos, wr_u8]
          unfold cb
          rw [show (4 * j + k) / 4 = j by omega, show (4 * j + k) % 4 = k by omega]
          rfl
        refine ends_some ⟨4 - (k + 1), by omega, k + 1, rfl, by omega, by show (k : Int) + 1 = _; omega, ?_, ?_⟩
        · show Byt (Go.Vc.rup e _ (IntKind.wrap .u8 _))
          rw [hv]; exact he'.rup _ (cb_bd _ _).1 (cb_bd _ _).2
        · show Placed code At (Go.Vc.rup e _ (IntKind.wrap .u8 _)) _
          rw [hv]; exact hq'.next a0 (by omega)
      · have hk4 : k = 4 := by omega
        subst hk4
        rw [cneg (by omega), wrap_i64 (x := (j : Int) + 1) (by omega) (by omega)]
        exact ends_some ⟨code.length - (j + 1), by omega, j + 1, rfl, by omega, by show (j : Int) + 1 = _; omega, he', hq'⟩
    · rw [cneg (by omega)]
      have : j = code.length := by omega
      subst this
      exact ends_some ⟨hg', hp'⟩
  rintro J ⟨hJ, hpl⟩
  have hc31 : f_CNew J [] At = some (lo J (al 31 At) (W 31), lo J ((al 31 At + W 31) % 4294967296) (W 31), rup (fun _ => 0) 15 ((al 31 At + 2 * W 31) % 4294967296), (fun _ => 0), (fun _ => 0), (fun _ => 0), [] ++ [acc (al 31 At) (W 31) (lo J (al 31 At) (W 31)) 10] ++ [acc ((al 31 At + W 31) % 4294967296) (W 31) (lo J ((al 31 At + W 31) % 4294967296) (W 31)) 11]) := by
    unfold f_CNew f_BNew
    rw [bind_some']
    dsimp only
    rw [Jump_eq hJ (by simp) (by decide) (by decide) a0 a1, bind_some']
  rw [hc31, bind_some']
  dsimp only
  obtain ⟨x, y, R', L', hr, hL⟩ := rJump_ex (p0 := 0) (p1 := 0) (af := false) (mv := false) (R := fun _ => 0) (Sv := fun _ => 0) (c := 31) (m := J) (io := fun _ => 0) (log := []) hJ (by simp) (by decide) (by decide) a0 a1
  have hn : f_NewCore true J [] (fun _ => 0) 0 0 At = some (x, y, R', (fun _ => 0), L') := by
    unfold f_NewCore f_rBNew
    rw [bind_some']
    dsimp only
    rw [hr, bind_some']
  rw [hn, bind_some']
  dsimp only
  obtain ⟨r', o', h', hst⟩ := SetStatus_ex (rup (fun _ => 0) 15 ((al 31 At + 2 * W 31) % 4294967296)) (fun _ => 0) (fun _ => 0) (fun _ => 0) 31 St
  have hoh : St = 31 → o' = (fun _ => 0) ∧ h' = (fun _ => 0) := by
    intro e
    subst e
    rw [SetStatus_same] at hst
    simp only [Option.some.injEq, Prod.mk.injEq] at hst
    exact ⟨hst.2.1.symm, hst.2.2.1.symm⟩
  rw [hst, bind_some']
  dsimp only
  refine ends_loop (fun n (s : Int × (Nat → Int) × (Nat → Int)) => ∃ i : Nat, n = 16 - i ∧ i ≤ 16 ∧ s.1 = (i : Int) ∧ ∀ j, j < i → j < 15 → s.2.2 j = [r0, r1, r2, r3, r4, r5, r6, r7, r8, r9, r10, r11, r12, r13, r14, r15].getD j 0) ?_ 16 _ ⟨0, rfl, by omega, rfl, fun j hj => by omega⟩
  rintro n ⟨s104, R2, r2'⟩ ⟨i2, rfl, hi2, hs4, hr4⟩
  have hs4' : s104 = (i2 : Int) := hs4
  subst hs4'
  have hr4' : ∀ j, j < i2 → j < 15 → r2' j = [r0, r1, r2, r3, r4, r5, r6, r7, r8, r9, r10, r11, r12, r13, r14, r15].getD j 0 := hr4
  show Ends (cond (decide ((i2 : Int) < 16)) (cond (decide (0 ≤ (i2 : Int)) && decide ((i2 : Int) < ((16 : Nat) : Int))) (cond (decide ((i2 : Int) < 15)) (Option.bind (f_Set _ _ _ _ _ (i2 : Int) _) _) _) none) _) _
  by_cases h16 : i2 < 16
  · rw [cpos (by omega), cand (by omega) (by omega), wrap_i64 (x := (i2 : Int) + 1) (by omega) (by omega)]
    by_cases h15 : i2 < 15
    · rw [cpos (by omega), Set_eq i2 h16, bind_some']
      obtain ⟨R3, e3⟩ := rSet_ex (R := R2) (Sv := fun _ => 0) (c := St) i2 h16 (ixL ([r0, r1, r2, r3, r4, r5, r6, r7, r8, r9, r10, r11, r12, r13, r14, r15] : List Int) (i2 : Int))
      rw [e3, bind_some']
      refine ends_some ⟨16 - (i2 + 1), by omega, i2 + 1, rfl, by omega, by show (i2 : Int) + 1 = _; omega, fun j hj hj2 => ?_⟩
      show rup r2' i2 _ j = _
      by_cases e : j = i2
      · subst e; rw [rup_at]; rfl
      · rw [rup_ne _ _ e]; exact hr4' j (by omega) hj2
    · rw [cneg (by omega)]
      exact ends_some ⟨16 - (i2 + 1), by omega, i2 + 1, rfl, by omega, by show (i2 : Int) + 1 = _; omega, fun j hj hj2 => hr4' j (by omega) hj2⟩
  · rw [cneg (by omega), Jump_eq hJ (by simp) s0 s1 a0 a1, bind_some']
    dsimp only
    obtain ⟨x2, y2, R4, L4, hr5, hL5⟩ := rJump_ex (p0 := x) (p1 := y) (af := false) (mv := false) (R := R2) (Sv := fun _ => 0) (c := St) (m := J) (io := fun _ => 0) (log := L') hJ (by rw [hL]; simp) s0 s1 a0 a1
    rw [hr5, bind_some']
    refine ends_some ⟨J, r2', o', h', _, _, _, _, _, _, hJ, hpl, fun i hi => hr4' i (by omega) hi, ?_, ?_, hoh, rfl⟩
    · simp
    · intro e he
      simp only [List.nil_append, List.append_assoc, List.cons_append, List.mem_cons, List.not_mem_nil, or_false] at he
      rcases he with rfl | rfl | rfl | rfl <;> rfl
end Go.Proofs.YtdjgicimfeocbaaGreat
