/-
  What is turned and stretched: BiosTurns.
-/
import Derived.Test.YtnobglfjinehfaaBioD
namespace Go.Proofs.Ytnobglfjinehfaa
open Go.Vc
set_option linter.unusedVariables false
set_option linter.unusedSimpArgs false

def it {α : Type} (f : α → α) (a : α) : Nat → α
  | 0 => a
  | n + 1 => f (it f a n)
theorem i16_bd (x : Int) : -32768 ≤ IntKind.wrap .i16 x ∧ IntKind.wrap .i16 x ≤ 32767 := by rw [wr_i16]; omega
theorem signed_eq {x : Int} (h : 0 ≤ x ∧ x < 4294967296) : f_signed x = some (IntKind.wrap .i16 x) := by
  unfold f_signed
  rw [tmod_nn h.1, wrap_i64 (x := x % 65536) (by omega) (by omega), wr_i16]
  by_cases hc : x % 65536 ≥ 32768
  · rw [cpos hc, Let_eq, wrap_i64 (by omega) (by omega), show x % 65536 - 65536 = (x + 32768) % 65536 - 32768 by omega]
  · rw [cneg hc, show x % 65536 = (x + 32768) % 65536 - 32768 by omega]
/-- The four numbers. -/
noncomputable def tn (B : Int) (bs : List Int) (a : Int) : Int × Int × Int × Int :=
  let sx := IntKind.wrap .i16 (rd B bs a 2)
  let sy := IntKind.wrap .i16 (rd B bs ((a + 2) % 4294967296) 2)
  let t := rd B bs ((a + 4) % 4294967296) 2 / 256 % 256
  let s := sn t
  let c := sn ((t + 64) % 256)
  (IntKind.wrap .i16 (Int.fdiv (IntKind.wrap .i64 (sx * c)) 16384), IntKind.wrap .i16 (Int.fdiv (IntKind.wrap .i64 (IntKind.wrap .i64 (0 - sx) * s)) 16384), IntKind.wrap .i16 (Int.fdiv (IntKind.wrap .i64 (sy * s)) 16384), IntKind.wrap .i16 (Int.fdiv (IntKind.wrap .i64 (sy * c)) 16384))
theorem turn_eq (B : Int) (bs : List Int) (ns : List E59) (a : Int) : f_turn B bs ns a = some (tn B bs a) := by
  unfold f_turn tn
  have b1 := i16_bd (rd B bs a 2)
  have b2 := i16_bd (rd B bs ((a + 2) % 4294967296) 2)
  have b3 := rd_bd B bs ((a + 4) % 4294967296) 2
  rw [MRead_eq (by decide) (by decide), bind_some', MRead_eq (by decide) (by decide), bind_some', wr_u32, Let_eq, Let_eq, MRead_eq (by decide) (by decide), bind_some', wr_u32, Let_eq, fdiv_pos (by decide), and32 8 (by decide) (by decide) (by omega) (by omega)]
  simp only [show ((2 ^ 8 : Nat) : Int) = 256 by decide]
  rw [wrap_i64 (x := rd B bs ((a + 4) % 4294967296) 2 / 256 % 256) (by omega) (by omega), Sine_eq, bind_some', Sine_eq, bind_some', wrap_i64 (x := IntKind.wrap .i16 (rd B bs a 2)) (by omega) (by omega), wrap_i64 (x := IntKind.wrap .i16 (rd B bs ((a + 2) % 4294967296) 2)) (by omega) (by omega), wrap_i64 (x := rd B bs ((a + 4) % 4294967296) 2 / 256 % 256 + 64) (by omega) (by omega), Int.emod_emod]
theorem i16_u32 (x : Int) : IntKind.wrap .i16 (IntKind.wrap .u32 x) = IntKind.wrap .i16 x := by rw [wr_u32, wr_i16, wr_i16]; omega
theorem rturn_eq (B : Int) (bs : List Int) (ns : List E59) (a : Int) : f_rturn B bs ns a = some [(tn B bs a).1, (tn B bs a).2.1, (tn B bs a).2.2.1, (tn B bs a).2.2.2] := by
  unfold f_rturn tn
  have b1 := i16_bd (rd B bs a 2)
  have b2 := i16_bd (rd B bs ((a + 2) % 4294967296) 2)
  have b3 := rd_bd B bs ((a + 4) % 4294967296) 2
  rw [MRead_eq (by decide) (by decide), bind_some', signed_eq (rd_bd _ _ _ _), bind_some', MRead_eq (by decide) (by decide), bind_some', wr_u32 (a + 2), signed_eq (rd_bd _ _ _ _), bind_some', MRead_eq (by decide) (by decide), bind_some', wr_u32 (a + 4), Let_eq, tdiv_nn b3.1, wrap_u32 (x := rd B bs ((a + 4) % 4294967296) 2 / 256) (by omega) (by omega), tmod_nn (by omega), wrap_i64 (x := rd B bs ((a + 4) % 4294967296) 2 / 256 % 256) (by omega) (by omega), rSine_eq, bind_some', rSine_eq, bind_some', wrap_i64 (x := rd B bs ((a + 4) % 4294967296) 2 / 256 % 256 + 64) (by omega) (by omega), Int.emod_emod]
  dsimp only
  generalize Int.fdiv (IntKind.wrap .i64 (IntKind.wrap .i16 (rd B bs a 2) * sn ((rd B bs ((a + 4) % 4294967296) 2 / 256 % 256 + 64) % 256))) 16384 = e0
  generalize Int.fdiv (IntKind.wrap .i64 (IntKind.wrap .i64 (0 - IntKind.wrap .i16 (rd B bs a 2)) * sn (rd B bs ((a + 4) % 4294967296) 2 / 256 % 256))) 16384 = e1
  generalize Int.fdiv (IntKind.wrap .i64 (IntKind.wrap .i16 (rd B bs ((a + 2) % 4294967296) 2) * sn (rd B bs ((a + 4) % 4294967296) 2 / 256 % 256))) 16384 = e2
  generalize Int.fdiv (IntKind.wrap .i64 (IntKind.wrap .i16 (rd B bs ((a + 2) % 4294967296) 2) * sn ((rd B bs ((a + 4) % 4294967296) 2 / 256 % 256 + 64) % 256))) 16384 = e3
  refine loopO_for (fun i : Nat => match i with
    | 0 => ((0 : Int), [e0, e1, e2, e3])
    | 1 => (1, [IntKind.wrap .i16 e0, e1, e2, e3])
    | 2 => (2, [IntKind.wrap .i16 e0, IntKind.wrap .i16 e1, e2, e3])
    | 3 => (3, [IntKind.wrap .i16 e0, IntKind.wrap .i16 e1, IntKind.wrap .i16 e2, e3])
    | _ => (4, [IntKind.wrap .i16 e0, IntKind.wrap .i16 e1, IntKind.wrap .i16 e2, IntKind.wrap .i16 e3])) 4 (fun i hi => ?_) ?_
  · have hs : ∀ x : Int, f_signed (IntKind.wrap .u32 x) = some (IntKind.wrap .i16 x) := fun x => by rw [signed_eq (u32_bd x), i16_u32]
    obtain rfl | rfl | rfl | rfl : i = 0 ∨ i = 1 ∨ i = 2 ∨ i = 3 := by omega
    · show cond (decide ((0 : Int) < 4)) (cond (decide (0 ≤ (0 : Int)) && decide ((0 : Int) < ((4 : Nat) : Int))) ((f_signed (IntKind.wrap .u32 e0)).bind _) _) _ = _
      rw [cpos (by decide), cand (by decide) (by decide), hs, bind_some']; rfl
    · show cond (decide ((1 : Int) < 4)) (cond (decide (0 ≤ (1 : Int)) && decide ((1 : Int) < ((4 : Nat) : Int))) ((f_signed (IntKind.wrap .u32 e1)).bind _) _) _ = _
      rw [cpos (by decide), cand (by decide) (by decide), hs, bind_some']; rfl
    · show cond (decide ((2 : Int) < 4)) (cond (decide (0 ≤ (2 : Int)) && decide ((2 : Int) < ((4 : Nat) : Int))) ((f_signed (IntKind.wrap .u32 e2)).bind _) _) _ = _
      rw [cpos (by decide), cand (by decide) (by decide), hs, bind_some']; rfl
    · show cond (decide ((3 : Int) < 4)) (cond (decide (0 ≤ (3 : Int)) && decide ((3 : Int) < ((4 : Nat) : Int))) ((f_signed (IntKind.wrap .u32 e3)).bind _) _) _ = _
      rw [cpos (by decide), cand (by decide) (by decide), hs, bind_some']; rfl
  · rfl
abbrev M2 := List Int × List E59
noncomputable def put4 (B a w x : Int) (m : M2) : M2 := (wr B m.1 a w x, m.2 ++ [⟨a, w, x⟩])
theorem put4_len (B a w x : Int) (m : M2) : (put4 B a w x m).2.length = m.2.length + 1 := by unfold put4; simp
theorem MW (B a w x : Int) (m : M2) (h0 : 0 ≤ w) (h1 : w ≤ 8) (h : m.2.length < 9382499223533) : f_MWrite B m.1 m.2 a w x = some (put4 B a w x m) := MWrite_eq h0 h1 h
/-- A turned background. -/
noncomputable def bg4 (B s2 : Int) (t : Int × Int × Int × Int) (m : M2) : M2 :=
  put4 B ((s2 + 6) % 4294967296) 2 (t.2.2.2 % 65536) (put4 B ((s2 + 4) % 4294967296) 2 (t.2.2.1 % 65536) (put4 B ((s2 + 2) % 4294967296) 2 (t.2.1 % 65536) (put4 B (s2 % 4294967296) 2 (t.1 % 65536) m)))
noncomputable def bgs (B : Int) (s : Int × Int × M2) : Int × Int × M2 :=
  let bs := s.2.2.1
  let a := s.1
  let t := tn B bs ((a + 12) % 4294967296)
  let dx := IntKind.wrap .i16 (rd B bs ((a + 8) % 4294967296) 2)
  let dy := IntKind.wrap .i16 (rd B bs ((a + 10) % 4294967296) 2)
  ((a + 20) % 4294967296, (s.2.1 + 16) % 4294967296, put4 B ((s.2.1 + 12) % 4294967296) 4 ((rd B bs ((a + 4) % 4294967296) 4 - t.2.2.1 * dx - t.2.2.2 * dy) % 4294967296) (put4 B ((s.2.1 + 8) % 4294967296) 4 ((rd B bs a 4 - t.1 * dx - t.2.1 * dy) % 4294967296) (bg4 B s.2.1 t s.2.2)))
theorem bgs_len (B : Int) (s : Int × Int × M2) : (bgs B s).2.2.2.length = s.2.2.2.length + 6 := by unfold bgs bg4; simp only [put4_len]
theorem val_i32 (x p q : Int) : IntKind.wrap .u32 (IntKind.wrap .i32 (IntKind.wrap .i32 (IntKind.wrap .i32 x - IntKind.wrap .i32 p) - IntKind.wrap .i32 q)) = (x - p - q) % 4294967296 := by
  simp only [wr_u32, wr_i32]; omega
theorem val_i64 (x p q : Int) : IntKind.wrap .u32 (IntKind.wrap .i64 (IntKind.wrap .i64 (IntKind.wrap .i64 x - IntKind.wrap .i64 p) - IntKind.wrap .i64 q)) = (x - p - q) % 4294967296 := by
  simp only [wr_u32, wr_i64]; omega
theorem val_u16 (t : Int) : IntKind.wrap .u32 (IntKind.wrap .u16 t) = t % 65536 := by simp only [wr_u32, wr_u16]; omega
theorem val_u16' (t : Int) : Int.tmod (IntKind.wrap .u32 t) 65536 = t % 65536 := by rw [wr_u32, tmod_nn (by omega)]; omega
theorem ad_eq (s : Int) (i : Int) (h : 0 ≤ i ∧ i < 10) : IntKind.wrap .u32 (s + IntKind.wrap .u32 (IntKind.wrap .i64 (2 * i))) = (s + 2 * i) % 4294967296 := by
  rw [wrap_i64 (x := 2 * i) (by omega) (by omega), wr_u32, wr_u32]; omega
theorem i32_i16 (x : Int) : IntKind.wrap .i32 (IntKind.wrap .i16 x) = IntKind.wrap .i16 x := by have := i16_bd x; rw [wr_i32]; omega
def clamp (n : Int) : Int := if n > 256 then 256 else if n > 0 then n else 0
theorem clamp_p (n : Int) : (if (if (256 : Int) < n then 256 else n) > 0 then (if (256 : Int) < n then 256 else n) else 0) = clamp n := by unfold clamp; split <;> split <;> (try split) <;> omega
theorem clamp_r (n : Int) : (if (if n < 256 then n else 256) > 0 then (if n < 256 then n else 256) else 0) = clamp n := by unfold clamp; split <;> split <;> (try split) <;> omega
theorem clamp_bd (n : Int) : 0 ≤ clamp n ∧ clamp n ≤ 256 := by unfold clamp; split <;> (try split) <;> omega
noncomputable abbrev pst (B : Int) (s0 : Int × Int × M2) (i : Nat) : Int × Int × Int × List Int × List E59 := ((it (bgs B) s0 i).1, (it (bgs B) s0 i).2.1, (i : Int), (it (bgs B) s0 i).2.2.1, (it (bgs B) s0 i).2.2.2)
theorem it_len (B : Int) (s0 : Int × Int × M2) : ∀ n, (it (bgs B) s0 n).2.2.2.length = s0.2.2.2.length + 6 * n
  | 0 => rfl
  | n + 1 => by rw [show it (bgs B) s0 (n + 1) = bgs B (it (bgs B) s0 n) from rfl, bgs_len, it_len B s0 n]; omega
theorem four {ρ : Type} {F : (Int × List Int × List E59) → Option ((Int × List Int × List E59) ⊕ ρ)} {m m1 m2 m3 m4 : M2} {r : ρ} (h0 : F (0, m.1, m.2) = some (.inl (1, m1.1, m1.2))) (h1 : F (1, m1.1, m1.2) = some (.inl (2, m2.1, m2.2))) (h2 : F (2, m2.1, m2.2) = some (.inl (3, m3.1, m3.2))) (h3 : F (3, m3.1, m3.2) = some (.inl (4, m4.1, m4.2))) (h4 : F (4, m4.1, m4.2) = some (.inr r)) : loopO F (0, m.1, m.2) = some r := by
  rw [loopO_eq, h0, bind_some']
  show loopO F (1, m1.1, m1.2) = _
  rw [loopO_eq, h1, bind_some']
  show loopO F (2, m2.1, m2.2) = _
  rw [loopO_eq, h2, bind_some']
  show loopO F (3, m3.1, m3.2) = _
  rw [loopO_eq, h3, bind_some']
  show loopO F (4, m4.1, m4.2) = _
  rw [loopO_eq, h4, bind_some']
theorem four' {ρ : Type} {F : (Int × Int × List Int × List E59) → Option ((Int × Int × List Int × List E59) ⊕ ρ)} {a0 a1 a2 a3 a4 : Int} {m m1 m2 m3 m4 : M2} {r : ρ} (h0 : F (a0, 0, m.1, m.2) = some (.inl (a1, 1, m1.1, m1.2))) (h1 : F (a1, 1, m1.1, m1.2) = some (.inl (a2, 2, m2.1, m2.2))) (h2 : F (a2, 2, m2.1, m2.2) = some (.inl (a3, 3, m3.1, m3.2))) (h3 : F (a3, 3, m3.1, m3.2) = some (.inl (a4, 4, m4.1, m4.2))) (h4 : F (a4, 4, m4.1, m4.2) = some (.inr r)) : loopO F (a0, 0, m.1, m.2) = some r := by
  rw [loopO_eq, h0, bind_some']
  show loopO F (a1, 1, m1.1, m1.2) = _
  rw [loopO_eq, h1, bind_some']
  show loopO F (a2, 2, m2.1, m2.2) = _
  rw [loopO_eq, h2, bind_some']
  show loopO F (a3, 3, m3.1, m3.2) = _
  rw [loopO_eq, h3, bind_some']
  show loopO F (a4, 4, m4.1, m4.2) = _
  rw [loopO_eq, h4, bind_some']
theorem BgTurn_eq (B : Int) (bs : List Int) (ns : List E59) (a b n : Int) (hns : ns.length ≤ 1000000) : f_BgTurn B bs ns a b n = some (clamp n, (it (bgs B) (a, b, bs, ns) (clamp n).toNat).2.2.1, (it (bgs B) (a, b, bs, ns) (clamp n).toNat).2.2.2) := by
  unfold f_BgTurn
  have hcl := clamp_bd n
  rw [clamp_p, Let_eq, show (a, b, (0 : Int), bs, ns) = pst B (a, b, bs, ns) 0 from rfl]
  refine loopO_for (pst B (a, b, bs, ns)) (clamp n).toNat (fun i hi => ?_) ?_
  · have hl : (it (bgs B) (a, b, bs, ns) i).2.2.2.length = ns.length + 6 * i := it_len _ _ i
    unfold pst
    rw [show it (bgs B) (a, b, bs, ns) (i + 1) = bgs B (it (bgs B) (a, b, bs, ns) i) from rfl]
    generalize it (bgs B) (a, b, bs, ns) i = g at hl
    obtain ⟨g1, g2, m⟩ := g
    show cond (decide ((i : Int) < clamp n)) ((f_MRead B m.1 m.2 g1 4).bind _) _ = _
    dsimp only at hl
    rw [cpos (by omega), MRead_eq (by decide) (by decide), bind_some', MRead_eq (by decide) (by decide), bind_some', wr_u32 (g1 + 4), MRead_eq (by decide) (by decide), bind_some', wr_u32 (g1 + 8), MRead_eq (by decide) (by decide), bind_some', wr_u32 (g1 + 10), Let_eq, Let_eq, turn_eq, bind_some', wr_u32 (g1 + 12), i32_i16, i32_i16]
    have e0 : bgs B (g1, g2, m) = ((g1 + 20) % 4294967296, (g2 + 16) % 4294967296, put4 B ((g2 + 12) % 4294967296) 4 ((rd B m.1 ((g1 + 4) % 4294967296) 4 - (tn B m.1 ((g1 + 12) % 4294967296)).2.2.1 * IntKind.wrap .i16 (rd B m.1 ((g1 + 8) % 4294967296) 2) - (tn B m.1 ((g1 + 12) % 4294967296)).2.2.2 * IntKind.wrap .i16 (rd B m.1 ((g1 + 10) % 4294967296) 2)) % 4294967296) (put4 B ((g2 + 8) % 4294967296) 4 ((rd B m.1 g1 4 - (tn B m.1 ((g1 + 12) % 4294967296)).1 * IntKind.wrap .i16 (rd B m.1 ((g1 + 8) % 4294967296) 2) - (tn B m.1 ((g1 + 12) % 4294967296)).2.1 * IntKind.wrap .i16 (rd B m.1 ((g1 + 10) % 4294967296) 2)) % 4294967296) (bg4 B g2 (tn B m.1 ((g1 + 12) % 4294967296)) m))) := rfl
    rw [e0]
    have hb : IntKind.wrap .i32 (tn B m.1 ((g1 + 12) % 4294967296)).1 = (tn B m.1 ((g1 + 12) % 4294967296)).1 ∧ IntKind.wrap .i32 (tn B m.1 ((g1 + 12) % 4294967296)).2.1 = (tn B m.1 ((g1 + 12) % 4294967296)).2.1 ∧ IntKind.wrap .i32 (tn B m.1 ((g1 + 12) % 4294967296)).2.2.1 = (tn B m.1 ((g1 + 12) % 4294967296)).2.2.1 ∧ IntKind.wrap .i32 (tn B m.1 ((g1 + 12) % 4294967296)).2.2.2 = (tn B m.1 ((g1 + 12) % 4294967296)).2.2.2 := ⟨i32_i16 _, i32_i16 _, i32_i16 _, i32_i16 _⟩
    generalize tn B m.1 ((g1 + 12) % 4294967296) = t at hb ⊢
    obtain ⟨t0, t1, t2, t3⟩ := t
    dsimp only at hb ⊢
    rw [hb.1, hb.2.1, hb.2.2.1, hb.2.2.2]
    obtain ⟨m1, hm1⟩ : ∃ x, put4 B (g2 % 4294967296) 2 (t0 % 65536) m = x := ⟨_, rfl⟩
    obtain ⟨m2, hm2⟩ : ∃ x, put4 B ((g2 + 2) % 4294967296) 2 (t1 % 65536) m1 = x := ⟨_, rfl⟩
    obtain ⟨m3, hm3⟩ : ∃ x, put4 B ((g2 + 4) % 4294967296) 2 (t2 % 65536) m2 = x := ⟨_, rfl⟩
    obtain ⟨m4, hm4⟩ : ∃ x, put4 B ((g2 + 6) % 4294967296) 2 (t3 % 65536) m3 = x := ⟨_, rfl⟩
    have e4 : bg4 B g2 (t0, t1, t2, t3) m = m4 := by subst hm1; subst hm2; subst hm3; exact hm4
    rw [e4]
    have l1 : m1.2.length = m.2.length + 1 := by rw [← hm1, put4_len]
    have l2 : m2.2.length = m1.2.length + 1 := by rw [← hm2, put4_len]
    have l3 : m3.2.length = m2.2.length + 1 := by rw [← hm3, put4_len]
    have l4 : m4.2.length = m3.2.length + 1 := by rw [← hm4, put4_len]
    obtain ⟨m5, hm5⟩ : ∃ x, put4 B ((g2 + 8) % 4294967296) 4 ((rd B m.1 g1 4 - t0 * IntKind.wrap .i16 (rd B m.1 ((g1 + 8) % 4294967296) 2) - t1 * IntKind.wrap .i16 (rd B m.1 ((g1 + 10) % 4294967296) 2)) % 4294967296) m4 = x := ⟨_, rfl⟩
    have l5 : m5.2.length = m4.2.length + 1 := by rw [← hm5, put4_len]
    rw [hm5]
    refine four (m1 := m1) (m2 := m2) (m3 := m3) (m4 := m4) ?_ ?_ ?_ ?_ ?_
    · show cond (decide ((0 : Int) < 4)) (cond (decide (0 ≤ (0 : Int)) && decide ((0 : Int) < ((4 : Nat) : Int))) ((f_MWrite B m.1 m.2 (IntKind.wrap .u32 (g2 + IntKind.wrap .u32 (IntKind.wrap .i64 (2 * 0)))) 2 (IntKind.wrap .u32 (IntKind.wrap .u16 t0))).bind _) _) _ = _
      rw [cpos (by decide), cand (by decide) (by decide), ad_eq g2 0 (by decide), show g2 + 2 * 0 = g2 by omega, val_u16, MW B _ _ _ m (by decide) (by decide) (by omega), bind_some', hm1]; rfl
    · show cond (decide ((1 : Int) < 4)) (cond (decide (0 ≤ (1 : Int)) && decide ((1 : Int) < ((4 : Nat) : Int))) ((f_MWrite B m1.1 m1.2 (IntKind.wrap .u32 (g2 + IntKind.wrap .u32 (IntKind.wrap .i64 (2 * 1)))) 2 (IntKind.wrap .u32 (IntKind.wrap .u16 t1))).bind _) _) _ = _
      rw [cpos (by decide), cand (by decide) (by decide), ad_eq g2 1 (by decide), show g2 + 2 * 1 = g2 + 2 by omega, val_u16, MW B _ _ _ m1 (by decide) (by decide) (by omega), bind_some', hm2]; rfl
    · show cond (decide ((2 : Int) < 4)) (cond (decide (0 ≤ (2 : Int)) && decide ((2 : Int) < ((4 : Nat) : Int))) ((f_MWrite B m2.1 m2.2 (IntKind.wrap .u32 (g2 + IntKind.wrap .u32 (IntKind.wrap .i64 (2 * 2)))) 2 (IntKind.wrap .u32 (IntKind.wrap .u16 t2))).bind _) _) _ = _
      rw [cpos (by decide), cand (by decide) (by decide), ad_eq g2 2 (by decide), show g2 + 2 * 2 = g2 + 4 by omega, val_u16, MW B _ _ _ m2 (by decide) (by decide) (by omega), bind_some', hm3]; rfl
    · show cond (decide ((3 : Int) < 4)) (cond (decide (0 ≤ (3 : Int)) && decide ((3 : Int) < ((4 : Nat) : Int))) ((f_MWrite B m3.1 m3.2 (IntKind.wrap .u32 (g2 + IntKind.wrap .u32 (IntKind.wrap .i64 (2 * 3)))) 2 (IntKind.wrap .u32 (IntKind.wrap .u16 t3))).bind _) _) _ = _
      rw [cpos (by decide), cand (by decide) (by decide), ad_eq g2 3 (by decide), show g2 + 2 * 3 = g2 + 6 by omega, val_u16, MW B _ _ _ m3 (by decide) (by decide) (by omega), bind_some', hm4]; rfl
    · show cond (decide ((4 : Int) < 4)) _ (cond (decide (0 ≤ (0 : Int)) && decide ((0 : Int) < ((4 : Nat) : Int))) (cond (decide (0 ≤ (1 : Int)) && decide ((1 : Int) < ((4 : Nat) : Int))) ((f_MWrite B m4.1 m4.2 (IntKind.wrap .u32 (g2 + 8)) 4 _).bind _) _) _) = _
      rw [cneg (by decide), cand (by decide) (by decide), cand (by decide) (by decide), val_i32, wr_u32 (g2 + 8)]
      rw [MW B _ _ _ m4 (by decide) (by decide) (by omega), bind_some', hm5]
      show cond (decide (0 ≤ (2 : Int)) && decide ((2 : Int) < ((4 : Nat) : Int))) (cond (decide (0 ≤ (3 : Int)) && decide ((3 : Int) < ((4 : Nat) : Int))) ((f_MWrite B m5.1 m5.2 (IntKind.wrap .u32 (g2 + 12)) 4 _).bind _) _) _ = _
      rw [cand (by decide) (by decide), cand (by decide) (by decide), val_i32, wr_u32 (g2 + 12)]
      rw [MW B _ _ _ m5 (by decide) (by decide) (by omega), bind_some', wr_u32 (g1 + 20), wr_u32 (g2 + 16), wrap_i64 (x := (i : Int) + 1) (by omega) (by omega)]
      rfl
  · show cond (decide (((clamp n).toNat : Int) < clamp n)) _ _ = _
    rw [cneg (by omega)]
theorem rBgTurn_eq (B : Int) (bs : List Int) (ns : List E59) (a b n : Int) (hns : ns.length ≤ 1000000) : f_rBgTurn B bs ns a b n = some (clamp n, (it (bgs B) (a, b, bs, ns) (clamp n).toNat).2.2.1, (it (bgs B) (a, b, bs, ns) (clamp n).toNat).2.2.2) := by
  unfold f_rBgTurn
  have hcl := clamp_bd n
  rw [clamp_r, Let_eq, show (a, b, (0 : Int), bs, ns) = pst B (a, b, bs, ns) 0 from rfl]
  refine loopO_for (pst B (a, b, bs, ns)) (clamp n).toNat (fun i hi => ?_) ?_
  · have hl : (it (bgs B) (a, b, bs, ns) i).2.2.2.length = ns.length + 6 * i := it_len _ _ i
    unfold pst
    rw [show it (bgs B) (a, b, bs, ns) (i + 1) = bgs B (it (bgs B) (a, b, bs, ns) i) from rfl]
    generalize it (bgs B) (a, b, bs, ns) i = g at hl
    obtain ⟨g1, g2, m⟩ := g
    show cond (decide ((i : Int) < clamp n)) ((f_MRead B m.1 m.2 g1 4).bind _) _ = _
    dsimp only at hl
    rw [cpos (by omega), MRead_eq (by decide) (by decide), bind_some', MRead_eq (by decide) (by decide), bind_some', wr_u32 (g1 + 4), MRead_eq (by decide) (by decide), bind_some', wr_u32 (g1 + 8), signed_eq (rd_bd _ _ _ _), bind_some', MRead_eq (by decide) (by decide), bind_some', wr_u32 (g1 + 10), signed_eq (rd_bd _ _ _ _), bind_some', rturn_eq, bind_some', wr_u32 (g1 + 12)]
    have e0 : bgs B (g1, g2, m) = ((g1 + 20) % 4294967296, (g2 + 16) % 4294967296, put4 B ((g2 + 12) % 4294967296) 4 ((rd B m.1 ((g1 + 4) % 4294967296) 4 - (tn B m.1 ((g1 + 12) % 4294967296)).2.2.1 * IntKind.wrap .i16 (rd B m.1 ((g1 + 8) % 4294967296) 2) - (tn B m.1 ((g1 + 12) % 4294967296)).2.2.2 * IntKind.wrap .i16 (rd B m.1 ((g1 + 10) % 4294967296) 2)) % 4294967296) (put4 B ((g2 + 8) % 4294967296) 4 ((rd B m.1 g1 4 - (tn B m.1 ((g1 + 12) % 4294967296)).1 * IntKind.wrap .i16 (rd B m.1 ((g1 + 8) % 4294967296) 2) - (tn B m.1 ((g1 + 12) % 4294967296)).2.1 * IntKind.wrap .i16 (rd B m.1 ((g1 + 10) % 4294967296) 2)) % 4294967296) (bg4 B g2 (tn B m.1 ((g1 + 12) % 4294967296)) m))) := rfl
    rw [e0]
    have hb : IntKind.wrap .i32 (tn B m.1 ((g1 + 12) % 4294967296)).1 = (tn B m.1 ((g1 + 12) % 4294967296)).1 ∧ IntKind.wrap .i32 (tn B m.1 ((g1 + 12) % 4294967296)).2.1 = (tn B m.1 ((g1 + 12) % 4294967296)).2.1 ∧ IntKind.wrap .i32 (tn B m.1 ((g1 + 12) % 4294967296)).2.2.1 = (tn B m.1 ((g1 + 12) % 4294967296)).2.2.1 ∧ IntKind.wrap .i32 (tn B m.1 ((g1 + 12) % 4294967296)).2.2.2 = (tn B m.1 ((g1 + 12) % 4294967296)).2.2.2 := ⟨i32_i16 _, i32_i16 _, i32_i16 _, i32_i16 _⟩
    generalize tn B m.1 ((g1 + 12) % 4294967296) = t at hb ⊢
    obtain ⟨t0, t1, t2, t3⟩ := t
    dsimp only at hb ⊢
    obtain ⟨m1, hm1⟩ : ∃ x, put4 B (g2 % 4294967296) 2 (t0 % 65536) m = x := ⟨_, rfl⟩
    obtain ⟨m2, hm2⟩ : ∃ x, put4 B ((g2 + 2) % 4294967296) 2 (t1 % 65536) m1 = x := ⟨_, rfl⟩
    obtain ⟨m3, hm3⟩ : ∃ x, put4 B ((g2 + 4) % 4294967296) 2 (t2 % 65536) m2 = x := ⟨_, rfl⟩
    obtain ⟨m4, hm4⟩ : ∃ x, put4 B ((g2 + 6) % 4294967296) 2 (t3 % 65536) m3 = x := ⟨_, rfl⟩
    have e4 : bg4 B g2 (t0, t1, t2, t3) m = m4 := by subst hm1; subst hm2; subst hm3; exact hm4
    rw [e4]
    have l1 : m1.2.length = m.2.length + 1 := by rw [← hm1, put4_len]
    have l2 : m2.2.length = m1.2.length + 1 := by rw [← hm2, put4_len]
    have l3 : m3.2.length = m2.2.length + 1 := by rw [← hm3, put4_len]
    have l4 : m4.2.length = m3.2.length + 1 := by rw [← hm4, put4_len]
    obtain ⟨m5, hm5⟩ : ∃ x, put4 B ((g2 + 8) % 4294967296) 4 ((rd B m.1 g1 4 - t0 * IntKind.wrap .i16 (rd B m.1 ((g1 + 8) % 4294967296) 2) - t1 * IntKind.wrap .i16 (rd B m.1 ((g1 + 10) % 4294967296) 2)) % 4294967296) m4 = x := ⟨_, rfl⟩
    have l5 : m5.2.length = m4.2.length + 1 := by rw [← hm5, put4_len]
    rw [hm5]
    refine four (m1 := m1) (m2 := m2) (m3 := m3) (m4 := m4) ?_ ?_ ?_ ?_ ?_
    · show cond (decide ((0 : Int) < 4)) (cond (decide (0 ≤ (0 : Int)) && decide ((0 : Int) < ((([t0, t1, t2, t3] : List Int).length : Nat) : Int))) ((f_MWrite B m.1 m.2 (IntKind.wrap .u32 (g2 + IntKind.wrap .u32 (IntKind.wrap .i64 (2 * 0)))) 2 (Int.tmod (IntKind.wrap .u32 t0) 65536)).bind _) _) _ = _
      rw [cpos (by decide), cand (by decide) (show (0 : Int) < ((([t0, t1, t2, t3] : List Int).length : Nat) : Int) by simp), ad_eq g2 0 (by decide), show g2 + 2 * 0 = g2 by omega, val_u16', MW B _ _ _ m (by decide) (by decide) (by omega), bind_some', hm1]; rfl
    · show cond (decide ((1 : Int) < 4)) (cond (decide (0 ≤ (1 : Int)) && decide ((1 : Int) < ((([t0, t1, t2, t3] : List Int).length : Nat) : Int))) ((f_MWrite B m1.1 m1.2 (IntKind.wrap .u32 (g2 + IntKind.wrap .u32 (IntKind.wrap .i64 (2 * 1)))) 2 (Int.tmod (IntKind.wrap .u32 t1) 65536)).bind _) _) _ = _
      rw [cpos (by decide), cand (by decide) (show (1 : Int) < ((([t0, t1, t2, t3] : List Int).length : Nat) : Int) by simp), ad_eq g2 1 (by decide), show g2 + 2 * 1 = g2 + 2 by omega, val_u16', MW B _ _ _ m1 (by decide) (by decide) (by omega), bind_some', hm2]; rfl
    · show cond (decide ((2 : Int) < 4)) (cond (decide (0 ≤ (2 : Int)) && decide ((2 : Int) < ((([t0, t1, t2, t3] : List Int).length : Nat) : Int))) ((f_MWrite B m2.1 m2.2 (IntKind.wrap .u32 (g2 + IntKind.wrap .u32 (IntKind.wrap .i64 (2 * 2)))) 2 (Int.tmod (IntKind.wrap .u32 t2) 65536)).bind _) _) _ = _
      rw [cpos (by decide), cand (by decide) (show (2 : Int) < ((([t0, t1, t2, t3] : List Int).length : Nat) : Int) by simp), ad_eq g2 2 (by decide), show g2 + 2 * 2 = g2 + 4 by omega, val_u16', MW B _ _ _ m2 (by decide) (by decide) (by omega), bind_some', hm3]; rfl
    · show cond (decide ((3 : Int) < 4)) (cond (decide (0 ≤ (3 : Int)) && decide ((3 : Int) < ((([t0, t1, t2, t3] : List Int).length : Nat) : Int))) ((f_MWrite B m3.1 m3.2 (IntKind.wrap .u32 (g2 + IntKind.wrap .u32 (IntKind.wrap .i64 (2 * 3)))) 2 (Int.tmod (IntKind.wrap .u32 t3) 65536)).bind _) _) _ = _
      rw [cpos (by decide), cand (by decide) (show (3 : Int) < ((([t0, t1, t2, t3] : List Int).length : Nat) : Int) by simp), ad_eq g2 3 (by decide), show g2 + 2 * 3 = g2 + 6 by omega, val_u16', MW B _ _ _ m3 (by decide) (by decide) (by omega), bind_some', hm4]; rfl
    · show cond (decide ((4 : Int) < 4)) _ (cond (decide (0 ≤ (0 : Int)) && decide ((0 : Int) < ((([t0, t1, t2, t3] : List Int).length : Nat) : Int))) (cond (decide (0 ≤ (1 : Int)) && decide ((1 : Int) < ((([t0, t1, t2, t3] : List Int).length : Nat) : Int))) ((f_MWrite B m4.1 m4.2 (IntKind.wrap .u32 (g2 + 8)) 4 _).bind _) _) _) = _
      rw [cneg (by decide), cand (by decide) (show (0 : Int) < ((([t0, t1, t2, t3] : List Int).length : Nat) : Int) by simp), cand (by decide) (show (1 : Int) < ((([t0, t1, t2, t3] : List Int).length : Nat) : Int) by simp), val_i64, wr_u32 (g2 + 8)]
      rw [show ixL ([t0, t1, t2, t3] : List Int) 0 = t0 from rfl, show ixL ([t0, t1, t2, t3] : List Int) 1 = t1 from rfl]
      rw [MW B _ _ _ m4 (by decide) (by decide) (by omega), bind_some', hm5]
      show cond (decide (0 ≤ (2 : Int)) && decide ((2 : Int) < ((([t0, t1, t2, t3] : List Int).length : Nat) : Int))) (cond (decide (0 ≤ (3 : Int)) && decide ((3 : Int) < ((([t0, t1, t2, t3] : List Int).length : Nat) : Int))) ((f_MWrite B m5.1 m5.2 (IntKind.wrap .u32 (g2 + 12)) 4 _).bind _) _) _ = _
      rw [cand (by decide) (show (2 : Int) < ((([t0, t1, t2, t3] : List Int).length : Nat) : Int) by simp), cand (by decide) (show (3 : Int) < ((([t0, t1, t2, t3] : List Int).length : Nat) : Int) by simp), val_i64, wr_u32 (g2 + 12)]
      rw [show ixL ([t0, t1, t2, t3] : List Int) 2 = t2 from rfl, show ixL ([t0, t1, t2, t3] : List Int) 3 = t3 from rfl]
      rw [MW B _ _ _ m5 (by decide) (by decide) (by omega), bind_some', wr_u32 (g1 + 20), wr_u32 (g2 + 16), wrap_i64 (x := (i : Int) + 1) (by omega) (by omega)]
      rfl
  · show cond (decide (((clamp n).toNat : Int) < clamp n)) _ _ = _
    rw [cneg (by omega)]
end Go.Proofs.Ytnobglfjinehfaa
