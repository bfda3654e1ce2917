/-
  Turned sprites; BiosTurns.
-/
import Derived.Test.YtnobglfjinehfaaBioT
import Derived.Test.YtnobglfjinehfaaWork
namespace Go.Proofs.Ytnobglfjinehfaa
open Go.Vc
set_option linter.unusedVariables false
set_option linter.unusedSimpArgs false

noncomputable def obs (B ap : Int) (s : Int × Int × M2) : Int × Int × M2 :=
  let t := tn B s.2.2.1 s.1
  let b1 := (s.2.1 + ap) % 4294967296
  let b2 := (b1 + ap) % 4294967296
  let b3 := (b2 + ap) % 4294967296
  ((s.1 + 8) % 4294967296, (b3 + ap) % 4294967296, put4 B b3 2 (t.2.2.2 % 65536) (put4 B b2 2 (t.2.2.1 % 65536) (put4 B b1 2 (t.2.1 % 65536) (put4 B s.2.1 2 (t.1 % 65536) s.2.2))))
theorem obs_len (B ap : Int) (s : Int × Int × M2) : (obs B ap s).2.2.2.length = s.2.2.2.length + 4 := by unfold obs; simp only [put4_len]
theorem ito_len (B ap : Int) (s0 : Int × Int × M2) : ∀ n, (it (obs B ap) s0 n).2.2.2.length = s0.2.2.2.length + 4 * n
  | 0 => rfl
  | n + 1 => by rw [show it (obs B ap) s0 (n + 1) = obs B ap (it (obs B ap) s0 n) from rfl, obs_len, ito_len B ap s0 n]; omega
noncomputable abbrev qst (B ap : Int) (s0 : Int × Int × M2) (i : Nat) : Int × Int × Int × List Int × List E59 := ((it (obs B ap) s0 i).1, (it (obs B ap) s0 i).2.1, (i : Int), (it (obs B ap) s0 i).2.2.1, (it (obs B ap) s0 i).2.2.2)
theorem ObjTurn_eq (B : Int) (bs : List Int) (ns : List E59) (a b n ap : Int) (hns : ns.length ≤ 1000000) : f_ObjTurn B bs ns a b n ap = some (clamp n, (it (obs B ap) (a, b, bs, ns) (clamp n).toNat).2.2.1, (it (obs B ap) (a, b, bs, ns) (clamp n).toNat).2.2.2) := by
  unfold f_ObjTurn
  have hcl := clamp_bd n
  rw [clamp_p, Let_eq, show (a, b, (0 : Int), bs, ns) = qst B ap (a, b, bs, ns) 0 from rfl]
  refine loopO_for (qst B ap (a, b, bs, ns)) (clamp n).toNat (fun i hi => ?_) ?_
  · have hl : (it (obs B ap) (a, b, bs, ns) i).2.2.2.length = ns.length + 4 * i := ito_len _ _ _ i
    unfold qst
    rw [show it (obs B ap) (a, b, bs, ns) (i + 1) = obs B ap (it (obs B ap) (a, b, bs, ns) i) from rfl]
    generalize it (obs B ap) (a, b, bs, ns) i = g at hl
    obtain ⟨g1, g2, m⟩ := g
    show cond (decide ((i : Int) < clamp n)) ((f_turn B m.1 m.2 g1).bind _) _ = _
    dsimp only at hl
    rw [cpos (by omega), turn_eq, bind_some']
    have e0 : obs B ap (g1, g2, m) = ((g1 + 8) % 4294967296, ((((g2 + ap) % 4294967296 + ap) % 4294967296 + ap) % 4294967296 + ap) % 4294967296, put4 B ((((g2 + ap) % 4294967296 + ap) % 4294967296 + ap) % 4294967296) 2 ((tn B m.1 g1).2.2.2 % 65536) (put4 B (((g2 + ap) % 4294967296 + ap) % 4294967296) 2 ((tn B m.1 g1).2.2.1 % 65536) (put4 B ((g2 + ap) % 4294967296) 2 ((tn B m.1 g1).2.1 % 65536) (put4 B g2 2 ((tn B m.1 g1).1 % 65536) m)))) := rfl
    rw [e0]
    generalize tn B m.1 g1 = t
    obtain ⟨t0, t1, t2, t3⟩ := t
    dsimp only
    obtain ⟨b1, hb1⟩ : ∃ x, (g2 + ap) % 4294967296 = x := ⟨_, rfl⟩
    obtain ⟨b2, hb2⟩ : ∃ x, (b1 + ap) % 4294967296 = x := ⟨_, rfl⟩
    obtain ⟨b3, hb3⟩ : ∃ x, (b2 + ap) % 4294967296 = x := ⟨_, rfl⟩
    obtain ⟨b4, hb4⟩ : ∃ x, (b3 + ap) % 4294967296 = x := ⟨_, rfl⟩
    rw [hb1, hb2, hb3, hb4]
    obtain ⟨m1, hm1⟩ : ∃ x, put4 B g2 2 (t0 % 65536) m = x := ⟨_, rfl⟩
    obtain ⟨m2, hm2⟩ : ∃ x, put4 B b1 2 (t1 % 65536) m1 = x := ⟨_, rfl⟩
    obtain ⟨m3, hm3⟩ : ∃ x, put4 B b2 2 (t2 % 65536) m2 = x := ⟨_, rfl⟩
    obtain ⟨m4, hm4⟩ : ∃ x, put4 B b3 2 (t3 % 65536) m3 = x := ⟨_, rfl⟩
    rw [hm1, hm2, hm3, hm4]
    have l1 : m1.2.length = m.2.length + 1 := by rw [← hm1, put4_len]
    have l2 : m2.2.length = m1.2.length + 1 := by rw [← hm2, put4_len]
    have l3 : m3.2.length = m2.2.length + 1 := by rw [← hm3, put4_len]
    have l4 : m4.2.length = m3.2.length + 1 := by rw [← hm4, put4_len]
    refine four' (a0 := g2) (a1 := b1) (a2 := b2) (a3 := b3) (a4 := b4) (m1 := m1) (m2 := m2) (m3 := m3) (m4 := m4) ?_ ?_ ?_ ?_ ?_
    · show cond (decide ((0 : Int) < 4)) (cond (decide (0 ≤ (0 : Int)) && decide ((0 : Int) < ((4 : Nat) : Int))) ((f_MWrite B m.1 m.2 g2 2 (IntKind.wrap .u32 (IntKind.wrap .u16 t0))).bind _) _) _ = _
      rw [cpos (by decide), cand (by decide) (by decide), val_u16, MW B _ _ _ m (by decide) (by decide) (by omega), bind_some', hm1, wr_u32 (g2 + ap), hb1]; rfl
    · show cond (decide ((1 : Int) < 4)) (cond (decide (0 ≤ (1 : Int)) && decide ((1 : Int) < ((4 : Nat) : Int))) ((f_MWrite B m1.1 m1.2 b1 2 (IntKind.wrap .u32 (IntKind.wrap .u16 t1))).bind _) _) _ = _
      rw [cpos (by decide), cand (by decide) (by decide), val_u16, MW B _ _ _ m1 (by decide) (by decide) (by omega), bind_some', hm2, wr_u32 (b1 + ap), hb2]; rfl
    · show cond (decide ((2 : Int) < 4)) (cond (decide (0 ≤ (2 : Int)) && decide ((2 : Int) < ((4 : Nat) : Int))) ((f_MWrite B m2.1 m2.2 b2 2 (IntKind.wrap .u32 (IntKind.wrap .u16 t2))).bind _) _) _ = _
      rw [cpos (by decide), cand (by decide) (by decide), val_u16, MW B _ _ _ m2 (by decide) (by decide) (by omega), bind_some', hm3, wr_u32 (b2 + ap), hb3]; rfl
    · show cond (decide ((3 : Int) < 4)) (cond (decide (0 ≤ (3 : Int)) && decide ((3 : Int) < ((4 : Nat) : Int))) ((f_MWrite B m3.1 m3.2 b3 2 (IntKind.wrap .u32 (IntKind.wrap .u16 t3))).bind _) _) _ = _
      rw [cpos (by decide), cand (by decide) (by decide), val_u16, MW B _ _ _ m3 (by decide) (by decide) (by omega), bind_some', hm4, wr_u32 (b3 + ap), hb4]; rfl
    · show cond (decide ((4 : Int) < 4)) _ (some (Sum.inr (Sum.inl (_, b4, IntKind.wrap .i64 ((i : Int) + 1), m4.1, m4.2)))) = _
      rw [cneg (by decide), wr_u32 (g1 + 8), wrap_i64 (x := (i : Int) + 1) (by omega) (by omega)]
      rfl
  · show cond (decide (((clamp n).toNat : Int) < clamp n)) _ _ = _
    rw [cneg (by omega)]
theorem rObjTurn_eq (B : Int) (bs : List Int) (ns : List E59) (a b n ap : Int) (hns : ns.length ≤ 1000000) : f_rObjTurn B bs ns a b n ap = some (clamp n, (it (obs B ap) (a, b, bs, ns) (clamp n).toNat).2.2.1, (it (obs B ap) (a, b, bs, ns) (clamp n).toNat).2.2.2) := by
  unfold f_rObjTurn
  have hcl := clamp_bd n
  rw [clamp_r, Let_eq, show (a, b, (0 : Int), bs, ns) = qst B ap (a, b, bs, ns) 0 from rfl]
  refine loopO_for (qst B ap (a, b, bs, ns)) (clamp n).toNat (fun i hi => ?_) ?_
  · have hl : (it (obs B ap) (a, b, bs, ns) i).2.2.2.length = ns.length + 4 * i := ito_len _ _ _ i
    unfold qst
    rw [show it (obs B ap) (a, b, bs, ns) (i + 1) = obs B ap (it (obs B ap) (a, b, bs, ns) i) from rfl]
    generalize it (obs B ap) (a, b, bs, ns) i = g at hl
    obtain ⟨g1, g2, m⟩ := g
    show cond (decide ((i : Int) < clamp n)) ((f_rturn B m.1 m.2 g1).bind _) _ = _
    dsimp only at hl
    rw [cpos (by omega), rturn_eq, bind_some']
    have e0 : obs B ap (g1, g2, m) = ((g1 + 8) % 4294967296, ((((g2 + ap) % 4294967296 + ap) % 4294967296 + ap) % 4294967296 + ap) % 4294967296, put4 B ((((g2 + ap) % 4294967296 + ap) % 4294967296 + ap) % 4294967296) 2 ((tn B m.1 g1).2.2.2 % 65536) (put4 B (((g2 + ap) % 4294967296 + ap) % 4294967296) 2 ((tn B m.1 g1).2.2.1 % 65536) (put4 B ((g2 + ap) % 4294967296) 2 ((tn B m.1 g1).2.1 % 65536) (put4 B g2 2 ((tn B m.1 g1).1 % 65536) m)))) := rfl
    rw [e0]
    generalize tn B m.1 g1 = t
    obtain ⟨t0, t1, t2, t3⟩ := t
    dsimp only
    obtain ⟨b1, hb1⟩ : ∃ x, (g2 + ap) % 4294967296 = x := ⟨_, rfl⟩
    obtain ⟨b2, hb2⟩ : ∃ x, (b1 + ap) % 4294967296 = x := ⟨_, rfl⟩
    obtain ⟨b3, hb3⟩ : ∃ x, (b2 + ap) % 4294967296 = x := ⟨_, rfl⟩
    obtain ⟨b4, hb4⟩ : ∃ x, (b3 + ap) % 4294967296 = x := ⟨_, rfl⟩
    rw [hb1, hb2, hb3, hb4]
    obtain ⟨m1, hm1⟩ : ∃ x, put4 B g2 2 (t0 % 65536) m = x := ⟨_, rfl⟩
    obtain ⟨m2, hm2⟩ : ∃ x, put4 B b1 2 (t1 % 65536) m1 = x := ⟨_, rfl⟩
    obtain ⟨m3, hm3⟩ : ∃ x, put4 B b2 2 (t2 % 65536) m2 = x := ⟨_, rfl⟩
    obtain ⟨m4, hm4⟩ : ∃ x, put4 B b3 2 (t3 % 65536) m3 = x := ⟨_, rfl⟩
    rw [hm1, hm2, hm3, hm4]
    have l1 : m1.2.length = m.2.length + 1 := by rw [← hm1, put4_len]
    have l2 : m2.2.length = m1.2.length + 1 := by rw [← hm2, put4_len]
    have l3 : m3.2.length = m2.2.length + 1 := by rw [← hm3, put4_len]
    have l4 : m4.2.length = m3.2.length + 1 := by rw [← hm4, put4_len]
    refine four' (a0 := g2) (a1 := b1) (a2 := b2) (a3 := b3) (a4 := b4) (m1 := m1) (m2 := m2) (m3 := m3) (m4 := m4) ?_ ?_ ?_ ?_ ?_
    · show cond (decide ((0 : Int) < 4)) (cond (decide (0 ≤ (0 : Int)) && decide ((0 : Int) < ((([t0, t1, t2, t3] : List Int).length : Nat) : Int))) ((f_MWrite B m.1 m.2 g2 2 (Int.tmod (IntKind.wrap .u32 t0) 65536)).bind _) _) _ = _
      rw [cpos (by decide), cand (by decide) (show (0 : Int) < ((([t0, t1, t2, t3] : List Int).length : Nat) : Int) by simp), val_u16', MW B _ _ _ m (by decide) (by decide) (by omega), bind_some', hm1, wr_u32 (g2 + ap), hb1]; rfl
    · show cond (decide ((1 : Int) < 4)) (cond (decide (0 ≤ (1 : Int)) && decide ((1 : Int) < ((([t0, t1, t2, t3] : List Int).length : Nat) : Int))) ((f_MWrite B m1.1 m1.2 b1 2 (Int.tmod (IntKind.wrap .u32 t1) 65536)).bind _) _) _ = _
      rw [cpos (by decide), cand (by decide) (show (1 : Int) < ((([t0, t1, t2, t3] : List Int).length : Nat) : Int) by simp), val_u16', MW B _ _ _ m1 (by decide) (by decide) (by omega), bind_some', hm2, wr_u32 (b1 + ap), hb2]; rfl
    · show cond (decide ((2 : Int) < 4)) (cond (decide (0 ≤ (2 : Int)) && decide ((2 : Int) < ((([t0, t1, t2, t3] : List Int).length : Nat) : Int))) ((f_MWrite B m2.1 m2.2 b2 2 (Int.tmod (IntKind.wrap .u32 t2) 65536)).bind _) _) _ = _
      rw [cpos (by decide), cand (by decide) (show (2 : Int) < ((([t0, t1, t2, t3] : List Int).length : Nat) : Int) by simp), val_u16', MW B _ _ _ m2 (by decide) (by decide) (by omega), bind_some', hm3, wr_u32 (b2 + ap), hb3]; rfl
    · show cond (decide ((3 : Int) < 4)) (cond (decide (0 ≤ (3 : Int)) && decide ((3 : Int) < ((([t0, t1, t2, t3] : List Int).length : Nat) : Int))) ((f_MWrite B m3.1 m3.2 b3 2 (Int.tmod (IntKind.wrap .u32 t3) 65536)).bind _) _) _ = _
      rw [cpos (by decide), cand (by decide) (show (3 : Int) < ((([t0, t1, t2, t3] : List Int).length : Nat) : Int) by simp), val_u16', MW B _ _ _ m3 (by decide) (by decide) (by omega), bind_some', hm4, wr_u32 (b3 + ap), hb4]; rfl
    · show cond (decide ((4 : Int) < 4)) _ (some (Sum.inr (Sum.inl (_, b4, IntKind.wrap .i64 ((i : Int) + 1), m4.1, m4.2)))) = _
      rw [cneg (by decide), wr_u32 (g1 + 8), wrap_i64 (x := (i : Int) + 1) (by omega) (by omega)]
      rfl
  · show cond (decide (((clamp n).toNat : Int) < clamp n)) _ _ = _
    rw [cneg (by omega)]
theorem BiosTurns_eq (w : List Int) (a b c : Int) (d : Bool) (e f : Int) : f_BiosTurns w a b c d e f = some true := by
  unfold f_BiosTurns
  rw [awake_eq, bind_some']
  show cond (decide (((w.length : Nat) : Int) > 10000)) _ _ = _
  by_cases h : ((w.length : Nat) : Int) > 10000
  · rw [cpos h]
  have hcl := clamp_bd e
  have l1 : (it (bgs 33554432) (a, b, w, []) (clamp e).toNat).2.2.2.length = 0 + 6 * (clamp e).toNat := it_len _ _ _
  have l2 : (it (obs 33554432 f) (a, b, w, []) (clamp e).toNat).2.2.2.length = 0 + 4 * (clamp e).toNat := ito_len _ _ _ _
  rw [cneg h, two_eq w a b c d e f (by omega), bind_some']
  show ((f_BgTurn 33554432 w [] a b e).bind _) = _
  rw [BgTurn_eq _ _ _ _ _ _ (by decide), bind_some']
  show ((f_rBgTurn 33554432 w [] a b e).bind _) = _
  rw [rBgTurn_eq _ _ _ _ _ _ (by decide), bind_some']
  show cond (clamp e != clamp e) _ ((f_Same (it (bgs 33554432) (a, b, w, []) (clamp e).toNat).2.2.2 (it (bgs 33554432) (a, b, w, []) (clamp e).toNat).2.2.2).bind _) = _
  rw [cbeq rfl, Same_refl _ (by omega), bind_some']
  rw [cfalse (show (!true) = false from rfl), bind_some']
  show ((f_ObjTurn 33554432 w [] a b e f).bind _) = _
  rw [ObjTurn_eq _ _ _ _ _ _ _ (by decide), bind_some']
  show ((f_rObjTurn 33554432 w [] a b e f).bind _) = _
  rw [rObjTurn_eq _ _ _ _ _ _ _ (by decide), bind_some']
  show cond (clamp e == clamp e) ((f_Same (it (obs 33554432 f) (a, b, w, []) (clamp e).toNat).2.2.2 (it (obs 33554432 f) (a, b, w, []) (clamp e).toNat).2.2.2).bind _) _ = _
  rw [ceq rfl, Same_refl _ (by omega), bind_some']
  rfl
theorem law_BiosTurns (w : World) (l0 : List Value) (w0 : ∃ n, Rd Try.prog w n 25 l0) :
    Calls Try.prog 9 #[.agg l0.toArray] w fun e w' => e = .returned (.bool true) ∧ Chg (fun _ => False) w w' := by
  obtain ⟨p, k, xs, a, b, c, d, e, f, rfl, hr, hok, ha, hb, hc, he, hf⟩ := work_of w0
  exact (t_BiosTurns (BiosTurns_eq xs a b c d e f) trivial hr not_foot_nil rfl).mono fun e w' h => ⟨h.1, h.2.quiet⟩
end Go.Proofs.Ytnobglfjinehfaa
