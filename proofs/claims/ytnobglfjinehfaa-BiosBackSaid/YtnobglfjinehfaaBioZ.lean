/-
  Differences; whole streams; BiosUnpacks.
-/
import Derived.Test.YtnobglfjinehfaaBioY
import Derived.Test.YtnobglfjinehfaaWork
namespace Go.Proofs.Ytnobglfjinehfaa
open Go.Vc
set_option linter.unusedVariables false
set_option linter.unusedSimpArgs false

noncomputable def endm (B to : Int) (m : M3) : List Int × List E59 :=
  if m.2.2.length % 2 = 1 then (wr B m.1 ((to + ((m.2.2.length : Int) - 1)) % 4294967296) 2 (ixL m.2.2 ((m.2.2.length : Int) - 1)), m.2.1 ++ [⟨(to + ((m.2.2.length : Int) - 1)) % 4294967296, 2, ixL m.2.2 ((m.2.2.length : Int) - 1)⟩])
  else (m.1, m.2.1)
theorem end_eq {B to size : Int} {m : M3} (hi : Inv size m) : f_end_ to m.2.2 size B m.1 m.2.1 = some (endm B to m) := by
  unfold f_end_ endm
  have hl := hi.len
  have hn := hi.notes
  have hs := hi.s1
  have e1 : Int.tmod ((m.2.2.length : Nat) : Int) 2 = ((m.2.2.length % 2 : Nat) : Int) := by rw [tmod_nn (by omega)]; omega
  rw [e1]
  by_cases hp : m.2.2.length % 2 = 1
  · have hlast := hi.done _ (ixL_mem (l := m.2.2) (i := (m.2.2.length : Int) - 1) (by omega) (by omega))
    rw [if_pos hp, ceq (by rw [hp]; rfl), wrap_i64 (x := ((m.2.2.length : Nat) : Int) - 1) (by omega) (by omega), cand (by omega) (by omega)]
    generalize ixL m.2.2 ((m.2.2.length : Int) - 1) = p at hlast
    have e4 : IntKind.wrap .u32 (to + IntKind.wrap .u32 ((m.2.2.length : Int) - 1)) = (to + ((m.2.2.length : Int) - 1)) % 4294967296 := by simp only [wr_u32]; omega
    rw [e4, wrap_u32 (x := p) (by omega) (by omega), MWrite_eq (by decide) (by decide) (by omega), bind_some']
  · rw [if_neg hp, cne (by omega)]
theorem tail_r {B to size : Int} {m : M3} (hi : Inv size m) : (cond ((Int.tmod ((m.2.2.length : Nat) : Int) 2) == 1) (cond (decide (0 ≤ (IntKind.wrap .i64 (((m.2.2.length : Nat) : Int) - 1))) && decide ((IntKind.wrap .i64 (((m.2.2.length : Nat) : Int) - 1)) < ((m.2.2.length : Nat) : Int))) ((f_MWrite B m.1 m.2.1 (IntKind.wrap .u32 (to + (IntKind.wrap .u32 (IntKind.wrap .i64 (((m.2.2.length : Nat) : Int) - 1))))) 2 (IntKind.wrap .u32 (ixL m.2.2 (IntKind.wrap .i64 (((m.2.2.length : Nat) : Int) - 1))))).bind fun (o : O_MWrite) => (match o with | (a, b) => (some (((m.2.2.length : Nat) : Int), a, b)))) none) (some (((m.2.2.length : Nat) : Int), m.1, m.2.1)) : Option O_rUnpack) = some (((m.2.2.length : Nat) : Int), (endm B to m).1, (endm B to m).2) := by
  have h := end_eq (B := B) (to := to) hi
  unfold f_end_ at h
  cases hc : (Int.tmod ((m.2.2.length : Nat) : Int) 2) == 1 with
  | false =>
    rw [hc] at h
    have h' : some (m.1, m.2.1) = some (endm B to m) := h
    rw [← Option.some.inj h']; rfl
  | true =>
    rw [hc] at h
    cases hd : (decide (0 ≤ (IntKind.wrap .i64 (((m.2.2.length : Nat) : Int) - 1))) && decide ((IntKind.wrap .i64 (((m.2.2.length : Nat) : Int) - 1)) < ((m.2.2.length : Nat) : Int))) with
    | false => rw [hd] at h; cases h
    | true =>
      rw [hd] at h
      change ((f_MWrite B m.1 m.2.1 _ 2 _).bind _) = _ at h
      show ((f_MWrite B m.1 m.2.1 _ 2 _).bind _) = _
      cases hw : f_MWrite B m.1 m.2.1 (IntKind.wrap .u32 (to + (IntKind.wrap .u32 (IntKind.wrap .i64 (((m.2.2.length : Nat) : Int) - 1))))) 2 (IntKind.wrap .u32 (ixL m.2.2 (IntKind.wrap .i64 (((m.2.2.length : Nat) : Int) - 1)))) with
      | none => rw [hw] at h; cases h
      | some r =>
        rw [hw, bind_some'] at h
        have h' : some (r.1, r.2) = some (endm B to m) := h
        rw [bind_some', ← Option.some.inj h']
theorem endm_len {B to size : Int} {m : M3} (hi : Inv size m) : (endm B to m).2.length ≤ 100000 := by
  have hl := hi.len
  have hn := hi.notes
  have hs := hi.s1
  unfold endm; split
  · simp; omega
  · dsimp only; omega
theorem diff_both {B to size : Int} {ρ : Type} {P : Int × Bool × Int × Int × List Int × List Int × List E59 → Option ((Int × Bool × Int × Int × List Int × List Int × List E59) ⊕ ρ)} {R : Int × Int × List Int × List Int × List E59 → Option ((Int × Int × List Int × List Int × List E59) ⊕ (Int × List Int × List Int × List E59))} (e : M3 → ρ)
    (hP0 : ∀ (v a n : Int) (m : M3), Inv size m → P (v, false, a, n, m.2.2, m.1, m.2.1) = some (.inr (e m)))
    (hP1 : ∀ (v a n : Int) (m : M3), (0 ≤ v ∧ v < 256) → Inv size m → ¬ full size m → P (v, true, a, n, m.2.2, m.1, m.2.1) = some (.inl ((v + nb B m a) % 256, decide (¬ full size (pt B to size ((v + nb B m a) % 256) m)), (a + 1) % 4294967296, IntKind.wrap .i64 (n + 1), (pt B to size ((v + nb B m a) % 256) m).2.2, (pt B to size ((v + nb B m a) % 256) m).1, (pt B to size ((v + nb B m a) % 256) m).2.1)))
    (hR0 : ∀ (v a : Int) (m : M3), full size m → R (v, a, m.2.2, m.1, m.2.1) = some (.inr (a, m.2.2, m.1, m.2.1)))
    (hR1 : ∀ (v a : Int) (m : M3), (0 ≤ v ∧ v < 256) → Inv size m → ¬ full size m → R (v, a, m.2.2, m.1, m.2.1) = some (.inl ((v + nb B m a) % 256, (a + 1) % 4294967296, (pt B to size ((v + nb B m a) % 256) m).2.2, (pt B to size ((v + nb B m a) % 256) m).1, (pt B to size ((v + nb B m a) % 256) m).2.1))) :
    ∀ (d : Nat) (v a n : Int) (m : M3), size - (m.2.2.length : Int) ≤ (d : Int) → (0 ≤ v ∧ v < 256) → Inv size m → ¬ full size m → ∃ (a2 : Int) (m' : M3), loopO P (v, true, a, n, m.2.2, m.1, m.2.1) = some (e m') ∧ loopO R (v, a, m.2.2, m.1, m.2.1) = some (a2, m'.2.2, m'.1, m'.2.1) ∧ Inv size m' := by
  intro d
  induction d with
  | zero =>
    intro v a n m hd hv hi hf
    exact absurd (show size ≤ (m.2.2.length : Int) by omega) hf
  | succ d ih =>
    intro v a n m hd hv hi hf
    have hb : 0 ≤ (v + nb B m a) % 256 ∧ (v + nb B m a) % 256 < 256 := by omega
    have hi' := pt_inv (B := B) (to := to) hi hb
    have hl := pt_len (B := B) (to := to) (x := (v + nb B m a) % 256) hf
    by_cases h : full size (pt B to size ((v + nb B m a) % 256) m)
    · refine ⟨(a + 1) % 4294967296, pt B to size ((v + nb B m a) % 256) m, ?_, ?_, hi'⟩
      · rw [loopO_eq, hP1 v a n m hv hi hf, bind_some', decide_eq_false (by simpa using h)]
        show loopO P (_, false, _, _, _, _, _) = _
        rw [loopO_eq, hP0 _ _ _ _ hi', bind_some']
      · rw [loopO_eq, hR1 v a m hv hi hf, bind_some']
        show loopO R (_, _, _, _, _) = _
        rw [loopO_eq, hR0 _ _ _ h, bind_some']
    · obtain ⟨a2, m', e1, e2, e3⟩ := ih ((v + nb B m a) % 256) ((a + 1) % 4294967296) (IntKind.wrap .i64 (n + 1)) (pt B to size ((v + nb B m a) % 256) m) (by omega) hb hi' h
      refine ⟨a2, m', ?_, ?_, e3⟩
      · rw [loopO_eq, hP1 v a n m hv hi hf, bind_some', decide_eq_true h]; exact e1
      · rw [loopO_eq, hR1 v a m hv hi hf, bind_some']; exact e2
theorem tup3 {B to : Int} {m : M3} : ((endm B to m).1, (endm B to m).2) = endm B to m := rfl
theorem Unpack_both {B from_ to : Int} {bs : List Int} (hf : 0 ≤ from_ ∧ from_ < 4294967296) (ht : 0 ≤ to ∧ to < 4294967296) (hok : okB bs) : ∃ r : Int × List Int × List E59, f_Unpack B bs [] from_ to = some r ∧ f_rUnpack B bs [] from_ to = some r ∧ r.2.2.length ≤ 100000 := by
  unfold f_Unpack f_rUnpack f_head
  have h4 : IntKind.wrap .u32 (from_ - Int.tmod from_ 4) = from_ - from_ % 4 := by rw [tmod_nn hf.1, wr_u32]; omega
  have h2 : IntKind.wrap .u32 (to - Int.tmod to 2) = to - to % 2 := by rw [tmod_nn ht.1, wr_u32]; omega
  rw [andNot3 hf.1 hf.2, andNot1 ht.1 ht.2, h4, h2]
  obtain ⟨f4, hf4⟩ : ∃ f4, f4 = from_ - from_ % 4 := ⟨_, rfl⟩
  have hfb : 0 ≤ f4 ∧ f4 < 4294967296 := by omega
  rw [← hf4]
  generalize to - to % 2 = tt
  have hw := rd_bd B bs f4 4
  rw [Let_eq, Let_eq, MRead_eq (by decide) (by decide), bind_some', bind_some']
  generalize rd B bs f4 4 = w at hw
  have k1 : IntKind.wrap .i64 (bits .and .u32 w 255) = w % 256 := by
    rw [and32 8 (by decide) (by decide) hw.1 hw.2]
    simp only [show ((2 ^ 8 : Nat) : Int) = 256 by decide]
    rw [wrap_i64 (by omega) (by omega)]
  have k2 : bits .and .i64 (IntKind.wrap .i64 (Int.fdiv w 256)) 65535 = w / 256 % 65536 := by
    rw [fdiv_pos (by decide), wrap_i64 (x := w / 256) (by omega) (by omega), and64 16 (by decide) (by decide)]; rfl
  have k3 : IntKind.wrap .i64 (Int.tmod (IntKind.wrap .u32 (Int.tdiv w 256)) 65536) = w / 256 % 65536 := by
    rw [tdiv_nn hw.1, wrap_u32 (x := w / 256) (by omega) (by omega), tmod_nn (by omega), wrap_i64 (by omega) (by omega)]
  have k4 : Int.tmod w 256 = w % 256 := tmod_nn hw.1
  have k5 : Int.tmod w 16 = w % 16 := tmod_nn hw.1
  have k6 : bits .and .i64 (w % 256) 15 = w % 16 := by
    rw [and64 4 (by decide) (by decide)]
    simp only [show ((2 ^ 4 : Nat) : Int) = 16 by decide]; omega
  have k7 : IntKind.wrap .u32 (f4 + 4) = (f4 + 4) % 4294967296 := wr_u32 _
  rw [k1, k2, k3, k4, k5, Let_eq, Let_eq, bind_some', Let_eq]
  show ∃ r : Int × List Int × List E59, cond (w / 256 % 65536 == 0) _ _ = _ ∧ cond (w / 256 % 65536 == 0) _ _ = _ ∧ _
  rw [k6, k7]
  have hsz : 0 ≤ w / 256 % 65536 ∧ w / 256 % 65536 ≤ 65535 := by omega
  have hkd : 0 ≤ w % 256 ∧ w % 256 < 256 := by omega
  have h16 : w % 16 = w % 256 % 16 := by omega
  rw [h16]
  generalize w / 256 % 65536 = size at hsz
  generalize w % 256 = kind at hkd
  by_cases hs0 : size = 0
  · rw [ceq hs0, ceq hs0]
    exact ⟨(0, bs, []), rfl, rfl, by simp⟩
  rw [cne hs0, cne hs0]
  have hi : Inv size ((bs, [], []) : M3) := ⟨by omega, hsz.2, hok, fun x h => (by cases h), by simp; omega, Nat.le_refl _⟩
  have hnf : ¬ full size ((bs, [], []) : M3) := by
    intro h
    have h' : size ≤ ((([] : List Int).length : Nat) : Int) := h
    simp at h'; omega
  have fin : ∀ (m' : M3) (X : Option O_Unpack) (Y : Option O_rUnpack), Inv size m' → X = some (((m'.2.2.length : Nat) : Int), (endm B tt m').1, (endm B tt m').2) → Y = some (((m'.2.2.length : Nat) : Int), (endm B tt m').1, (endm B tt m').2) → ∃ r : Int × List Int × List E59, X = some r ∧ Y = some r ∧ r.2.2.length ≤ 100000 :=
    fun m' X Y h1 h2 h3 => ⟨_, h2, h3, endm_len h1⟩
  have fine : ∀ (m' : M3), Inv size m' → ((f_end_ tt m'.2.2 size B m'.1 m'.2.1).bind fun (o : O_end_) => (match o with | (a, b) => (some (((m'.2.2.length : Nat) : Int), a, b) : Option O_Unpack))) = some (((m'.2.2.length : Nat) : Int), (endm B tt m').1, (endm B tt m').2) := fun m' h1 => by rw [end_eq h1, bind_some']
  by_cases c1 : kind = 16
  · obtain ⟨a1, n1, a2, m', e1, e2, e3⟩ := again_both (B := B) (to := tt) (size := size) (a := (f4 + 4) % 4294967296) (n := 0) hi hnf
    refine fin m' _ _ e3 ?_ ?_
    · rw [ceq c1]
      show ((f_again ((f4 + 4) % 4294967296) 0 B bs [] tt [] size).bind _) = _
      rw [show f_again ((f4 + 4) % 4294967296) 0 B bs [] tt [] size = _ from e1, bind_some']
      exact fine m' e3
    · rw [ceq c1, show f_ragain ((f4 + 4) % 4294967296) B bs [] tt size [] = _ from e2, bind_some', bind_some']
      exact tail_r e3
  by_cases c2 : kind = 48
  · obtain ⟨a1, n1, a2, m', e1, e2, e3⟩ := runs_both (B := B) (to := tt) (size := size) (a := (f4 + 4) % 4294967296) (n := 0) hi hnf
    refine fin m' _ _ e3 ?_ ?_
    · rw [cne c1, ceq c2]
      show ((f_runs ((f4 + 4) % 4294967296) 0 B bs [] tt [] size).bind _) = _
      rw [show f_runs ((f4 + 4) % 4294967296) 0 B bs [] tt [] size = _ from e1, bind_some']
      exact fine m' e3
    · rw [cne c1, ceq c2, show f_rruns ((f4 + 4) % 4294967296) B bs [] tt size [] = _ from e2, bind_some', bind_some']
      exact tail_r e3
  by_cases c3 : kind = 36
  · obtain ⟨a1, n1, a2, m', e1, e2, e3⟩ := codes_both (B := B) (to := tt) (size := size) (a := (f4 + 4) % 4294967296) (n := 0) (wide := kind % 16) (eight := kind % 16 == 8) rfl (by omega) hi hnf
    refine fin m' _ _ e3 ?_ ?_
    · rw [cne c1, cne c2, ceq c3]
      show ((f_codes ((f4 + 4) % 4294967296) 0 B bs [] tt [] size (kind % 16)).bind _) = _
      rw [show f_codes ((f4 + 4) % 4294967296) 0 B bs [] tt [] size (kind % 16) = _ from e1, bind_some']
      exact fine m' e3
    · rw [cne c1, cne c2, ceq c3, ceq c3, show f_rcodes ((f4 + 4) % 4294967296) B bs [] tt size [] (kind % 16 == 8) = _ from e2, bind_some', bind_some']
      exact tail_r e3
  by_cases c4 : kind = 40
  · obtain ⟨a1, n1, a2, m', e1, e2, e3⟩ := codes_both (B := B) (to := tt) (size := size) (a := (f4 + 4) % 4294967296) (n := 0) (wide := kind % 16) (eight := kind % 16 == 8) rfl (by omega) hi hnf
    refine fin m' _ _ e3 ?_ ?_
    · rw [cne c1, cne c2, cne c3, ceq c4]
      show ((f_codes ((f4 + 4) % 4294967296) 0 B bs [] tt [] size (kind % 16)).bind _) = _
      rw [show f_codes ((f4 + 4) % 4294967296) 0 B bs [] tt [] size (kind % 16) = _ from e1, bind_some']
      exact fine m' e3
    · rw [cne c1, cne c2, cne c3, ceq c4, show f_rcodes ((f4 + 4) % 4294967296) B bs [] tt size [] (kind % 16 == 8) = _ from e2, bind_some', bind_some']
      exact tail_r e3
  by_cases c5 : kind = 129
  · rw [cne c1, cne c1, cne c2, cne c2, cne c3, cne c3, cne c4, cne c4, ceq c5, ceq c5]
    have bind2 : ∀ (X : Option O_Unpack) (Y : Option (Int × List Int × List Int × List E59)) (K : (Int × List Int × List Int × List E59) → Option O_rUnpack), (∃ (a2 : Int) (m' : M3), X = some (((m'.2.2.length : Nat) : Int), (endm B tt m').1, (endm B tt m').2) ∧ Y = some (a2, m'.2.2, m'.1, m'.2.1) ∧ Inv size m') → (∀ (a2 : Int) (m' : M3), Inv size m' → K (a2, m'.2.2, m'.1, m'.2.1) = some (((m'.2.2.length : Nat) : Int), (endm B tt m').1, (endm B tt m').2)) → ∃ r : Int × List Int × List E59, X = some r ∧ Y.bind K = some r ∧ r.2.2.length ≤ 100000 := by
      rintro X Y K ⟨a2, m', h1, h2, h3⟩ hK
      exact fin m' _ _ h3 h1 (by rw [h2, bind_some', hK a2 m' h3])
    refine bind2 _ _ _ ?_ (fun a2 m' h => tail_r h)
    refine diff_both (B := B) (to := tt) (size := size) (fun m' => (((m'.2.2.length : Nat) : Int), (endm B tt m').1, (endm B tt m').2)) ?_ ?_ ?_ ?_ size.toNat 0 ((f4 + 4) % 4294967296) 0 (bs, [], []) (by simp; omega) (by decide) hi hnf
    · intro v a n m hi
      show ((f_end_ tt m.2.2 size B m.1 m.2.1).bind _) = _
      rw [end_eq hi, bind_some']
    · intro v a n m hv hi hf
      have hb := nb_bd (B := B) hi a
      show ((f_next a n B m.1 m.2.1).bind _) = _
      rw [next_m hi, bind_some']
      show ((f_put tt m.2.2 size B m.1 m.2.1 (IntKind.wrap .u8 (v + nb B m a))).bind _) = _
      rw [wr_u8 (v + nb B m a), put_eq hi (by omega), bind_some']
    · intro v a m h
      show ((f_full tt size m.2.2 B m.1 m.2.1).bind _) = _
      rw [full_eq, bind_some', decide_eq_true (show ((m.2.2.length : Nat) : Int) ≥ size from h)]; rfl
    · intro v a m hv hi hf
      have hb := nb_bd (B := B) hi a
      show ((f_full tt size m.2.2 B m.1 m.2.1).bind _) = _
      rw [full_eq, bind_some', decide_eq_false (show ¬ ((m.2.2.length : Nat) : Int) ≥ size from hf)]
      show ((f_snext a B m.1 m.2.1).bind _) = _
      rw [snext_m hi, bind_some']
      show Let _ _ = _
      rw [Let_eq, wrap_i64 (x := v + nb B m a) (by omega) (by omega), tmod_nn (by omega), rput_eq hi (by omega), bind_some']
  · rw [cne c1, cne c1, cne c2, cne c2, cne c3, cne c3, cne c4, cne c4, cne c5, cne c5]
    exact ⟨(0, bs, []), rfl, rfl, by simp⟩
theorem BiosUnpacks_eq (w : List Int) (a b c : Int) (d : Bool) (e f : Int) (hok : okB w) (ha : 0 ≤ a ∧ a < 4294967296) (hb : 0 ≤ b ∧ b < 4294967296) : f_BiosUnpacks w a b c d e f = some true := by
  unfold f_BiosUnpacks
  rw [awake_eq, bind_some']
  show cond (decide (((w.length : Nat) : Int) > 10000)) _ _ = _
  by_cases h : ((w.length : Nat) : Int) > 10000
  · rw [cpos h]
  rw [cneg h, two_eq w a b c d e f (by omega), bind_some']
  obtain ⟨r, h1, h2, h3⟩ := Unpack_both (B := 33554432) ha hb hok
  show ((f_Unpack 33554432 w [] a b).bind _) = _
  rw [h1, bind_some']
  show ((f_rUnpack 33554432 w [] a b).bind _) = _
  rw [h2, bind_some']
  show cond (r.1 == r.1) ((f_Same r.2.2 r.2.2).bind _) _ = _
  rw [ceq rfl, Same_refl _ (by omega), bind_some']
theorem law_BiosUnpacks (w : World) (l0 : List Value) (w0 : ∃ n, Rd Try.prog w n 25 l0) :
    Calls Try.prog 3 #[.agg l0.toArray] w fun e w' => e = .returned (.bool true) ∧ Chg (fun _ => False) w w' := by
  obtain ⟨p, k, xs, a, b, c, d, e, f, rfl, hr, hok, ha, hb, hc, he, hf⟩ := work_of w0
  exact (t_BiosUnpacks (BiosUnpacks_eq xs a b c d e f hok ha hb) trivial hr not_foot_nil rfl).mono fun e w' h => ⟨h.1, h.2.quiet⟩
end Go.Proofs.Ytnobglfjinehfaa
