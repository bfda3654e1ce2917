/-
  The channels, none of which is on; the unit over them. (Printed by wip/s23/mk.py.)
-/
import Derived.Test.YtccmpceifheejaaG
import Derived.Test.YtccmpceifheejaaPure
namespace Go.Proofs.Ytccmpceifheejaa
open Go.Vc
set_option linter.unusedVariables false
set_option linter.unusedSimpArgs false

noncomputable abbrev cPlay (now b n : Int) := f_play false 0 0 false 0 0 false 0 0 0 0 0 0 0 false 0 false 0 0 false 0 0 false 0 0 0 0 0 0 0 false 0 false 0 0 false 0 0 false 0 0 0 0 0 0 0 false 0 0 0 0 0 0 0 0 0 0 0 0 0 0 0 0 0 0 0 0 0 0 0 0 0 0 0 0 0 0 0 0 0 false 0 0 false false 0 0 false 0 0 false 0 0 0 0 0 0 0 false 0 0 false 0 0 now b n
noncomputable abbrev cBeat (now b : Int) := f_beat false 0 0 false 0 0 false 0 0 0 0 0 0 0 false 0 false 0 0 false 0 0 false 0 0 0 0 0 0 0 false 0 false 0 0 false 0 0 false 0 0 0 0 0 0 0 false 0 0 0 0 0 0 0 0 0 0 0 0 0 0 0 0 0 0 0 0 0 0 0 0 0 0 0 0 0 0 0 0 0 false 0 0 false false 0 0 false 0 0 false 0 0 0 0 0 0 0 false 0 0 false 0 0 now b
noncomputable abbrev cPRun (now b q : Int) := f_pRun false 0 0 false 0 0 false 0 0 0 0 0 0 0 false 0 false 0 0 false 0 0 false 0 0 0 0 0 0 0 false 0 false 0 0 false 0 0 false 0 0 0 0 0 0 0 false 0 0 0 0 0 0 0 0 0 0 0 0 0 0 0 0 0 0 0 0 0 0 0 0 0 0 0 0 0 0 0 0 0 false 0 0 false false 0 0 false 0 0 false 0 0 0 0 0 0 0 false 0 0 false 0 0 now b q
noncomputable abbrev cOut (now b : Int) := f_Out false 0 0 false 0 0 false 0 0 0 0 0 0 0 false 0 false 0 0 false 0 0 false 0 0 0 0 0 0 0 false 0 false 0 0 false 0 0 false 0 0 0 0 0 0 0 false 0 0 0 0 0 0 0 0 0 0 0 0 0 0 0 0 0 0 0 0 0 0 0 0 0 0 0 0 0 0 0 0 0 false 0 0 false false 0 0 false 0 0 false 0 0 0 0 0 0 0 false 0 0 false 0 0 now b
abbrev rz (now b : Int) : O_pRun := (false, 0, 0, 0, 0, 0, 0, 0, false, 0, 0, 0, 0, 0, false, 0, 0, 0, 0, 0, false, 0, 0, 0, 0, 0, 0, now, b)
noncomputable abbrev cSide (w0 : List Int) (n0 : Int) (w1 : List Int) (n1 mix dir : Int) (ma : Bool) (bias : Int) (out : List E38) (next now b : Int) (k : Int) := f_side w0 n0 w1 n1 mix dir ma bias out next false 0 0 false 0 0 false 0 0 0 0 0 0 0 false 0 false 0 0 false 0 0 false 0 0 0 0 0 0 0 false 0 false 0 0 false 0 0 false 0 0 0 0 0 0 0 false 0 0 0 0 0 0 0 0 0 0 0 0 0 0 0 0 0 0 0 0 0 0 0 0 0 0 0 0 0 0 0 0 0 false 0 0 false false 0 0 false 0 0 false 0 0 0 0 0 0 0 false 0 0 false 0 0 now b k
noncomputable abbrev cRun (w0 : List Int) (n0 : Int) (w1 : List Int) (n1 mix dir : Int) (ma : Bool) (bias : Int) (out : List E38) (next now b : Int) (q : Int) := f_Run w0 n0 w1 n1 mix dir ma bias out next false 0 0 false 0 0 false 0 0 0 0 0 0 0 false 0 false 0 0 false 0 0 false 0 0 0 0 0 0 0 false 0 false 0 0 false 0 0 false 0 0 0 0 0 0 0 false 0 0 0 0 0 0 0 0 0 0 0 0 0 0 0 0 0 0 0 0 0 0 0 0 0 0 0 0 0 0 0 0 0 false 0 0 false false 0 0 false 0 0 false 0 0 0 0 0 0 0 false 0 0 false 0 0 now b q
abbrev rRun (next now b : Int) (out : List E38) : O_Run := (next, false, 0, 0, 0, 0, 0, 0, 0, false, 0, 0, 0, 0, 0, false, 0, 0, 0, 0, 0, false, 0, 0, 0, 0, 0, 0, now, b, out)
noncomputable abbrev cFeed (w0 : List Int) (n0 : Int) (w1 : List Int) (n1 mix dir : Int) (ma : Bool) (bias : Int) (out : List E38) (next now b : Int) (i x : Int) := f_Feed w0 n0 w1 n1 mix dir ma bias out next false 0 0 false 0 0 false 0 0 0 0 0 0 0 false 0 false 0 0 false 0 0 false 0 0 0 0 0 0 0 false 0 false 0 0 false 0 0 false 0 0 0 0 0 0 0 false 0 0 0 0 0 0 0 0 0 0 0 0 0 0 0 0 0 0 0 0 0 0 0 0 0 0 0 0 0 0 0 0 0 false 0 0 false false 0 0 false 0 0 false 0 0 0 0 0 0 0 false 0 0 false 0 0 now b i x
noncomputable abbrev cWait (w0 : List Int) (n0 : Int) (w1 : List Int) (n1 mix dir : Int) (ma : Bool) (bias : Int) (out : List E38) (next now b : Int) (i : Int) := f_Waiting w0 n0 w1 n1 mix dir ma bias out next false 0 0 false 0 0 false 0 0 0 0 0 0 0 false 0 false 0 0 false 0 0 false 0 0 0 0 0 0 0 false 0 false 0 0 false 0 0 false 0 0 0 0 0 0 0 false 0 0 0 0 0 0 0 0 0 0 0 0 0 0 0 0 0 0 0 0 0 0 0 0 0 0 0 0 0 0 0 0 0 false 0 0 false false 0 0 false 0 0 false 0 0 0 0 0 0 0 false 0 0 false 0 0 now b i
noncomputable abbrev cOver (w0 : List Int) (n0 : Int) (w1 : List Int) (n1 mix dir : Int) (ma : Bool) (bias : Int) (out : List E38) (next now b : Int) (q t : Int) := f_Over w0 n0 w1 n1 mix dir ma bias out next false 0 0 false 0 0 false 0 0 0 0 0 0 0 false 0 false 0 0 false 0 0 false 0 0 0 0 0 0 0 false 0 false 0 0 false 0 0 false 0 0 0 0 0 0 0 false 0 0 0 0 0 0 0 0 0 0 0 0 0 0 0 0 0 0 0 0 0 0 0 0 0 0 0 0 0 0 0 0 0 false 0 0 false false 0 0 false 0 0 false 0 0 0 0 0 0 0 false 0 0 false 0 0 now b q t
abbrev rOver (h n0 n1 next now b : Int) (w0 w1 : List Int) (out : List E38) : O_Over := (h, n0, n1, next, false, 0, 0, 0, 0, 0, 0, 0, false, 0, 0, 0, 0, 0, false, 0, 0, 0, 0, 0, false, 0, 0, 0, 0, 0, 0, now, b, w0, w1, out)
noncomputable abbrev cWrite (w0 : List Int) (n0 : Int) (w1 : List Int) (n1 mix dir : Int) (ma : Bool) (bias : Int) (out : List E38) (next now b : Int) (q r x : Int) := f_Write w0 n0 w1 n1 mix dir ma bias out next false 0 0 false 0 0 false 0 0 0 0 0 0 0 false 0 false 0 0 false 0 0 false 0 0 0 0 0 0 0 false 0 false 0 0 false 0 0 false 0 0 0 0 0 0 0 false 0 0 0 0 0 0 0 0 0 0 0 0 0 0 0 0 0 0 0 0 0 0 0 0 0 0 0 0 0 0 0 0 0 false 0 0 false false 0 0 false 0 0 false 0 0 0 0 0 0 0 false 0 0 false 0 0 now b q r x
abbrev rWrite (n0 n1 mix dir : Int) (ma : Bool) (bias next now b : Int) (w0 w1 : List Int) (out : List E38) : O_Write := (n0, n1, mix, dir, ma, bias, next, false, 0, 0, 0, 0, 0, 0, 0, false, 0, 0, 0, 0, 0, false, 0, 0, 0, 0, 0, false, 0, 0, 0, 0, 0, 0, now, b, w0, w1, out)
noncomputable abbrev cTake (w0 : List Int) (n0 : Int) (w1 : List Int) (n1 mix dir : Int) (ma : Bool) (bias : Int) (out : List E38) (next now b : Int) (q : Int) := f_Take w0 n0 w1 n1 mix dir ma bias out next false 0 0 false 0 0 false 0 0 0 0 0 0 0 false 0 false 0 0 false 0 0 false 0 0 0 0 0 0 0 false 0 false 0 0 false 0 0 false 0 0 0 0 0 0 0 false 0 0 0 0 0 0 0 0 0 0 0 0 0 0 0 0 0 0 0 0 0 0 0 0 0 0 0 0 0 0 0 0 0 false 0 0 false false 0 0 false 0 0 false 0 0 0 0 0 0 0 false 0 0 false 0 0 now b q
abbrev rTake (next now b : Int) (out : List E38) : O_Take := (next, false, 0, 0, 0, 0, 0, 0, 0, false, 0, 0, 0, 0, 0, false, 0, 0, 0, 0, 0, false, 0, 0, 0, 0, 0, 0, now, b, out)

theorem wrap_i16 {x : Int} (h0 : -32768 ≤ x) (h1 : x ≤ 32767) : IntKind.wrap .i16 x = x := by
  have e1 : (2 : Int) ^ 16 = 65536 := by decide
  have e2 : (2 : Int) ^ (16 - 1) = 32768 := by decide
  simp only [IntKind.wrap, IntKind.bits, IntKind.signed, e1, e2, Bool.true_and, decide_eq_true_eq]
  split <;> omega
theorem ex_of {α β : Type} {x : Option α} (g : β → α) (h : ∃ r, x = some r ∧ ∃ b, r = g b) : ∃ b, x = some (g b) := by
  obtain ⟨r, hr, b, rfl⟩ := h; exact ⟨b, hr⟩
theorem play_eq (now b n : Int) : cPlay now b n = some (0, 0, 0, 0, 0, 0, 0, 0, 0) := by
  unfold cPlay f_play
  rw [cand (by decide) (by decide), cand (by decide) (by decide)]
  refine loopO_for (fun i => ((i : Int), 0, 0, 0, 0, 0, 0, 0, 0, 0)) 4 (fun i hi => ?_) rfl
  obtain rfl | rfl | rfl | rfl : i = 0 ∨ i = 1 ∨ i = 2 ∨ i = 3 := by omega
  all_goals rfl
theorem beat_eq (now b : Int) : cBeat now b = some (false, 0, 0, 0, 0, 0, false, 0, 0, 0, false, 0, 0, 0, false, 0, 0, 0, IntKind.wrap .i64 (b + 1)) := by
  unfold cBeat f_beat
  rw [cand (by decide) (by decide), cand (by decide) (by decide)]
  have hL1 : ∀ {ρ : Type} (f : (Int × Bool × Int × Bool × Int × Bool × Int × Bool × Int) → Option ((Int × Bool × Int × Bool × Int × Bool × Int × Bool × Int) ⊕ ρ)) (r : ρ), (∀ i : Nat, i < 4 → f ((i : Int), false, 0, false, 0, false, 0, false, 0) = some (.inl (((i + 1 : Nat) : Int), false, 0, false, 0, false, 0, false, 0))) → f (4, false, 0, false, 0, false, 0, false, 0) = some (.inr r) → loopO f (0, false, 0, false, 0, false, 0, false, 0) = some r := fun f r h he =>
    loopO_for (fun i => ((i : Int), false, 0, false, 0, false, 0, false, 0)) 4 h he
  have hL2 : ∀ {ρ : Type} (f : (Int × Int × Int × Int × Int × Int × Int × Int × Int) → Option ((Int × Int × Int × Int × Int × Int × Int × Int × Int) ⊕ ρ)) (r : ρ), (∀ i : Nat, i < 4 → f ((i : Int), 0, 0, 0, 0, 0, 0, 0, 0) = some (.inl (((i + 1 : Nat) : Int), 0, 0, 0, 0, 0, 0, 0, 0))) → f (4, 0, 0, 0, 0, 0, 0, 0, 0) = some (.inr r) → loopO f (0, 0, 0, 0, 0, 0, 0, 0, 0) = some r := fun f r h he =>
    loopO_for (fun i => ((i : Int), 0, 0, 0, 0, 0, 0, 0, 0)) 4 h he
  have four : ∀ i : Nat, i < 4 → i = 0 ∨ i = 1 ∨ i = 2 ∨ i = 3 := fun i hi => by omega
  by_cases g2 : Int.tmod (IntKind.wrap .i64 (b + 1)) 2 = 0
  · rw [ceq g2, hL1 _ (false, 0, false, 0, false, 0, false, 0) (fun i hi => by rcases four i hi with rfl | rfl | rfl | rfl <;> rfl) rfl, bind_some']
    by_cases g4 : Int.tmod (IntKind.wrap .i64 (b + 1)) 4 = 0
    · show ((cond (Int.tmod (IntKind.wrap .i64 (b + 1)) 4 == 0) _ _ : Option (Bool × Int × Int)).bind _) = _
      rw [ceq g4]
      show cond (Int.tmod (IntKind.wrap .i64 (b + 1)) 8 == 0) _ _ = _
      by_cases g8 : Int.tmod (IntKind.wrap .i64 (b + 1)) 8 = 0
      · rw [ceq g8]; exact hL2 _ _ (fun i hi => by rcases four i hi with rfl | rfl | rfl | rfl <;> rfl) rfl
      · rw [cne g8]
    · show ((cond (Int.tmod (IntKind.wrap .i64 (b + 1)) 4 == 0) _ _ : Option (Bool × Int × Int)).bind _) = _
      rw [cne g4]
      show cond (Int.tmod (IntKind.wrap .i64 (b + 1)) 8 == 0) _ _ = _
      by_cases g8 : Int.tmod (IntKind.wrap .i64 (b + 1)) 8 = 0
      · rw [ceq g8]; exact hL2 _ _ (fun i hi => by rcases four i hi with rfl | rfl | rfl | rfl <;> rfl) rfl
      · rw [cne g8]
  · rw [cne g2, bind_some']
    by_cases g4 : Int.tmod (IntKind.wrap .i64 (b + 1)) 4 = 0
    · show ((cond (Int.tmod (IntKind.wrap .i64 (b + 1)) 4 == 0) _ _ : Option (Bool × Int × Int)).bind _) = _
      rw [ceq g4]
      show cond (Int.tmod (IntKind.wrap .i64 (b + 1)) 8 == 0) _ _ = _
      by_cases g8 : Int.tmod (IntKind.wrap .i64 (b + 1)) 8 = 0
      · rw [ceq g8]; exact hL2 _ _ (fun i hi => by rcases four i hi with rfl | rfl | rfl | rfl <;> rfl) rfl
      · rw [cne g8]
    · show ((cond (Int.tmod (IntKind.wrap .i64 (b + 1)) 4 == 0) _ _ : Option (Bool × Int × Int)).bind _) = _
      rw [cne g4]
      show cond (Int.tmod (IntKind.wrap .i64 (b + 1)) 8 == 0) _ _ = _
      by_cases g8 : Int.tmod (IntKind.wrap .i64 (b + 1)) 8 = 0
      · rw [ceq g8]; exact hL2 _ _ (fun i hi => by rcases four i hi with rfl | rfl | rfl | rfl <;> rfl) rfl
      · rw [cne g8]
theorem pRun_eq {now q : Int} (b : Int) (h0 : 0 ≤ now) (h1 : now ≤ 4000000000000000000) (h2 : q ≤ 4000000000000000000) : ∃ b', cPRun now b q = some (rz (if now < q then q else now) b') := by
  unfold cPRun f_pRun
  refine ex_of (fun b' => rz (if now < q then q else now) b') ?_
  refine loopO_ex (fun r => ∃ b', r = rz (if now < q then q else now) b')
    (fun n s => ∃ m b', s = rz m b' ∧ n = ((if now < q then q else now) - m).toNat ∧ now ≤ m ∧ m ≤ (if now < q then q else now)) ?_ ((if now < q then q else now) - now).toNat (rz now b) ⟨now, b, rfl, rfl, by omega, by split <;> omega⟩
  · rintro n s ⟨m, b', rfl, rfl, hm, hm2⟩
    by_cases hq : m < q
    · left
      have hf : (if now < q then q else now) = q := by split <;> omega
      have ht : Int.tdiv m 32768 = m / 32768 := tdiv_nn (by omega)
      have e1 : IntKind.wrap .i64 (Int.tdiv m 32768) = m / 32768 := by rw [ht, wrap_i64 (by omega) (by omega)]
      have e2 : IntKind.wrap .i64 (m / 32768 + 1) = m / 32768 + 1 := wrap_i64 (by omega) (by omega)
      have e3 : IntKind.wrap .i64 ((m / 32768 + 1) * 32768) = (m / 32768 + 1) * 32768 := wrap_i64 (by omega) (by omega)
      obtain ⟨to, hto, h3, h4⟩ : ∃ to : Int, (if (m / 32768 + 1) * 32768 < q then (m / 32768 + 1) * 32768 else q) = to ∧ m < to ∧ to ≤ q := ⟨_, rfl, by split <;> omega, by split <;> omega⟩
      by_cases hb : Int.tmod to 32768 = 0
      · refine ⟨rz to (IntKind.wrap .i64 (b' + 1)), (q - to).toNat, ?_, by rw [hf]; omega, to, _, rfl, by rw [hf], by omega, by rw [hf]; exact h4⟩
        show cond (decide (m < q)) _ _ = _
        rw [cpos hq, e1, e2, e3, hto, Let_eq]
        show ((cPlay m b' _).bind _) = _
        rw [play_eq, bind_some']
        show cond (Int.tmod to 32768 == 0) ((cBeat to b').bind _) _ = _
        rw [ceq hb, beat_eq, bind_some']
      · refine ⟨rz to b', (q - to).toNat, ?_, by rw [hf]; omega, to, _, rfl, by rw [hf], by omega, by rw [hf]; exact h4⟩
        show cond (decide (m < q)) _ _ = _
        rw [cpos hq, e1, e2, e3, hto, Let_eq]
        show ((cPlay m b' _).bind _) = _
        rw [play_eq, bind_some']
        show cond (Int.tmod to 32768 == 0) _ _ = _
        rw [cne hb]
    · right
      refine ⟨rz m b', ?_, b', by rw [show (if now < q then q else now) = m by split <;> split at hm2 <;> omega]⟩
      show cond (decide (m < q)) _ _ = _
      rw [cneg hq]
theorem Out_eq (now b : Int) : cOut now b = some (0, 0, 0, 0) := by
  unfold cOut f_Out
  exact loopO_for (fun i => ((i : Int), 0, 0)) 2 (fun i hi => by
    obtain rfl | rfl : i = 0 ∨ i = 1 := by omega
    all_goals rfl) rfl

/-! ### what a side gives -/
section
variable (w0 : List Int) (n0 : Int) (w1 : List Int) (n1 mix dir : Int) (ma : Bool) (bias : Int) (out : List E38) (next now b : Int)
theorem side_off (k : Int) : cSide w0 n0 w1 n1 mix dir false bias out next now b k = some 0 := rfl
theorem side_bias (h0 : 0 ≤ bias) (h1 : bias ≤ 1022) (k : Int) (hk : k = 0 ∨ k = 1) : cSide w0 n0 w1 n1 0 0 true bias out next now b k = some 0 := by
  unfold cSide f_side
  show ((cOut now b).bind _) = _
  rw [Out_eq, bind_some']
  have e : IntKind.wrap .i64 bias = bias := wrap_i64 (by omega) (by omega)
  have e0 : IntKind.wrap .i64 ((0 : Int) + bias) = bias := by rw [Int.zero_add, e]
  refine loopO_for (fun i => (0, (i : Int))) 4 (fun i hi => ?_) ?_
  · obtain rfl | rfl | rfl | rfl : i = 0 ∨ i = 1 ∨ i = 2 ∨ i = 3 := by omega
    all_goals rcases hk with rfl | rfl <;> rfl
  · rcases hk with rfl | rfl
    all_goals
      refine loopO_for (fun i => (0, (i : Int))) 2 (fun i hi => ?_) ?_
      · obtain rfl | rfl : i = 0 ∨ i = 1 := by omega
        all_goals rfl
      · show cond (decide (((2 : Nat) : Int) < 2)) _ (Let (IntKind.wrap .i16 (IntKind.wrap .i64 ((IntKind.wrap .i64 ((if (if (1023 : Int) < (IntKind.wrap .i64 ((0 : Int) + (IntKind.wrap .i64 bias))) then 1023 else (IntKind.wrap .i64 ((0 : Int) + (IntKind.wrap .i64 bias)))) > 0 then (if (1023 : Int) < (IntKind.wrap .i64 ((0 : Int) + (IntKind.wrap .i64 bias))) then 1023 else (IntKind.wrap .i64 ((0 : Int) + (IntKind.wrap .i64 bias)))) else 0) - (IntKind.wrap .i64 bias))) * 32))) _) = _
        rw [cneg (by decide), e, e0, if_neg (show ¬ (1023 : Int) < bias by omega)]
        have e2 : (if bias > 0 then bias else 0) = bias := by split <;> omega
        rw [e2, Int.sub_self]; rfl
theorem side_loud (h0 : -128 ≤ n0) (h1 : n0 ≤ 127) (k : Int) (hk : k = 0 ∨ k = 1) : cSide w0 n0 w1 n1 0 772 true 512 out next now b k = some (128 * n0) := by
  unfold cSide f_side
  show ((cOut now b).bind _) = _
  rw [Out_eq, bind_some']
  refine loopO_for (fun i => (0, (i : Int))) 4 (fun i hi => ?_) ?_
  · obtain rfl | rfl | rfl | rfl : i = 0 ∨ i = 1 ∨ i = 2 ∨ i = 3 := by omega
    all_goals rcases hk with rfl | rfl <;> rfl
  · have e1 : IntKind.wrap .i64 (2 * n0) = 2 * n0 := wrap_i64 (by omega) (by omega)
    have e2 : IntKind.wrap .i64 (2 * n0 * 2) = 4 * n0 := by rw [wrap_i64 (by omega) (by omega)]; omega
    have e3 : IntKind.wrap .i64 ((0 : Int) + 4 * n0) = 4 * n0 := by rw [Int.zero_add, wrap_i64 (by omega) (by omega)]
    rcases hk with rfl | rfl
    all_goals
      refine loopO_for (fun i => (if i = 0 then 0 else 4 * n0, (i : Int))) 2 (fun i hi => ?_) ?_
      · obtain rfl | rfl : i = 0 ∨ i = 1 := by omega
        · show some (Sum.inl (IntKind.wrap .i64 (0 + IntKind.wrap .i64 (IntKind.wrap .i64 (2 * n0) * 2)), (1 : Int))) = some (Sum.inl (4 * n0, (1 : Int)))
          rw [e1, e2, e3]
        · rfl
      · show cond (decide (((2 : Nat) : Int) < 2)) _ (Let (IntKind.wrap .i16 (IntKind.wrap .i64 ((IntKind.wrap .i64 ((if (if (1023 : Int) < (IntKind.wrap .i64 (4 * n0 + 512)) then 1023 else (IntKind.wrap .i64 (4 * n0 + 512))) > 0 then (if (1023 : Int) < (IntKind.wrap .i64 (4 * n0 + 512)) then 1023 else (IntKind.wrap .i64 (4 * n0 + 512))) else 0) - 512)) * 32))) _) = _
        have e4 : IntKind.wrap .i64 (4 * n0 + 512) = 4 * n0 + 512 := wrap_i64 (by omega) (by omega)
        have e5 : (if (4 * n0 + 512) > 0 then 4 * n0 + 512 else 0) = 4 * n0 + 512 := by split <;> omega
        have e6 : IntKind.wrap .i64 (4 * n0 + 512 - 512) = 4 * n0 := by rw [wrap_i64 (by omega) (by omega)]; omega
        have e7 : IntKind.wrap .i64 (4 * n0 * 32) = 128 * n0 := by rw [wrap_i64 (by omega) (by omega)]; omega
        have e8 : IntKind.wrap .i16 (128 * n0) = 128 * n0 := wrap_i16 (by omega) (by omega)
        rw [cneg (by decide), e4, if_neg (show ¬ (1023 : Int) < 4 * n0 + 512 by omega), e5, e6, e7, e8]; rfl
/-- A run, of which each sample is the same. -/
theorem Run_eq {v q : Int} (hv : ∀ (out : List E38) (next now b k : Int), k = 0 ∨ k = 1 → cSide w0 n0 w1 n1 mix dir ma bias out next now b k = some v) (h0 : 0 ≤ now) (h1 : now ≤ 1000000000000) (hn : now ≤ next ∧ next ≤ 1000000000000) (h2 : q ≤ 1000000000000) (hl : out.length ≤ 1000000000000) :
    ∃ b', cRun w0 n0 w1 n1 mix dir ma bias out next now b q = some (rRun (if next ≤ q then next + 512 * ((q - next) / 512 + 1) else next) (if now < q then q else now) b' (out ++ List.replicate (if next ≤ q then ((q - next) / 512 + 1).toNat else 0) ⟨v, v⟩)) := by
  unfold cRun f_Run
  refine ex_of (fun b' => rRun (if next ≤ q then next + 512 * ((q - next) / 512 + 1) else next) (if now < q then q else now) b' (out ++ List.replicate (if next ≤ q then ((q - next) / 512 + 1).toNat else 0) ⟨v, v⟩)) ?_
  refine loopO_ex (fun r => ∃ b', r = rRun (if next ≤ q then next + 512 * ((q - next) / 512 + 1) else next) (if now < q then q else now) b' (out ++ List.replicate (if next ≤ q then ((q - next) / 512 + 1).toNat else 0) ⟨v, v⟩))
    (fun n s => ∃ (j : Nat) (m b' : Int), s = rRun (next + 512 * j) m b' (out ++ List.replicate j ⟨v, v⟩) ∧ n = (if next ≤ q then ((q - next) / 512 + 1).toNat else 0) - j ∧ j ≤ (if next ≤ q then ((q - next) / 512 + 1).toNat else 0) ∧ now ≤ m ∧ (m = now ∨ m ≤ q)) ?_ (if next ≤ q then ((q - next) / 512 + 1).toNat else 0) (rRun next now b out) ⟨0, now, b, by simp, by omega, by omega, by omega, .inl rfl⟩
  · rintro n s ⟨j, m, b', rfl, rfl, hj, hm, hm2⟩
    by_cases hq : next + 512 * j ≤ q
    · left
      have hnq : next ≤ q := by omega
      rw [if_pos hnq] at hj ⊢
      have hm3 : m ≤ next + 512 * j ∨ m ≤ q := by rcases hm2 with h | h <;> omega
      obtain ⟨b2, hp⟩ := pRun_eq (now := m) (q := next + 512 * j) b' (by omega) (by omega) (by omega)
      have hjj : (j : Int) < (q - next) / 512 + 1 := by omega
      refine ⟨rRun (next + 512 * ((j + 1 : Nat) : Int)) (if m < next + 512 * j then next + 512 * j else m) b2 (out ++ List.replicate (j + 1) ⟨v, v⟩), ((q - next) / 512 + 1).toNat - (j + 1), ?_, by omega, j + 1, _, b2, rfl, rfl, by omega, by split <;> omega, ?_⟩
      · show cond (decide (next + 512 * (j : Int) ≤ q)) ((cPRun m b' (next + 512 * j)).bind _) _ = _
        rw [cpos hq, hp, bind_some']
        show ((cSide w0 n0 w1 n1 mix dir ma bias _ _ _ _ 1).bind _) = _
        rw [hv _ _ _ _ _ (.inr rfl), bind_some']
        show ((cSide w0 n0 w1 n1 mix dir ma bias _ _ _ _ 0).bind _) = _
        rw [hv _ _ _ _ _ (.inl rfl), bind_some', cpos (by simp; omega), List.append_assoc, ← List.replicate_succ', wrap_i64 (by omega) (by omega), show next + 512 * (j : Int) + 512 = next + 512 * ((j + 1 : Nat) : Int) by omega]
      · split <;> omega
    · right
      have hj2 : j = (if next ≤ q then ((q - next) / 512 + 1).toNat else 0) := by
        split
        · rw [if_pos (by assumption)] at hj; omega
        · rw [if_neg (by assumption)] at hj; omega
      obtain ⟨b2, hp⟩ := pRun_eq (now := m) (q := q) b' (by omega) (by omega) (by omega)
      refine ⟨rRun (next + 512 * j) (if m < q then q else m) b2 (out ++ List.replicate j ⟨v, v⟩), ?_, b2, ?_⟩
      · show cond (decide (next + 512 * (j : Int) ≤ q)) _ ((cPRun m b' q).bind _) = _
        rw [cneg hq, hp, bind_some']
      · have e1 : next + 512 * (j : Int) = (if next ≤ q then next + 512 * ((q - next) / 512 + 1) else next) := by
          rw [hj2]; split <;> omega
        have e2 : (if m < q then q else m) = (if now < q then q else now) := by split <;> split <;> omega
        rw [e1, e2, ← hj2]
end
end Go.Proofs.Ytccmpceifheejaa
