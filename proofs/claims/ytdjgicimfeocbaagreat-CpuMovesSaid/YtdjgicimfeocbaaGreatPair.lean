/-
  Both processors at their beginning.
-/
import Derived.Test.YtdjgicimfeocbaaGreatCpu
namespace Go.Proofs.YtdjgicimfeocbaaGreat
open Go.Vc
set_option linter.unusedVariables false
set_option linter.unusedSimpArgs false

theorem slot_ex {c : Int} : ∃ k, f_slot c = some k ∧ 0 ≤ k ∧ k < 6 := by
  unfold f_slot
  generalize bits .and .u32 c 31 = x
  by_cases h1 : x = 17
  · exact ⟨1, by rw [ceq h1], by decide, by decide⟩
  by_cases h2 : x = 18
  · exact ⟨2, by rw [cne h1, ceq h2], by decide, by decide⟩
  by_cases h3 : x = 19
  · exact ⟨3, by rw [cne h1, cne h2, ceq h3], by decide, by decide⟩
  by_cases h4 : x = 23
  · exact ⟨4, by rw [cne h1, cne h2, cne h3, ceq h4], by decide, by decide⟩
  by_cases h5 : x = 27
  · exact ⟨5, by rw [cne h1, cne h2, cne h3, cne h4, ceq h5], by decide, by decide⟩
  · exact ⟨0, by rw [cne h1, cne h2, cne h3, cne h4, cne h5], by decide, by decide⟩
theorem SetStatus_ex (r o h s : Nat → Int) (c x : Int) : ∃ r' o' h', f_SetStatus r o h s c x = some (r', o', h', x) := by
  obtain ⟨k, e1, k0, k1⟩ := slot_ex (c := c)
  obtain ⟨q, e2, q0, q1⟩ := slot_ex (c := x)
  unfold f_SetStatus
  rw [e1, bind_some', e2, bind_some']
  by_cases he : k = q
  · exact ⟨r, o, h, by rw [ceq he]⟩
  rw [cne he]
  have g1 : ∀ {α : Type} {x y : α}, cond (decide (0 ≤ k) && decide (k < ((6 : Nat) : Int))) x y = x := cand k0 k1
  have g2 : ∀ {α : Type} {x y : α}, cond (decide (0 ≤ q) && decide (q < ((6 : Nat) : Int))) x y = x := cand q0 q1
  rw [cand (by decide) (by decide), cand (by decide) (by decide), g1, g2, cand (by decide) (by decide), g2, cand (by decide) (by decide), cand (by decide) (by decide), cand (by decide) (by decide)]
  cases hb : !((k == 1) == (q == 1))
  · rw [cfalse rfl]; exact ⟨_, _, _, rfl⟩
  · rw [ctrue rfl]
    cases hk : (k == 1)
    · rw [cfalse rfl, cand (by decide) (by decide), cand (by decide) (by decide), cand (by decide) (by decide), cand (by decide) (by decide), cand (by decide) (by decide), cand (by decide) (by decide), cand (by decide) (by decide), cand (by decide) (by decide), cand (by decide) (by decide), cand (by decide) (by decide)]
      exact ⟨_, _, _, rfl⟩
    · rw [ctrue rfl, cand (by decide) (by decide), cand (by decide) (by decide), cand (by decide) (by decide), cand (by decide) (by decide), cand (by decide) (by decide), cand (by decide) (by decide), cand (by decide) (by decide), cand (by decide) (by decide), cand (by decide) (by decide), cand (by decide) (by decide)]
      exact ⟨_, _, _, rfl⟩
theorem SetStatus_same {r o h s : Nat → Int} : f_SetStatus r o h s 31 31 = some (r, o, h, 31) := rfl
theorem Get_eq {r o h s : Nat → Int} {c : Int} (i : Nat) (hi : i < 16) : f_Get r o h s c (i : Int) = some (r i) := by
  unfold f_Get
  have e : bits .and .i64 (i : Int) 15 = (i : Int) := by
    rw [and64 4 (by decide) (by decide)]; show (i : Int) % 16 = _; omega
  rw [e, cand (by omega) (by omega)]; rfl
theorem Set_eq {r o h s : Nat → Int} {c : Int} (i : Nat) (hi : i < 16) (x : Int) : f_Set r o h s c (i : Int) x = some (rup r i x) := by
  unfold f_Set
  have e : bits .and .i64 (i : Int) 15 = (i : Int) := by
    rw [and64 4 (by decide) (by decide)]; show (i : Int) % 16 = _; omega
  rw [e, cand (by omega) (by omega)]; rfl
theorem rSet_ex {R Sv : Nat → Int} {c : Int} (i : Nat) (hi : i < 16) (x : Int) : ∃ R', f_rSet R Sv c (i : Int) x = some R' := by
  have e : bits .and .i64 (i : Int) 15 = (i : Int) := by
    rw [and64 4 (by decide) (by decide)]; show (i : Int) % 16 = _; omega
  have hm : ∃ k, f_rmode c = some k ∧ 0 ≤ k ∧ k < 6 := by
    unfold f_rmode
    generalize Int.tmod c 32 = x
    by_cases h1 : x = 17
    · exact ⟨1, by rw [ceq h1], by decide, by decide⟩
    by_cases h2 : x = 18
    · exact ⟨2, by rw [cne h1, ceq h2], by decide, by decide⟩
    by_cases h3 : x = 19
    · exact ⟨3, by rw [cne h1, cne h2, ceq h3], by decide, by decide⟩
    by_cases h4 : x = 23
    · exact ⟨4, by rw [cne h1, cne h2, cne h3, ceq h4], by decide, by decide⟩
    by_cases h5 : x = 27
    · exact ⟨5, by rw [cne h1, cne h2, cne h3, cne h4, ceq h5], by decide, by decide⟩
    · exact ⟨0, by rw [cne h1, cne h2, cne h3, cne h4, cne h5], by decide, by decide⟩
  obtain ⟨k, e1, k0, k1⟩ := hm
  have hp : ∃ a, f_rplace k (i : Int) = some (a, (i : Int)) ∧ 0 ≤ a ∧ a < 6 := by
    unfold f_rplace
    rw [e]
    by_cases h1 : (i : Int) = 13
    · exact ⟨k, by rw [ceq h1], k0, k1⟩
    by_cases h2 : (i : Int) = 14
    · exact ⟨k, by rw [cne h1, ceq h2], k0, k1⟩
    by_cases h3 : (i : Int) ≥ 8
    · by_cases h4 : (i : Int) ≤ 12
      · by_cases h5 : k = 1
        · exact ⟨k, by rw [cne h1, cne h2, cpos h3, cpos h4, ceq h5], k0, k1⟩
        · exact ⟨0, by rw [cne h1, cne h2, cpos h3, cpos h4, cne h5], by decide, by decide⟩
      · exact ⟨0, by rw [cne h1, cne h2, cpos h3, cneg h4], by decide, by decide⟩
    · exact ⟨0, by rw [cne h1, cne h2, cneg h3], by decide, by decide⟩
  obtain ⟨a, e2, a0, a1⟩ := hp
  unfold f_rSet
  rw [e1, bind_some', e2, bind_some']
  dsimp only
  rw [cand (by omega) (by omega), cand (by omega) (by omega)]
  exact ⟨_, rfl⟩
/-- An instruction's bytes. -/
def W (c : Int) : Nat := if c / 32 % 2 = 1 then 2 else 4
theorem W_or (c : Int) : W c = 2 ∨ W c = 4 := by unfold W; split <;> simp
theorem thumbed_eq {p0 p1 : Int} {af mv : Bool} {r o h s : Nat → Int} {c : Int} {m : Nat → Int} {log : List E51} (c0 : 0 ≤ c) (c1 : c < 4294967296) : f_width p0 p1 af mv r o h s c m log = some (W c : Int) := by
  unfold f_width f_thumbed f_Status
  rw [bind_some', bind_some', fdiv_pos (by decide), and32 1 (by decide) (by decide) (by omega) (by omega)]
  show cond (c / 32 % 2 == 1) (some 2) (some 4) = _
  unfold W
  by_cases h : c / 32 % 2 = 1
  · rw [ceq h, if_pos h]; rfl
  · rw [cne h, if_neg h]; rfl
def al (c a : Int) : Int := a - a % (W c : Int)
theorem Jump_eq {p0 p1 : Int} {af mv : Bool} {r o h s : Nat → Int} {c : Int} {m : Nat → Int} {log : List E51} (hm : Byt m) (hl : log.length ≤ 900000) (c0 : 0 ≤ c) (c1 : c < 4294967296) {a : Int} (a0 : 0 ≤ a) (a1 : a < 4294967296) :
    f_Jump p0 p1 af mv r o h s c m log a = some (lo m (al c a) (W c), lo m ((al c a + W c) % 4294967296) (W c), rup r 15 ((al c a + 2 * W c) % 4294967296),
      log ++ [acc (al c a) (W c) (lo m (al c a) (W c)) 10] ++ [acc ((al c a + W c) % 4294967296) (W c) (lo m ((al c a + W c) % 4294967296) (W c)) 11]) := by
  unfold f_Jump
  rw [thumbed_eq c0 c1, bind_some', Let_eq]
  have hw : (W c = 2 ∨ W c = 4) := W_or c
  have ha : bits .andNot .u32 a (IntKind.wrap .u32 (IntKind.wrap .i64 ((W c : Int) - 1))) = al c a := by
    unfold al
    rcases hw with e | e <;> rw [e]
    · exact andNot1 a0 a1
    · exact andNot3 a0 a1
  have hal : 0 ≤ al c a ∧ al c a < 4294967296 := by unfold al; rcases hw with e | e <;> rw [e] <;> omega
  have hw4 : W c ≤ 4 := by omega
  rw [ha, tFetch_eq hm (by omega) hal.1 hal.2 (W c) hw4 (c := 0) (by decide) (by decide), bind_some']
  dsimp only
  rw [cand (by decide) (by decide), wrap_u32 (x := (W c : Int)) (by omega) (by omega), wr_u32 (al c a + (W c : Int)), tFetch_eq hm (by simp; omega) (by omega) (by omega) (W c) hw4 (c := 1) (by decide) (by decide), bind_some']
  dsimp only
  rw [cand (by decide) (by decide), wrap_i64 (x := 2 * (W c : Int)) (by omega) (by omega), wrap_u32 (x := 2 * (W c : Int)) (by omega) (by omega), wr_u32]
  show Option.bind (f_Set r o h s c ((15 : Nat) : Int) _) _ = _
  rw [Set_eq 15 (by decide), bind_some']; rfl
theorem rJump_ex {p0 p1 : Int} {af mv : Bool} {R Sv : Nat → Int} {c : Int} {m io : Nat → Int} {log : List E51} (hm : Byt m) (hl : log.length ≤ 900000) (c0 : 0 ≤ c) (c1 : c < 4294967296) {a : Int} (a0 : 0 ≤ a) (a1 : a < 4294967296) :
    ∃ x y R' L', f_rJump p0 p1 af mv R Sv c true m log io 0 0 a = some (x, y, R', L') ∧ L'.length = log.length + 2 := by
  unfold f_rJump f_rWidth f_rthumb
  rw [bind_some', fdiv_pos (by decide), tmod_nn (by omega)]
  have hx : ∃ n : Nat, (n = 2 ∨ n = 4) ∧ cond (c / 32 % 2 == 1) (some (2 : Int)) (some 4) = some (n : Int) := by
    by_cases h : c / 32 % 2 = 1
    · exact ⟨2, .inl rfl, by rw [ceq h]; rfl⟩
    · exact ⟨4, .inr rfl, by rw [cne h]; rfl⟩
  obtain ⟨n, hn, e⟩ := hx
  rw [e, bind_some', cnot, cne (by omega), Let_eq, tmod_nn a0]
  have hal : 0 ≤ IntKind.wrap .u32 (a - a % (n : Int)) ∧ IntKind.wrap .u32 (a - a % (n : Int)) < 4294967296 := by rw [wr_u32]; omega
  rw [wrap_i64 (x := (n : Int)) (by omega) (by omega)]
  obtain ⟨x, e1, h1⟩ := rFetch_eq (io := io) hm (show log.length ≤ 1000000 by omega) hal.1 hal.2 n (by omega) (c := 0)
  rw [h1, bind_some']
  dsimp only
  have hal2 : 0 ≤ IntKind.wrap .u32 (IntKind.wrap .u32 (a - a % (n : Int)) + (n : Int)) ∧ IntKind.wrap .u32 (IntKind.wrap .u32 (a - a % (n : Int)) + (n : Int)) < 4294967296 := by rw [wr_u32 (_ + _)]; omega
  obtain ⟨y, e2, h2⟩ := rFetch_eq (io := io) (log := log ++ [e1]) hm (by simp; omega) hal2.1 hal2.2 n (by omega) (c := 1)
  rw [h2, bind_some']
  dsimp only
  obtain ⟨R', h3⟩ := rSet_ex (R := R) (Sv := Sv) (c := c) 15 (by decide) (IntKind.wrap .u32 (IntKind.wrap .u32 (a - a % (n : Int)) + IntKind.wrap .u32 (2 * (n : Int))))
  rw [show (15 : Int) = ((15 : Nat) : Int) from rfl, h3, bind_some']
  exact ⟨_, _, _, _, rfl, by simp⟩
end Go.Proofs.YtdjgicimfeocbaaGreat
