/-
  SaveMade: the law.
-/
import Derived.Test.YtcgigdfahlmfaaaGreatDoorMade06
import Derived.Test.YtcgigdfahlmfaaaGreatDoorRead
namespace Go.Proofs.YtcgigdfahlmfaaaGreatDoor
open Go.Vc
set_option linter.unusedVariables false
set_option linter.unusedSimpArgs false

theorem SzO {k : Int} (h : k < 0 ∨ 5 < k) : f_Size k = some (0, 60) := by
  unfold f_Size
  rw [cne (by omega), cne (by omega), cne (by omega), cne (by omega), cne (by omega), cne (by omega)]
theorem rSzO {k : Int} (h : k < 0 ∨ 5 < k) : f_rSize k = some (0, 60) := by
  unfold f_rSize
  by_cases h0 : k < 0
  · rw [cpos h0]
  · rw [cneg h0, cpos (by omega)]
theorem BNewO {k : Int} (h : k < 0 ∨ 5 < k) (x : ByteArray) : f_BNew k x = some (.inl 60) := by
  unfold f_BNew
  rw [SzO h, bind_some']
  dsimp only
  rw [cbne (by decide)]
theorem rBNewO {k : Int} (h : k < 0 ∨ 5 < k) (x : ByteArray) : f_rBNew k x = some (.inl 60) := by
  unfold f_rBNew
  rw [rSzO h, bind_some']
  dsimp only
  rw [cbne (by decide)]
theorem RecNO {k : Int} (h : k < 0 ∨ 5 < k) : f_RecoverN k 4 = some 60 := by
  unfold f_RecoverN
  rw [SzO h, bind_some']
  dsimp only
  rw [cbne (by decide)]
theorem MadeO {k : Int} (h : k < 0 ∨ 5 < k) (n : Nat) (hn : n ≤ 140000) (h3 : ¬ ((n : Int) < 0)) (h4 : ¬ ((n : Int) > 140000)) : f_SaveMade k (n : Int) = some true := by
  unfold f_SaveMade
  rw [awake_eq, bind_some', cfalse (show (!true) = false from rfl), cneg h3, cneg h4, SzO h, bind_some']
  dsimp only
  rw [rSzO h, bind_some']
  dsimp only
  rw [rBlank_eq n hn, bind_some', BNewO h, bind_some']
  dsimp only
  rw [bind_some', rBNewO h, bind_some']
  dsimp only
  rw [cbeq rfl, cbeq rfl, cbeq rfl, cne (by decide), bind_some']
  dsimp only
  rw [RecNO h]
  show cond ((ByteArray.mk #[]).toList == (ByteArray.mk #[]).toList) _ _ = _
  rw [nil_beq]
  rfl
theorem SaveMade_eq (q0 q1 : Int) : f_SaveMade q0 q1 = some true := by
  by_cases h3 : q1 < 0
  · unfold f_SaveMade
    rw [awake_eq, bind_some', cfalse (show (!true) = false from rfl), cpos h3]
  by_cases h4 : q1 > 140000
  · unfold f_SaveMade
    rw [awake_eq, bind_some', cfalse (show (!true) = false from rfl), cneg h3, cpos h4]
  obtain ⟨n, rfl⟩ := Int.eq_ofNat_of_zero_le (show 0 ≤ q1 by omega)
  have hn : n ≤ 140000 := by omega
  rcases (show (q0 < 0 ∨ 5 < q0) ∨ q0 = 0 ∨ q0 = 1 ∨ q0 = 2 ∨ q0 = 3 ∨ q0 = 4 ∨ q0 = 5 by omega) with h | rfl | rfl | rfl | rfl | rfl | rfl
  · exact MadeO h n hn h3 h4
  · exact Made0 n hn h3 h4
  · exact Made1 n hn h3 h4
  · exact Made2 n hn h3 h4
  · exact Made3 n hn h3 h4
  · exact Made4 n hn h3 h4
  · exact Made5 n hn h3 h4
theorem law_SaveMade (w : World) (a0 : Int) (w0 : (Lit.int .i64 a0).wf = true) (a1 : Int) (w1 : (Lit.int .i64 a1).wf = true) :
    Calls Tryz.prog 6 #[.int .i64 a0, .int .i64 a1] w fun e w' => e = .returned (.bool true) ∧ Chg (fun _ => False) w w' :=
  (t_SaveMade (SaveMade_eq a0 a1) trivial).mono fun e w' h => ⟨h.1, h.2.quiet⟩
end Go.Proofs.YtcgigdfahlmfaaaGreatDoor
