/-
  CpuStacks: what is pushed, what is popped.
-/
import Derived.Test.YtdjgicimfeocbaaGreatMem
namespace Go.Proofs.YtdjgicimfeocbaaGreat
open Go.Vc
set_option linter.unusedVariables false
set_option linter.unusedSimpArgs false

/-- The memory behind i registers of the list, and what was noted. -/
def pushM (l : Nat) (b : Int) (r m : Nat → Int) : Nat → Nat → Int
  | 0 => m
  | i + 1 => if l / 2 ^ i % 2 = 1 then st4 (pushM l b r m i) (b + 4 * (pc l i : Int)) (r i) else pushM l b r m i
def pushT (l : Nat) (b : Int) (r : Nat → Int) : Nat → List E51
  | 0 => []
  | i + 1 => if l / 2 ^ i % 2 = 1 then pushT l b r i ++ [⟨0, 0, b + 4 * (pc l i : Int), 4, true, r i, if pc l i = 0 then 0 else 1⟩] else pushT l b r i
def popR (l : Nat) (b : Int) (m r : Nat → Int) : Nat → Nat → Int
  | 0 => r
  | i + 1 => if l / 2 ^ i % 2 = 1 then rup (popR l b m r i) i (wd m (b + 4 * (pc l i : Int))) else popR l b m r i
def popT (l : Nat) (b : Int) (m : Nat → Int) : Nat → List E51
  | 0 => []
  | i + 1 => if l / 2 ^ i % 2 = 1 then popT l b m i ++ [⟨0, 0, b + 4 * (pc l i : Int), 4, false, wd m (b + 4 * (pc l i : Int)), if pc l i = 0 then 0 else 1⟩] else popT l b m i
theorem pushT_len (l : Nat) (b : Int) (r : Nat → Int) : ∀ i, (pushT l b r i).length = pc l i
  | 0 => rfl
  | i + 1 => by
    unfold pushT pc
    have := pushT_len l b r i
    split
    · rw [List.length_append, this]; show _ + 1 = _; omega
    · rw [this]; omega
theorem popT_len (l : Nat) (b : Int) (m : Nat → Int) : ∀ i, (popT l b m i).length = pc l i
  | 0 => rfl
  | i + 1 => by
    unfold popT pc
    have := popT_len l b m i
    split
    · rw [List.length_append, this]; show _ + 1 = _; omega
    · rw [this]; omega
theorem pushT_write (l : Nat) (b : Int) (r : Nat → Int) : ∀ i, ∀ e ∈ pushT l b r i, e.Write = true
  | 0 => fun e he => by cases he
  | i + 1 => fun e he => by
    unfold pushT at he
    split at he
    · rcases List.mem_append.1 he with h | h
      · exact pushT_write l b r i e h
      · simp at h; subst h; rfl
    · exact pushT_write l b r i e he
theorem popT_read (l : Nat) (b : Int) (m : Nat → Int) : ∀ i, ∀ e ∈ popT l b m i, e.Write = false
  | 0 => fun e he => by cases he
  | i + 1 => fun e he => by
    unfold popT at he
    split at he
    · rcases List.mem_append.1 he with h | h
      · exact popT_read l b m i e h
      · simp at h; subst h; rfl
    · exact popT_read l b m i e he
theorem pushM_byt {l : Nat} {b : Int} {r m : Nat → Int} (hm : Byt m) : ∀ i, Byt (pushM l b r m i)
  | 0 => hm
  | i + 1 => by
    unfold pushM
    split
    · exact st4_byt (pushM_byt hm i) _ _
    · exact pushM_byt hm i
theorem pc_succ {l i : Nat} (h : l / 2 ^ i % 2 = 1) : pc l (i + 1) = pc l i + 1 := by show pc l i + _ = _; omega
section
variable {l : Nat} {b : Int} {r m : Nat → Int}
theorem pushM_low (b0 : 3000 ≤ b) (b1 : b < 4000) {a : Int} (a0 : 0 ≤ a) (a1 : a + 4 ≤ 3000) : ∀ i, i ≤ 16 → wd (pushM l b r m i) a = wd m a
  | 0, _ => rfl
  | i + 1, hi => by
    have p := pc_le l i
    unfold pushM
    split
    · rw [wd_other (by omega) (by omega) a0 (by omega) (.inl (by omega))]; exact pushM_low b0 b1 a0 a1 i (by omega)
    · exact pushM_low b0 b1 a0 a1 i (by omega)
/-- What was pushed lies there. -/
theorem pushM_at (b0 : 3000 ≤ b) (b1 : b < 4000) (hr : ∀ i, i < 13 → 0 ≤ r i ∧ r i < 4294967296) (hl : ∀ i, 13 ≤ i → i < 16 → l / 2 ^ i % 2 ≠ 1) {k : Nat} (hk : l / 2 ^ k % 2 = 1) : ∀ i, i ≤ 16 → k < i → wd (pushM l b r m i) (b + 4 * (pc l k : Int)) = r k
  | 0, _, h => by omega
  | i + 1, hi, h => by
    have p := pc_le l i
    have pk := pc_le l k
    unfold pushM
    by_cases e : k = i
    · subst e
      have k13 : k < 13 := by
        by_cases h13 : k < 13
        · exact h13
        · exact absurd hk (hl k (by omega) (by omega))
      rw [if_pos hk]
      exact wd_same (by omega) (by omega) (hr k k13).1 (hr k k13).2
    · have ih := pushM_at b0 b1 hr hl hk i (by omega) (by omega)
      have mono := pc_mono l (show k + 1 ≤ i by omega)
      rw [pc_succ hk] at mono
      split
      · rw [wd_other (by omega) (by omega) (by omega) (by omega) (.inl (by omega))]; exact ih
      · exact ih
theorem popR_high {M : Nat → Int} {j : Nat} : ∀ i, i ≤ j → popR l b M r i j = r j
  | 0, _ => rfl
  | i + 1, hi => by
    unfold popR
    split
    · rw [rup_ne _ _ (by omega)]; exact popR_high i (by omega)
    · exact popR_high i (by omega)
theorem popR_unset {M : Nat → Int} {j : Nat} (hj : l / 2 ^ j % 2 ≠ 1) : ∀ i, popR l b M r i j = r j
  | 0 => rfl
  | i + 1 => by
    unfold popR
    split
    · rename_i h; rw [rup_ne _ _ (fun (e : j = i) => hj (by rw [e]; exact h))]; exact popR_unset hj i
    · exact popR_unset hj i
theorem popR_at {M : Nat → Int} {k : Nat} (hk : l / 2 ^ k % 2 = 1) : ∀ i, k < i → popR l b M r i k = wd M (b + 4 * (pc l k : Int))
  | 0, h => by omega
  | i + 1, h => by
    unfold popR
    by_cases e : k = i
    · subst e; rw [if_pos hk, rup_at]
    · split
      · rw [rup_ne _ _ e]; exact popR_at hk i (by omega)
      · exact popR_at hk i (by omega)
end
end Go.Proofs.YtdjgicimfeocbaaGreat
