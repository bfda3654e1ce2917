/-
  Commands and what they make of an image.
-/
import Derived.Test.YtjkcpckjaoehkaaG
import Derived.Test.YtjkcpckjaoehkaaStr
import Derived.Test.YtjkcpckjaoehkaaBits
import Derived.Test.YtjkcpckjaoehkaaShelf
import Derived.Laws.IdiomStrings
namespace Go.Proofs.Ytjkcpckjaoehkaa
open Go.Vc
set_option linter.unusedVariables false

def okF (k a : Int) (d : List UInt8) : Bool :=
  if k = 1 then decide (0 ≤ a ∧ a < 131072) && decide (1 ≤ d.length ∧ d.length ≤ 8)
  else if k = 2 then decide (0 ≤ a ∧ a < 131072) && (decide (d = []) && decide (Int.tmod a 4096 = 0))
  else if k = 3 then decide (d = []) && decide (a = 0) else false
def cmdV (k a : Int) (d : List UInt8) : Value := .agg #[.int .i64 k, .int .i64 a, .string (bs d)]

theorem bs_empty (d : List UInt8) : ((bs d).toList == (ByteArray.mk #[]).toList) = decide (d = []) := by
  rw [bs_nil, bs_toList, bs_toList]
  cases d <;> rfl

theorem check_ok (k a : Int) (d : List UInt8) : PureCalls Try.prog n_sCheck #[cmdV k a d] (.int .i64 (if okF k a d = true then 0 else 1)) := by
  apply pure_sCheck k a (bs d)
  unfold q_sCheck okF
  rw [bs_size, bs_empty]
  refine ⟨fun vs _ => vs = [.bool (decide (0 ≤ a ∧ a < 131072))], cnd_dec (fun h => ?_) (fun h => ?_), fun s3 e => ?_⟩
  · have : (0 ≤ a) := h
    simp [this]
  · have : ¬ (0 ≤ a ∧ a < 131072) := fun x => h x.1
    simp [this]
  · obtain rfl : s3 = decide (0 ≤ a ∧ a < 131072) := by simpa using e
    refine cnd_beq (fun h1 => ?_) (fun h1 => cnd_beq (fun h2 => ?_) (fun h2 => cnd_beq (fun h3 => ?_) (fun h3 => ?_)))
    · rw [if_pos h1]
      refine cnd_dec (fun h => cnd_dec (fun h' => cnd_not (cnd_dec (fun h'' => ?_) (fun h'' => ?_))) (fun h' => ?_)) (fun h => ?_)
      · have : (1 ≤ d.length ∧ d.length ≤ 8) := ⟨by omega, by omega⟩
        simp [h, this]
      · have : ¬ (1 ≤ d.length ∧ d.length ≤ 8) := by omega
        simp [this]
      · have : ¬ (1 ≤ d.length ∧ d.length ≤ 8) := by omega
        simp [this]
      · simp [h]
    · rw [if_neg h1, if_pos h2]
      refine cnd_dec (fun h => cnd_dec (fun h' => cnd_not (cnd_beq (fun h'' => ?_) (fun h'' => ?_))) (fun h' => ?_)) (fun h => ?_)
      all_goals simp [*]
    · rw [if_neg h1, if_neg h2, if_pos h3]
      refine cnd_dec (fun h' => cnd_not (cnd_beq (fun h'' => ?_) (fun h'' => ?_))) (fun h' => ?_)
      all_goals simp [*]
    · rw [if_neg h1, if_neg h2, if_neg h3]
      simp

def ffs (n : Nat) : List UInt8 := List.replicate n 255
theorem repeat_ok (n : Nat) (h : n ≤ 140737488355328) : PureCalls Try.prog 25 #[.string (ByteArray.mk #[255]), .int .i64 n] (.string (bs (ffs n))) := fun w => by
  refine (Try.strings_Repeat (ByteArray.mk #[255]) n w (by omega) (by show 1 * n ≤ _; omega)).mono fun e w' ⟨he, hb⟩ => ⟨?_, below_chg hb⟩
  rw [he]
  have := Lib.repeatL_replicate (255 : UInt8) 1 n
  rw [Nat.mul_one] at this
  show Ending.returned (.string ⟨(Lib.repeatL (List.replicate 1 255) n).toArray⟩) = _
  rw [this]; rfl

theorem repeatK (n : Nat) (k : Int) (hk : (n : Int) = k) (h : n ≤ 140737488355328) : PureCalls Try.prog 25 #[.string (ByteArray.mk #[255]), .int .i64 k] (.string (bs (ffs n))) := by
  subst hk; exact repeat_ok n h
theorem ffs_length (n : Nat) : (ffs n).length = n := by unfold ffs; simp

def applyF (m : List UInt8) (k a : Int) (d : List UInt8) : List UInt8 × Int :=
  if okF k a d = true then
    if k = 2 then if a + 4096 > m.length then ([], 1) else (m.take a.toNat ++ ffs 4096 ++ m.drop (a.toNat + 4096), 0)
    else if k = 3 then (ffs m.length, 0)
    else if a + d.length > m.length then ([], 1) else (m.take a.toNat ++ d ++ m.drop (a.toNat + d.length), 0)
  else ([], 1)

theorem okF_addr {k a : Int} {d : List UInt8} (h : okF k a d = true) : 0 ≤ a ∧ a < 131072 ∧ d.length ≤ 8 := by
  unfold okF at h
  split at h
  · simp at h; omega
  split at h
  · simp at h; obtain ⟨h1, rfl, _⟩ := h; exact ⟨h1.1, h1.2, by simp⟩
  split at h
  · simp at h; obtain ⟨rfl, rfl⟩ := h; exact ⟨by decide, by decide, by simp⟩
  · cases h

theorem apply_ok (m : List UInt8) (hm : m.length ≤ 140737488355328) (k a : Int) (d : List UInt8) : PureCalls Try.prog n_sApply #[.string (bs m), cmdV k a d] (.tuple #[.string (bs (applyF m k a d).1), .int .i64 (applyF m k a d).2]) := by
  apply pure_sApply (bs m) k a (bs d)
  unfold q_sApply
  rw [bs_size, bs_size]
  refine ⟨_, check_ok k a d, cnd_bne (fun h => ?_) (fun h => ?_)⟩
  · have h0 : ¬ okF k a d = true := fun x => by rw [if_pos x] at h; exact h rfl
    unfold applyF; rw [if_neg h0]; rfl
  have h0 : okF k a d = true := by
    by_cases x : okF k a d = true
    · exact x
    · rw [if_neg x] at h; cases h
  obtain ⟨a0, a1, d1⟩ := okF_addr h0
  unfold applyF; rw [if_pos h0]
  have e1 : IntKind.wrap .i64 (a + 4096) = a + 4096 := wrap_i64 (by omega) (by omega)
  have e2 : IntKind.wrap .i64 (a + (d.length : Int)) = a + d.length := wrap_i64 (by omega) (by omega)
  rw [e1, e2]
  refine cnd_beq (fun h2 => ?_) (fun h2 => cnd_beq (fun h3 => ?_) (fun h3 => ?_))
  · rw [if_pos h2]
    refine cnd_dec (fun h4 => ?_) (fun h4 => ?_)
    · rw [if_pos h4]; rfl
    · rw [if_neg h4]
      have hd : ((m.drop 0).take (a.toNat - 0)).length = a.toNat := by simp; omega
      have ht : (m.drop (a + 4096).toNat).length ≤ m.length := by simp
      refine chk_le a0 (by omega) (chk_le (by omega) a0 (chk_le (by omega) (by omega) (chk_le (by omega) (by omega) ⟨_, repeatK 4096 4096 rfl (by decide), ?_⟩)))
      have hf : (ffs 4096).length = 4096 := ffs_length _
      generalize ffs 4096 = z at hf ⊢
      rw [bs_extract, bs_extract, bs_append, bs_append, bs_size, bs_size, bs_size, bs_size]
      refine chk_dec ?_ (chk_dec ?_ ?_)
      · simp [hf]; omega
      · simp [hf]; omega
      · have e3 : (m.drop 0).take (a.toNat - 0) = m.take a.toNat := by simp
        have e4 : (m.drop (a + 4096).toNat).take (m.length - (a + 4096).toNat) = m.drop (a.toNat + 4096) := by
          rw [show (a + 4096).toNat = a.toNat + 4096 by omega]; exact List.take_of_length_le (by simp)
        rw [e3, e4]
  · rw [if_neg h2, if_pos h3]
    exact ⟨_, repeat_ok m.length hm, rfl⟩
  · rw [if_neg h2, if_neg h3]
    refine cnd_dec (fun h4 => ?_) (fun h4 => ?_)
    · rw [if_pos h4]; rfl
    · rw [if_neg h4]
      refine chk_le a0 (by omega) (chk_le (by omega) a0 ?_)
      rw [bs_extract, bs_extract, bs_append, bs_append, bs_size, bs_size, bs_size]
      refine chk_dec ?_ (chk_le (by omega) (by omega) (chk_le (by omega) (by omega) (chk_dec ?_ ?_)))
      · simp; omega
      · simp; omega
      · have e3 : (m.drop 0).take (a.toNat - 0) = m.take a.toNat := by simp
        have e4 : (m.drop (a + (d.length : Int)).toNat).take (m.length - (a + (d.length : Int)).toNat) = m.drop (a.toNat + d.length) := by
          rw [show (a + (d.length : Int)).toNat = a.toNat + d.length by omega]; exact List.take_of_length_le (by simp)
        rw [e3, e4]

end Go.Proofs.Ytjkcpckjaoehkaa
