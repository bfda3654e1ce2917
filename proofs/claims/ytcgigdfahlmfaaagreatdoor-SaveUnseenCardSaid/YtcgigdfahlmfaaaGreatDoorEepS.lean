/-
  The EEPROM and the document's, reading.
-/
import Derived.Test.YtcgigdfahlmfaaaGreatDoorEepR
namespace Go.Proofs.YtcgigdfahlmfaaaGreatDoor
open Go.Vc
set_option linter.unusedVariables false
set_option linter.unusedSimpArgs false
def ereadF : List Int → Int × List Int
  | [] => (1, [])
  | b :: l => (b, l)
theorem eread_eq (mem : ByteArray) (inn out : List Int) (wide : Int) (hl : out.length ≤ 140737488355328) : f_ERead mem inn out wide = some (ereadF out) := by
  unfold f_ERead
  cases out with
  | nil => rfl
  | cons b l =>
    have hn : (((b :: l).length : Nat) : Int) = l.length + 1 := by simp
    rw [cne (by omega), cand (by omega) (by omega), cand (by omega) (by omega), cand (by omega) (by omega)]
    show some (b, (l.take (l.length + 1 - 1))) = some (b, l)
    rw [List.take_of_length_le (by omega)]
theorem ereadF_snd (out : List Int) : (ereadF out).2 = out.drop 1 := by cases out <;> rfl
end Go.Proofs.YtcgigdfahlmfaaaGreatDoor
