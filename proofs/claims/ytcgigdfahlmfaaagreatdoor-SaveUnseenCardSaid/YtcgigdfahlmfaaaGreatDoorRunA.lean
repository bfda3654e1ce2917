/-
  Commands on an image; loops that end; a journal that is written on while its disk may give out.
-/
import Derived.Test.YtcgigdfahlmfaaaGreatDoorJrn2
namespace Go.Proofs.YtcgigdfahlmfaaaGreatDoor
open Go.Vc
set_option linter.unusedVariables false
set_option linter.unusedSimpArgs false
def stepE (m : List UInt8) (c : E59) : List UInt8 × Int := applyF m c.Kind c.Addr c.Data.data.toList
def runE : List UInt8 → List E59 → Option (List UInt8)
  | m, [] => some m
  | m, c :: cs => if (stepE m c).2 = 0 then runE (stepE m c).1 cs else none
theorem runE_snoc (c : E59) : ∀ (cs : List E59) (m x : List UInt8), runE m cs = some x → (stepE x c).2 = 0 → runE m (cs ++ [c]) = some (stepE x c).1
  | [], m, x, h, h0 => by
    have : m = x := by simpa [runE] using h
    subst this
    show (if (stepE m c).2 = 0 then some (stepE m c).1 else none) = _
    rw [if_pos h0]
  | d :: cs, m, x, h, h0 => by
    unfold runE at h
    split at h
    · rename_i hd
      show (if (stepE m d).2 = 0 then runE (stepE m d).1 (cs ++ [c]) else none) = _
      rw [if_pos hd]
      exact runE_snoc c cs _ x h h0
    · cases h
end Go.Proofs.YtcgigdfahlmfaaaGreatDoor
