/-
  strings.HasPrefix, in the walk's form.
-/
import Derived.Test.YtcgigdfahlmfaaaGreatDoorExt
namespace Go.Proofs.YtcgigdfahlmfaaaGreatDoor
open Go.Vc
set_option linter.unusedVariables false
abbrev O_HasPrefix := Bool
def f_HasPrefix (s p : ByteArray) : Option Bool := some (Lib.hasPrefix s.data.toList p.data.toList)
def o_HasPrefix (s p : ByteArray) (w0 : World) : O_HasPrefix → Ending → World → Prop
  | r0, e, w => e = .returned (.bool r0) ∧ Now (Foot []) w0 w []
theorem t_HasPrefix {s p : ByteArray} {w0 : World} {r : O_HasPrefix} (hf : f_HasPrefix s p = some r) (hp : Hp w0 []) : Calls Tryz.prog 95 #[.string s, .string p] w0 (o_HasPrefix s p w0 r) := by
  cases hf
  exact (Tryz.strings_HasPrefix s p w0).mono fun e w' ⟨he, hw⟩ => ⟨he, by subst hw; exact Now.start hp⟩
end Go.Proofs.YtcgigdfahlmfaaaGreatDoor
