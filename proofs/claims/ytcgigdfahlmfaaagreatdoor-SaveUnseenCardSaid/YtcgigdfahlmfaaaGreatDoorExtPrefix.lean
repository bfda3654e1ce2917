/-
  strings.HasPrefix, in the walk's form.
-/
import Derived.Test.YtcgigdfahlmfaaaGreatDoorExt
namespace Go.Proofs.YtcgigdfahlmfaaaGreatDoor
open Go.Vc
set_option linter.unusedVariables false
end Go.Proofs.YtcgigdfahlmfaaaGreatDoor
