/-
  Numbers of fixed width as remainders, for omega.
-/
import Derived.Test.YtcgigdfahlmfaaaGreatDoorPure
namespace Go.Vc
open Go
set_option linter.unusedVariables false
set_option linter.unusedSimpArgs false
end Go.Vc
