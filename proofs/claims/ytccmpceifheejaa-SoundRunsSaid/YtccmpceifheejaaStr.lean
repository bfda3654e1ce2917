/-
  Strings as lists of bytes.
-/
import Derived.Test.YtccmpceifheejaaLib
import Derived.Laws.Strings
import Derived.Lib.Repeat
import Derived.Lib.Strings
namespace Go.Vc
open Go
set_option linter.unusedVariables false
def bs (l : List UInt8) : ByteArray := ⟨l.toArray⟩
end Go.Vc
