/-
  Strings as lists of bytes.
-/
import Derived.Test.YtcgigdfahlmfaaaGreatDoorLib
import Derived.Laws.Strings
import Derived.Lib.Repeat
import Derived.Lib.Strings
namespace Go.Vc
open Go
set_option linter.unusedVariables false
def bs (l : List UInt8) : ByteArray := ⟨l.toArray⟩
theorem bs_list (s : ByteArray) : bs s.data.toList = s := by unfold bs; simp
theorem bs_data (l : List UInt8) : (bs l).data.toList = l := by unfold bs; simp
theorem bs_size (l : List UInt8) : (bs l).size = l.length := by unfold bs; rw [ByteArray.size]; simp
theorem bs_eq {s : ByteArray} {l : List UInt8} (h : s.data.toList = l) : s = bs l := by rw [← h, bs_list]
theorem bs_append (a b : List UInt8) : bs a ++ bs b = bs (a ++ b) := bs_eq (by simp [bs])
theorem bs_extract (l : List UInt8) (i j : Nat) : (bs l).extract i j = bs ((l.drop i).take (j - i)) := bs_eq (by rw [Lib.extract_data, bs_data])
theorem bs_toList (l : List UInt8) : (bs l).toList = l := by rw [ByteArray.toList_eq, bs_data]
theorem sbyte_bs (l : List UInt8) (i : Int) : sbyte (bs l) i = ((l.getD i.toNat 0).toNat : Int) := by unfold sbyte; rw [bs_data]
theorem below_chg {w w' : World} (h : RowKit.Below w.heap.size w w') : Chg (fun _ => False) w w' := ⟨h.1, h.2, h.3, h.4, fun k hk _ => h.5 k hk⟩
end Go.Vc
