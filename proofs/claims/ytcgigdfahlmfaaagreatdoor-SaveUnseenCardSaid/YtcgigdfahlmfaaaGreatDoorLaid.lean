/-
  The witness of the rows that list utf8's two tables: a world in which they read as their initialisers lay them.
-/
import Derived.Test.YtcgigdfahlmfaaaGreatDoorRows
import Derived.Lib.LaidIn
import Derived.Deep.DeepHandedRow
import Derived.Deep.DeepWitnessRowRef
import Derived.ProofKit
import Derived.SizedLaws
namespace Go.Proofs.YtcgigdfahlmfaaaGreatDoor.laidp
open Go.ChangeShapes Go.WideShapes Go.ChangeAt Go.RowKit
set_option maxRecDepth 100000
def flat : DataW Unit → List Value
  | .agg ds => ds.flatMap fun d => match d with
    | .lit (.int k z) => [.int k z]
    | .agg es => es.flatMap fun e => match e with
      | .lit (.int k z) => [.int k z]
      | _ => []
    | _ => []
  | _ => []
abbrev both : List (String × DataW Unit) := [("unicode/utf8.acceptRanges", Rows.laid_unicode_utf8_acceptRanges), ("unicode/utf8.first", Rows.laid_unicode_utf8_first)]
noncomputable def laidWorld (os : Os) : World :=
  let w0 := World.holding Tryz.prog os ⟨#[], #[], []⟩
  let put (h : Array Obj) (g : Nat) (cs : Array Value) : Array Obj := h.modify g fun
    | .cells _ t frozen => .cells cs t frozen
    | o => o
  let h1 := put w0.heap 1 (flat Rows.laid_unicode_utf8_first).toArray
  let h2 := put h1 2 (flat Rows.laid_unicode_utf8_acceptRanges).toArray
  { w0 with heap := h2 }
theorem laid_met (os : Os) (args : Array Value) : laidMet Tryz.prog both ((laidWorld os).forCall (fun _ _ => 0) ⟨#[], args, []⟩).memory :=
  (LaidIn.of_run (l := both) [1, 2] 8 (by kernel_rfl) (by kernel_rfl) (by kernel_rfl) (by kernel_rfl)).met
end Go.Proofs.YtcgigdfahlmfaaaGreatDoor.laidp
