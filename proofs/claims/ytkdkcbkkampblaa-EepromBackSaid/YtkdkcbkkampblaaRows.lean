/-
  No cell of these rows narrows 'for every input' (looked for: loops, veiled, ifaces, maps, wideKeys, modest, calm, conditions, laid).
  DERIVED. THE GIVEN ROWS OF THIS SEAT. 4 by the template 'for every input the law returns true; each argument reads behind the call as it read before'; 0 by the template 'total and deterministic' (their statements: YtkdkcbkkampblaaTotals.lean).
  GIVEN WITH THE SEED: the statements are not yours to turn. If you find one false, say at which input.
  Laid BY PROGRAM, IN A SANDBOX (cutbox-rows.mjs): the forced cells as the released guide's own fill.sh prints them over the translation c9d160eb2b54a330… (all of the seat's roots in one cut). By AI agents, Wed Nov 11 2026. No macro, syntax, notation, axiom, sorry.
-/
import Derived.Test.YtkdkcbkkampblaaChecked
import GoSem.Claim
import GoSem.ClaimJoined
import GoSem.ClaimMapViews
import Derived.JoinedTies
import Derived.KernelRfl
namespace Go.Proofs.Ytkdkcbkkampblaa
/- THE CELL 'sum', in the pinned program and in every row, IS THE sha256 OF THE DUMP (.gsa) THAT YtkdkcbkkampblaaProg.lean LOADS. Nothing in Lean hashes anything: it is a label: what it is worth is what the hold of that sum in a sandbox is worth. -/
noncomputable def Try.pinned : Pinned := { name := "ytkdkcbkkampblaa", sum := "c9d160eb2b54a33033180dd0e68460f5498a6ee5e4d8a14cd1798debc743fa9f", checked := Try.checked }
namespace Rows
def none {H : Type} : Left H := { results := [], args := [] }

/-- 'cameolaw05.EepromRuns': WHATEVER THE INPUT: true; the input reads as it did. -/
def eepromRunsSpec : ChangeSpec := { name := "eepromRuns", fn := fun _ => fun
  | [d1, d2, d3] => { results := [.lit (.bool true)], args := [d1, d2, d3] }
  | _ => none }
def eepromRunsRow : OpenClaim := { program := "ytkdkcbkkampblaa", sum := "c9d160eb2b54a33033180dd0e68460f5498a6ee5e4d8a14cd1798debc743fa9f", func := "cameo/cameolaw05.EepromRuns", spec := "eepromRuns", inPlace := ["internal/abi.NoEscape", "internal/bytealg.MakeNoZero"], apart := false }
def EepromRunsSaid : Prop := eepromRunsRow.holds Try.pinned (OpenSpec.ofChange eepromRunsSpec)

/-- ITS FALSE NEIGHBOUR: 'it returns false'. Refute it at one input. -/
def eepromRunsWrong : ChangeSpec := { name := "eepromRuns", fn := fun _ => fun
  | [d1, d2, d3] => { results := [.lit (.bool false)], args := [d1, d2, d3] }
  | _ => none }
def EepromRunsWrongFalsely : Prop := eepromRunsRow.holds Try.pinned (OpenSpec.ofChange eepromRunsWrong)

/-- 'cameolaw05.EepromBack': WHATEVER THE INPUT: true; the input reads as it did. -/
def eepromBackSpec : ChangeSpec := { name := "eepromBack", fn := fun _ => fun
  | [d1, d2, d3] => { results := [.lit (.bool true)], args := [d1, d2, d3] }
  | _ => none }
def eepromBackRow : OpenClaim := { program := "ytkdkcbkkampblaa", sum := "c9d160eb2b54a33033180dd0e68460f5498a6ee5e4d8a14cd1798debc743fa9f", func := "cameo/cameolaw05.EepromBack", spec := "eepromBack", inPlace := ["internal/abi.NoEscape", "internal/bytealg.MakeNoZero"], apart := false }
def EepromBackSaid : Prop := eepromBackRow.holds Try.pinned (OpenSpec.ofChange eepromBackSpec)

/-- ITS FALSE NEIGHBOUR: 'it returns false'. Refute it at one input. -/
def eepromBackWrong : ChangeSpec := { name := "eepromBack", fn := fun _ => fun
  | [d1, d2, d3] => { results := [.lit (.bool false)], args := [d1, d2, d3] }
  | _ => none }
def EepromBackWrongFalsely : Prop := eepromBackRow.holds Try.pinned (OpenSpec.ofChange eepromBackWrong)

/-- 'cameolaw05.EepromMade': WHATEVER THE INPUT: true; the input reads as it did. -/
def eepromMadeSpec : ChangeSpec := { name := "eepromMade", fn := fun _ => fun
  | [d1, d2] => { results := [.lit (.bool true)], args := [d1, d2] }
  | _ => none }
def eepromMadeRow : OpenClaim := { program := "ytkdkcbkkampblaa", sum := "c9d160eb2b54a33033180dd0e68460f5498a6ee5e4d8a14cd1798debc743fa9f", func := "cameo/cameolaw05.EepromMade", spec := "eepromMade", inPlace := ["internal/abi.NoEscape", "internal/bytealg.MakeNoZero"], apart := false }
def EepromMadeSaid : Prop := eepromMadeRow.holds Try.pinned (OpenSpec.ofChange eepromMadeSpec)

/-- ITS FALSE NEIGHBOUR: 'it returns false'. Refute it at one input. -/
def eepromMadeWrong : ChangeSpec := { name := "eepromMade", fn := fun _ => fun
  | [d1, d2] => { results := [.lit (.bool false)], args := [d1, d2] }
  | _ => none }
def EepromMadeWrongFalsely : Prop := eepromMadeRow.holds Try.pinned (OpenSpec.ofChange eepromMadeWrong)

/-- 'cameolaw05.EepromUnits': WHATEVER THE INPUT: true; the input reads as it did. -/
def eepromUnitsSpec : ChangeSpec := { name := "eepromUnits", fn := fun _ => fun
  | [d1, d2] => { results := [.lit (.bool true)], args := [d1, d2] }
  | _ => none }
def eepromUnitsRow : OpenClaim := { program := "ytkdkcbkkampblaa", sum := "c9d160eb2b54a33033180dd0e68460f5498a6ee5e4d8a14cd1798debc743fa9f", func := "cameo/cameolaw05.EepromUnits", spec := "eepromUnits", inPlace := ["internal/abi.NoEscape", "internal/bytealg.MakeNoZero"], apart := false }
def EepromUnitsSaid : Prop := eepromUnitsRow.holds Try.pinned (OpenSpec.ofChange eepromUnitsSpec)

/-- ITS FALSE NEIGHBOUR: 'it returns false'. Refute it at one input. -/
def eepromUnitsWrong : ChangeSpec := { name := "eepromUnits", fn := fun _ => fun
  | [d1, d2] => { results := [.lit (.bool false)], args := [d1, d2] }
  | _ => none }
def EepromUnitsWrongFalsely : Prop := eepromUnitsRow.holds Try.pinned (OpenSpec.ofChange eepromUnitsWrong)

/- THE SECOND FORM. 'bulk': how many values and letters a reading holds, each counted each time it is reached (what is shared counts as often as it is met; a slice's spare places count too). A statement '..UptoSaid' is the law's where the arguments, and the package variables that the reading takes, are together of bulk at most 1048576: NARROWER than '..Said'. Prove '..Said' where nothing that the law and all that it calls make is longer than what came in: it says more and counts as full. Else prove '..UptoSaid'. A law counts once. -/
mutual
def uptoBulk {H : Type} : DataW H → Nat
  | .lit (.string bytes) => bytes.length + 1
  | .lit _ => 1
  | .nil => 1
  | .ptr d => uptoBulk d + 1
  | .slice elems spare => uptoBulkAll elems + uptoBulkAll spare + 1
  | .agg parts => uptoBulkAll parts + 1
  | .iface _ d => uptoBulk d + 1
  | .map entries => uptoBulkEntries entries + 1
  | .held _ => 1
def uptoBulkAll {H : Type} : List (DataW H) → Nat
  | [] => 0
  | d :: r => uptoBulk d + uptoBulkAll r
def uptoBulkEntries {H : Type} : List (Lit × DataW H) → Nat
  | [] => 0
  | x :: r => uptoBulkEntry x + uptoBulkEntries r
def uptoBulkEntry {H : Type} : Lit × DataW H → Nat
  | (.string bytes, d) => bytes.length + uptoBulk d + 1
  | (_, d) => uptoBulk d + 1
 end
def uptoSmall : (H : Type) → List (DataW H) → Bool := fun _ ds => decide (uptoBulkAll ds ≤ 1048576)
def OpenSpec.upto (s : _root_.Go.ChangeSpec) : _root_.Go.OpenSpec := { _root_.Go.OpenSpec.ofChange s with cond := some uptoSmall }

/-- 'cameolaw05.EepromRuns', WHERE WHAT IT READS IS OF BULK AT MOST 1048576: true; the input reads as it did. -/
def eepromRunsUptoRow : OpenClaim := { program := "ytkdkcbkkampblaa", sum := "c9d160eb2b54a33033180dd0e68460f5498a6ee5e4d8a14cd1798debc743fa9f", func := "cameo/cameolaw05.EepromRuns", spec := "eepromRuns", inPlace := ["internal/abi.NoEscape", "internal/bytealg.MakeNoZero"], apart := false, narrowed := true }
def EepromRunsUptoSaid : Prop := eepromRunsUptoRow.holds Try.pinned (OpenSpec.upto eepromRunsSpec)

/-- 'cameolaw05.EepromBack', WHERE WHAT IT READS IS OF BULK AT MOST 1048576: true; the input reads as it did. -/
def eepromBackUptoRow : OpenClaim := { program := "ytkdkcbkkampblaa", sum := "c9d160eb2b54a33033180dd0e68460f5498a6ee5e4d8a14cd1798debc743fa9f", func := "cameo/cameolaw05.EepromBack", spec := "eepromBack", inPlace := ["internal/abi.NoEscape", "internal/bytealg.MakeNoZero"], apart := false, narrowed := true }
def EepromBackUptoSaid : Prop := eepromBackUptoRow.holds Try.pinned (OpenSpec.upto eepromBackSpec)

/-- 'cameolaw05.EepromMade', WHERE WHAT IT READS IS OF BULK AT MOST 1048576: true; the input reads as it did. -/
def eepromMadeUptoRow : OpenClaim := { program := "ytkdkcbkkampblaa", sum := "c9d160eb2b54a33033180dd0e68460f5498a6ee5e4d8a14cd1798debc743fa9f", func := "cameo/cameolaw05.EepromMade", spec := "eepromMade", inPlace := ["internal/abi.NoEscape", "internal/bytealg.MakeNoZero"], apart := false, narrowed := true }
def EepromMadeUptoSaid : Prop := eepromMadeUptoRow.holds Try.pinned (OpenSpec.upto eepromMadeSpec)

/-- 'cameolaw05.EepromUnits', WHERE WHAT IT READS IS OF BULK AT MOST 1048576: true; the input reads as it did. -/
def eepromUnitsUptoRow : OpenClaim := { program := "ytkdkcbkkampblaa", sum := "c9d160eb2b54a33033180dd0e68460f5498a6ee5e4d8a14cd1798debc743fa9f", func := "cameo/cameolaw05.EepromUnits", spec := "eepromUnits", inPlace := ["internal/abi.NoEscape", "internal/bytealg.MakeNoZero"], apart := false, narrowed := true }
def EepromUnitsUptoSaid : Prop := eepromUnitsUptoRow.holds Try.pinned (OpenSpec.upto eepromUnitsSpec)

end Rows
end Go.Proofs.Ytkdkcbkkampblaa
