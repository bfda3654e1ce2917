/-
  No cell of these rows narrows 'for every input' (looked for: loops, veiled, ifaces, maps, wideKeys, modest, calm, conditions, laid).
  DERIVED. THE GIVEN ROWS OF THIS SEAT. 7 by the template 'for every input the law returns true; each argument reads behind the call as it read before'; 0 by the template 'total and deterministic' (their statements: YtnobglfjinehfaaTotals.lean).
  GIVEN WITH THE SEED: the statements are not yours to turn. If you find one false, say at which input.
  Laid BY PROGRAM, IN A SANDBOX (cutbox-rows.mjs): the forced cells as the released guide's own fill.sh prints them over the translation 44138c79ed766cf4… (all of the seat's roots in one cut). By AI agents, Wed Nov 11 2026. No macro, syntax, notation, axiom, sorry.
-/
import Derived.Test.YtnobglfjinehfaaChecked
import GoSem.Claim
import GoSem.ClaimJoined
import GoSem.ClaimMapViews
import Derived.JoinedTies
import Derived.KernelRfl
namespace Go.Proofs.Ytnobglfjinehfaa
/- THE CELL 'sum', in the pinned program and in every row, IS THE sha256 OF THE DUMP (.gsa) THAT YtnobglfjinehfaaProg.lean LOADS. Nothing in Lean hashes anything: it is a label: what it is worth is what the hold of that sum in a sandbox is worth. -/
noncomputable def Try.pinned : Pinned := { name := "ytnobglfjinehfaa", sum := "44138c79ed766cf4ad2e821245774ee227580ae3e38d2b356164106c58edeeae", checked := Try.checked }
namespace Rows
def none {H : Type} : Left H := { results := [], args := [] }

/-- 'cameolaw24.BiosUnpacks': WHATEVER THE INPUT: true; the input reads as it did. -/
def biosUnpacksSpec : ChangeSpec := { name := "biosUnpacks", fn := fun _ => fun
  | [d] => { results := [.lit (.bool true)], args := [d] }
  | _ => none }
def biosUnpacksRow : OpenClaim := { program := "ytnobglfjinehfaa", sum := "44138c79ed766cf4ad2e821245774ee227580ae3e38d2b356164106c58edeeae", func := "cameo/cameolaw24.BiosUnpacks", spec := "biosUnpacks", unfollowed := true, recurses := true, apart := false }
def BiosUnpacksSaid : Prop := biosUnpacksRow.holds Try.pinned (OpenSpec.ofChange biosUnpacksSpec)

/-- ITS FALSE NEIGHBOUR: 'it returns false'. Refute it at one input. -/
def biosUnpacksWrong : ChangeSpec := { name := "biosUnpacks", fn := fun _ => fun
  | [d] => { results := [.lit (.bool false)], args := [d] }
  | _ => none }
def BiosUnpacksWrongFalsely : Prop := biosUnpacksRow.holds Try.pinned (OpenSpec.ofChange biosUnpacksWrong)

/-- 'cameolaw24.BiosBack': WHATEVER THE INPUT: true; the input reads as it did. -/
def biosBackSpec : ChangeSpec := { name := "biosBack", fn := fun _ => fun
  | [d1, d2] => { results := [.lit (.bool true)], args := [d1, d2] }
  | _ => none }
def biosBackRow : OpenClaim := { program := "ytnobglfjinehfaa", sum := "44138c79ed766cf4ad2e821245774ee227580ae3e38d2b356164106c58edeeae", func := "cameo/cameolaw24.BiosBack", spec := "biosBack", unfollowed := true, recurses := true, apart := false }
def BiosBackSaid : Prop := biosBackRow.holds Try.pinned (OpenSpec.ofChange biosBackSpec)

/-- ITS FALSE NEIGHBOUR: 'it returns false'. Refute it at one input. -/
def biosBackWrong : ChangeSpec := { name := "biosBack", fn := fun _ => fun
  | [d1, d2] => { results := [.lit (.bool false)], args := [d1, d2] }
  | _ => none }
def BiosBackWrongFalsely : Prop := biosBackRow.holds Try.pinned (OpenSpec.ofChange biosBackWrong)

/-- 'cameolaw24.BiosRight': WHATEVER THE INPUT: true; the input reads as it did. -/
def biosRightSpec : ChangeSpec := { name := "biosRight", fn := fun _ => fun
  | [d1, d2, d3] => { results := [.lit (.bool true)], args := [d1, d2, d3] }
  | _ => none }
def biosRightRow : OpenClaim := { program := "ytnobglfjinehfaa", sum := "44138c79ed766cf4ad2e821245774ee227580ae3e38d2b356164106c58edeeae", func := "cameo/cameolaw24.BiosRight", spec := "biosRight", unfollowed := true, recurses := true, apart := false }
def BiosRightSaid : Prop := biosRightRow.holds Try.pinned (OpenSpec.ofChange biosRightSpec)

/-- ITS FALSE NEIGHBOUR: 'it returns false'. Refute it at one input. -/
def biosRightWrong : ChangeSpec := { name := "biosRight", fn := fun _ => fun
  | [d1, d2, d3] => { results := [.lit (.bool false)], args := [d1, d2, d3] }
  | _ => none }
def BiosRightWrongFalsely : Prop := biosRightRow.holds Try.pinned (OpenSpec.ofChange biosRightWrong)

/-- 'cameolaw24.BiosCopies': WHATEVER THE INPUT: true; the input reads as it did. -/
def biosCopiesSpec : ChangeSpec := { name := "biosCopies", fn := fun _ => fun
  | [d] => { results := [.lit (.bool true)], args := [d] }
  | _ => none }
def biosCopiesRow : OpenClaim := { program := "ytnobglfjinehfaa", sum := "44138c79ed766cf4ad2e821245774ee227580ae3e38d2b356164106c58edeeae", func := "cameo/cameolaw24.BiosCopies", spec := "biosCopies", unfollowed := true, recurses := true, apart := false }
def BiosCopiesSaid : Prop := biosCopiesRow.holds Try.pinned (OpenSpec.ofChange biosCopiesSpec)

/-- ITS FALSE NEIGHBOUR: 'it returns false'. Refute it at one input. -/
def biosCopiesWrong : ChangeSpec := { name := "biosCopies", fn := fun _ => fun
  | [d] => { results := [.lit (.bool false)], args := [d] }
  | _ => none }
def BiosCopiesWrongFalsely : Prop := biosCopiesRow.holds Try.pinned (OpenSpec.ofChange biosCopiesWrong)

/-- 'cameolaw24.BiosNumbers': WHATEVER THE INPUT: true; the input reads as it did. -/
def biosNumbersSpec : ChangeSpec := { name := "biosNumbers", fn := fun _ => fun
  | [d1, d2, d3] => { results := [.lit (.bool true)], args := [d1, d2, d3] }
  | _ => none }
def biosNumbersRow : OpenClaim := { program := "ytnobglfjinehfaa", sum := "44138c79ed766cf4ad2e821245774ee227580ae3e38d2b356164106c58edeeae", func := "cameo/cameolaw24.BiosNumbers", spec := "biosNumbers", unfollowed := true, recurses := true, apart := false }
def BiosNumbersSaid : Prop := biosNumbersRow.holds Try.pinned (OpenSpec.ofChange biosNumbersSpec)

/-- ITS FALSE NEIGHBOUR: 'it returns false'. Refute it at one input. -/
def biosNumbersWrong : ChangeSpec := { name := "biosNumbers", fn := fun _ => fun
  | [d1, d2, d3] => { results := [.lit (.bool false)], args := [d1, d2, d3] }
  | _ => none }
def BiosNumbersWrongFalsely : Prop := biosNumbersRow.holds Try.pinned (OpenSpec.ofChange biosNumbersWrong)

/-- 'cameolaw24.BiosStill': WHATEVER THE INPUT: true; the input reads as it did. -/
def biosStillSpec : ChangeSpec := { name := "biosStill", fn := fun _ => fun
  | [d1, d2, d3] => { results := [.lit (.bool true)], args := [d1, d2, d3] }
  | _ => none }
def biosStillRow : OpenClaim := { program := "ytnobglfjinehfaa", sum := "44138c79ed766cf4ad2e821245774ee227580ae3e38d2b356164106c58edeeae", func := "cameo/cameolaw24.BiosStill", spec := "biosStill", unfollowed := true, recurses := true, apart := false }
def BiosStillSaid : Prop := biosStillRow.holds Try.pinned (OpenSpec.ofChange biosStillSpec)

/-- ITS FALSE NEIGHBOUR: 'it returns false'. Refute it at one input. -/
def biosStillWrong : ChangeSpec := { name := "biosStill", fn := fun _ => fun
  | [d1, d2, d3] => { results := [.lit (.bool false)], args := [d1, d2, d3] }
  | _ => none }
def BiosStillWrongFalsely : Prop := biosStillRow.holds Try.pinned (OpenSpec.ofChange biosStillWrong)

/-- 'cameolaw24.BiosTurns': WHATEVER THE INPUT: true; the input reads as it did. -/
def biosTurnsSpec : ChangeSpec := { name := "biosTurns", fn := fun _ => fun
  | [d] => { results := [.lit (.bool true)], args := [d] }
  | _ => none }
def biosTurnsRow : OpenClaim := { program := "ytnobglfjinehfaa", sum := "44138c79ed766cf4ad2e821245774ee227580ae3e38d2b356164106c58edeeae", func := "cameo/cameolaw24.BiosTurns", spec := "biosTurns", unfollowed := true, recurses := true, apart := false }
def BiosTurnsSaid : Prop := biosTurnsRow.holds Try.pinned (OpenSpec.ofChange biosTurnsSpec)

/-- ITS FALSE NEIGHBOUR: 'it returns false'. Refute it at one input. -/
def biosTurnsWrong : ChangeSpec := { name := "biosTurns", fn := fun _ => fun
  | [d] => { results := [.lit (.bool false)], args := [d] }
  | _ => none }
def BiosTurnsWrongFalsely : Prop := biosTurnsRow.holds Try.pinned (OpenSpec.ofChange biosTurnsWrong)

/- THE SECOND FORM. 'bulk': how many values and letters a reading holds, each counted each time it is reached (what is shared counts as often as it is met; a slice's spare places count too). A statement '..UptoSaid' is the law's where the arguments, and the package variables that the reading takes, are together of bulk at most 1048576: NARROWER than '..Said'. Prove '..Said' where nothing that the law and all that it calls make is longer than what came in: it says more and counts as full. Else prove '..UptoSaid'. A law counts once. -/
mutual
def uptoBulk {H : Type} : DataW H → Nat
  | .lit (.string bytes) => bytes.length + 1
  | .lit _ => 1
  | .nil => 1
  | .ptr d => uptoBulk d + 1
  | .slice elems spare => uptoBulkAll elems + uptoBulkAll spare + 1
  | .agg parts => uptoBulkAll parts + 1
  | .iface _ d => uptoBulk d + 1
  | .map entries => uptoBulkEntries entries + 1
  | .held _ => 1
def uptoBulkAll {H : Type} : List (DataW H) → Nat
  | [] => 0
  | d :: r => uptoBulk d + uptoBulkAll r
def uptoBulkEntries {H : Type} : List (Lit × DataW H) → Nat
  | [] => 0
  | x :: r => uptoBulkEntry x + uptoBulkEntries r
def uptoBulkEntry {H : Type} : Lit × DataW H → Nat
  | (.string bytes, d) => bytes.length + uptoBulk d + 1
  | (_, d) => uptoBulk d + 1
 end
def uptoSmall : (H : Type) → List (DataW H) → Bool := fun _ ds => decide (uptoBulkAll ds ≤ 1048576)
def OpenSpec.upto (s : _root_.Go.ChangeSpec) : _root_.Go.OpenSpec := { _root_.Go.OpenSpec.ofChange s with cond := some uptoSmall }

/-- 'cameolaw24.BiosUnpacks', WHERE WHAT IT READS IS OF BULK AT MOST 1048576: true; the input reads as it did. -/
def biosUnpacksUptoRow : OpenClaim := { program := "ytnobglfjinehfaa", sum := "44138c79ed766cf4ad2e821245774ee227580ae3e38d2b356164106c58edeeae", func := "cameo/cameolaw24.BiosUnpacks", spec := "biosUnpacks", unfollowed := true, recurses := true, apart := false, narrowed := true }
def BiosUnpacksUptoSaid : Prop := biosUnpacksUptoRow.holds Try.pinned (OpenSpec.upto biosUnpacksSpec)

/-- 'cameolaw24.BiosBack', WHERE WHAT IT READS IS OF BULK AT MOST 1048576: true; the input reads as it did. -/
def biosBackUptoRow : OpenClaim := { program := "ytnobglfjinehfaa", sum := "44138c79ed766cf4ad2e821245774ee227580ae3e38d2b356164106c58edeeae", func := "cameo/cameolaw24.BiosBack", spec := "biosBack", unfollowed := true, recurses := true, apart := false, narrowed := true }
def BiosBackUptoSaid : Prop := biosBackUptoRow.holds Try.pinned (OpenSpec.upto biosBackSpec)

/-- 'cameolaw24.BiosRight', WHERE WHAT IT READS IS OF BULK AT MOST 1048576: true; the input reads as it did. -/
def biosRightUptoRow : OpenClaim := { program := "ytnobglfjinehfaa", sum := "44138c79ed766cf4ad2e821245774ee227580ae3e38d2b356164106c58edeeae", func := "cameo/cameolaw24.BiosRight", spec := "biosRight", unfollowed := true, recurses := true, apart := false, narrowed := true }
def BiosRightUptoSaid : Prop := biosRightUptoRow.holds Try.pinned (OpenSpec.upto biosRightSpec)

/-- 'cameolaw24.BiosCopies', WHERE WHAT IT READS IS OF BULK AT MOST 1048576: true; the input reads as it did. -/
def biosCopiesUptoRow : OpenClaim := { program := "ytnobglfjinehfaa", sum := "44138c79ed766cf4ad2e821245774ee227580ae3e38d2b356164106c58edeeae", func := "cameo/cameolaw24.BiosCopies", spec := "biosCopies", unfollowed := true, recurses := true, apart := false, narrowed := true }
def BiosCopiesUptoSaid : Prop := biosCopiesUptoRow.holds Try.pinned (OpenSpec.upto biosCopiesSpec)

/-- 'cameolaw24.BiosNumbers', WHERE WHAT IT READS IS OF BULK AT MOST 1048576: true; the input reads as it did. -/
def biosNumbersUptoRow : OpenClaim := { program := "ytnobglfjinehfaa", sum := "44138c79ed766cf4ad2e821245774ee227580ae3e38d2b356164106c58edeeae", func := "cameo/cameolaw24.BiosNumbers", spec := "biosNumbers", unfollowed := true, recurses := true, apart := false, narrowed := true }
def BiosNumbersUptoSaid : Prop := biosNumbersUptoRow.holds Try.pinned (OpenSpec.upto biosNumbersSpec)

/-- 'cameolaw24.BiosStill', WHERE WHAT IT READS IS OF BULK AT MOST 1048576: true; the input reads as it did. -/
def biosStillUptoRow : OpenClaim := { program := "ytnobglfjinehfaa", sum := "44138c79ed766cf4ad2e821245774ee227580ae3e38d2b356164106c58edeeae", func := "cameo/cameolaw24.BiosStill", spec := "biosStill", unfollowed := true, recurses := true, apart := false, narrowed := true }
def BiosStillUptoSaid : Prop := biosStillUptoRow.holds Try.pinned (OpenSpec.upto biosStillSpec)

/-- 'cameolaw24.BiosTurns', WHERE WHAT IT READS IS OF BULK AT MOST 1048576: true; the input reads as it did. -/
def biosTurnsUptoRow : OpenClaim := { program := "ytnobglfjinehfaa", sum := "44138c79ed766cf4ad2e821245774ee227580ae3e38d2b356164106c58edeeae", func := "cameo/cameolaw24.BiosTurns", spec := "biosTurns", unfollowed := true, recurses := true, apart := false, narrowed := true }
def BiosTurnsUptoSaid : Prop := biosTurnsUptoRow.holds Try.pinned (OpenSpec.upto biosTurnsSpec)

end Rows
end Go.Proofs.Ytnobglfjinehfaa
