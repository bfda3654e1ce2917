/-
  No cell of these rows narrows 'for every input' (looked for: loops, veiled, ifaces, maps, wideKeys, modest, calm, conditions, laid).
  DERIVED. THE GIVEN ROWS OF THIS SEAT. 8 by the template 'for every input the law returns true; each argument reads behind the call as it read before'; 0 by the template 'total and deterministic' (their statements: YtdjgicimfeocbaaGreatTotals.lean).
  GIVEN WITH THE SEED: the statements are not yours to turn. If you find one false, say at which input.
  Laid BY PROGRAM, IN A SANDBOX (cutbox-rows.mjs): the forced cells as the released guide's own fill.sh prints them over the translation 11d4f5932e1ab774… (all of the seat's roots in one cut). By AI agents, Wed Nov 11 2026. No macro, syntax, notation, axiom, sorry.
-/
import Derived.Test.YtdjgicimfeocbaaGreatChecked
import GoSem.Claim
import GoSem.ClaimJoined
import GoSem.ClaimMapViews
import Derived.JoinedTies
import Derived.KernelRfl
namespace Go.Proofs.YtdjgicimfeocbaaGreat
/- THE CELL 'sum', in the pinned program and in every row, IS THE sha256 OF THE DUMP (.gsa) THAT YtdjgicimfeocbaaGreatProg.lean LOADS. Nothing in Lean hashes anything: it is a label: what it is worth is what the hold of that sum in a sandbox is worth. -/
noncomputable def Tryz.pinned : Pinned := { name := "ytdjgicimfeocbaagreat", sum := "11d4f5932e1ab7749dc16fb2a2e93665ebbc299cbf59736bf6880f2c9ada9021", checked := Tryz.checked }
namespace Rows
def none {H : Type} : Left H := { results := [], args := [] }

/-- 'cameolaw25.CpuStacks': WHATEVER THE INPUT: true; the input reads as it did. -/
def cpuStacksSpec : ChangeSpec := { name := "cpuStacks", fn := fun _ => fun
  | [d1, d2] => { results := [.lit (.bool true)], args := [d1, d2] }
  | _ => none }
def cpuStacksRow : OpenClaim := { program := "ytdjgicimfeocbaagreat", sum := "11d4f5932e1ab7749dc16fb2a2e93665ebbc299cbf59736bf6880f2c9ada9021", func := "cameo/cameolaw25.CpuStacks", spec := "cpuStacks", unfollowed := true, recurses := true, apart := false }
def CpuStacksSaid : Prop := cpuStacksRow.holds Tryz.pinned (OpenSpec.ofChange cpuStacksSpec)

/-- ITS FALSE NEIGHBOUR: 'it returns false'. Refute it at one input. -/
def cpuStacksWrong : ChangeSpec := { name := "cpuStacks", fn := fun _ => fun
  | [d1, d2] => { results := [.lit (.bool false)], args := [d1, d2] }
  | _ => none }
def CpuStacksWrongFalsely : Prop := cpuStacksRow.holds Tryz.pinned (OpenSpec.ofChange cpuStacksWrong)

/-- 'cameolaw25.CpuMoves': WHATEVER THE INPUT: true; the input reads as it did. -/
def cpuMovesSpec : ChangeSpec := { name := "cpuMoves", fn := fun _ => fun
  | [d1, d2, d3] => { results := [.lit (.bool true)], args := [d1, d2, d3] }
  | _ => none }
def cpuMovesRow : OpenClaim := { program := "ytdjgicimfeocbaagreat", sum := "11d4f5932e1ab7749dc16fb2a2e93665ebbc299cbf59736bf6880f2c9ada9021", func := "cameo/cameolaw25.CpuMoves", spec := "cpuMoves", unfollowed := true, recurses := true, apart := false }
def CpuMovesSaid : Prop := cpuMovesRow.holds Tryz.pinned (OpenSpec.ofChange cpuMovesSpec)

/-- ITS FALSE NEIGHBOUR: 'it returns false'. Refute it at one input. -/
def cpuMovesWrong : ChangeSpec := { name := "cpuMoves", fn := fun _ => fun
  | [d1, d2, d3] => { results := [.lit (.bool false)], args := [d1, d2, d3] }
  | _ => none }
def CpuMovesWrongFalsely : Prop := cpuMovesRow.holds Tryz.pinned (OpenSpec.ofChange cpuMovesWrong)

/-- 'cameolaw25.CpuSkips': WHATEVER THE INPUT: true; the input reads as it did. -/
def cpuSkipsSpec : ChangeSpec := { name := "cpuSkips", fn := fun _ => fun
  | [d1, d2] => { results := [.lit (.bool true)], args := [d1, d2] }
  | _ => none }
def cpuSkipsRow : OpenClaim := { program := "ytdjgicimfeocbaagreat", sum := "11d4f5932e1ab7749dc16fb2a2e93665ebbc299cbf59736bf6880f2c9ada9021", func := "cameo/cameolaw25.CpuSkips", spec := "cpuSkips", unfollowed := true, recurses := true, apart := false }
def CpuSkipsSaid : Prop := cpuSkipsRow.holds Tryz.pinned (OpenSpec.ofChange cpuSkipsSpec)

/-- ITS FALSE NEIGHBOUR: 'it returns false'. Refute it at one input. -/
def cpuSkipsWrong : ChangeSpec := { name := "cpuSkips", fn := fun _ => fun
  | [d1, d2] => { results := [.lit (.bool false)], args := [d1, d2] }
  | _ => none }
def CpuSkipsWrongFalsely : Prop := cpuSkipsRow.holds Tryz.pinned (OpenSpec.ofChange cpuSkipsWrong)

/-- 'cameolaw25.CpuCalls': WHATEVER THE INPUT: true; the input reads as it did. -/
def cpuCallsSpec : ChangeSpec := { name := "cpuCalls", fn := fun _ => fun
  | [d1, d2] => { results := [.lit (.bool true)], args := [d1, d2] }
  | _ => none }
def cpuCallsRow : OpenClaim := { program := "ytdjgicimfeocbaagreat", sum := "11d4f5932e1ab7749dc16fb2a2e93665ebbc299cbf59736bf6880f2c9ada9021", func := "cameo/cameolaw25.CpuCalls", spec := "cpuCalls", unfollowed := true, recurses := true, apart := false }
def CpuCallsSaid : Prop := cpuCallsRow.holds Tryz.pinned (OpenSpec.ofChange cpuCallsSpec)

/-- ITS FALSE NEIGHBOUR: 'it returns false'. Refute it at one input. -/
def cpuCallsWrong : ChangeSpec := { name := "cpuCalls", fn := fun _ => fun
  | [d1, d2] => { results := [.lit (.bool false)], args := [d1, d2] }
  | _ => none }
def CpuCallsWrongFalsely : Prop := cpuCallsRow.holds Tryz.pinned (OpenSpec.ofChange cpuCallsWrong)

/-- 'cameolaw25.CpuArm': WHATEVER THE INPUT: true; the input reads as it did. -/
def cpuArmSpec : ChangeSpec := { name := "cpuArm", fn := fun _ => fun
  | [d] => { results := [.lit (.bool true)], args := [d] }
  | _ => none }
def cpuArmRow : OpenClaim := { program := "ytdjgicimfeocbaagreat", sum := "11d4f5932e1ab7749dc16fb2a2e93665ebbc299cbf59736bf6880f2c9ada9021", func := "cameo/cameolaw25.CpuArm", spec := "cpuArm", unfollowed := true, recurses := true, apart := false }
def CpuArmSaid : Prop := cpuArmRow.holds Tryz.pinned (OpenSpec.ofChange cpuArmSpec)

/-- ITS FALSE NEIGHBOUR: 'it returns false'. Refute it at one input. -/
def cpuArmWrong : ChangeSpec := { name := "cpuArm", fn := fun _ => fun
  | [d] => { results := [.lit (.bool false)], args := [d] }
  | _ => none }
def CpuArmWrongFalsely : Prop := cpuArmRow.holds Tryz.pinned (OpenSpec.ofChange cpuArmWrong)

/-- 'cameolaw25.CpuThumb': WHATEVER THE INPUT: true; the input reads as it did. -/
def cpuThumbSpec : ChangeSpec := { name := "cpuThumb", fn := fun _ => fun
  | [d] => { results := [.lit (.bool true)], args := [d] }
  | _ => none }
def cpuThumbRow : OpenClaim := { program := "ytdjgicimfeocbaagreat", sum := "11d4f5932e1ab7749dc16fb2a2e93665ebbc299cbf59736bf6880f2c9ada9021", func := "cameo/cameolaw25.CpuThumb", spec := "cpuThumb", unfollowed := true, recurses := true, apart := false }
def CpuThumbSaid : Prop := cpuThumbRow.holds Tryz.pinned (OpenSpec.ofChange cpuThumbSpec)

/-- ITS FALSE NEIGHBOUR: 'it returns false'. Refute it at one input. -/
def cpuThumbWrong : ChangeSpec := { name := "cpuThumb", fn := fun _ => fun
  | [d] => { results := [.lit (.bool false)], args := [d] }
  | _ => none }
def CpuThumbWrongFalsely : Prop := cpuThumbRow.holds Tryz.pinned (OpenSpec.ofChange cpuThumbWrong)

/-- 'cameolaw25.CpuBreaks': WHATEVER THE INPUT: true; the input reads as it did. -/
def cpuBreaksSpec : ChangeSpec := { name := "cpuBreaks", fn := fun _ => fun
  | [d] => { results := [.lit (.bool true)], args := [d] }
  | _ => none }
def cpuBreaksRow : OpenClaim := { program := "ytdjgicimfeocbaagreat", sum := "11d4f5932e1ab7749dc16fb2a2e93665ebbc299cbf59736bf6880f2c9ada9021", func := "cameo/cameolaw25.CpuBreaks", spec := "cpuBreaks", unfollowed := true, recurses := true, apart := false }
def CpuBreaksSaid : Prop := cpuBreaksRow.holds Tryz.pinned (OpenSpec.ofChange cpuBreaksSpec)

/-- ITS FALSE NEIGHBOUR: 'it returns false'. Refute it at one input. -/
def cpuBreaksWrong : ChangeSpec := { name := "cpuBreaks", fn := fun _ => fun
  | [d] => { results := [.lit (.bool false)], args := [d] }
  | _ => none }
def CpuBreaksWrongFalsely : Prop := cpuBreaksRow.holds Tryz.pinned (OpenSpec.ofChange cpuBreaksWrong)

/-- 'cameolaw25.CpuNone': WHATEVER THE INPUT: true; the input reads as it did. -/
def cpuNoneSpec : ChangeSpec := { name := "cpuNone", fn := fun _ => fun
  | [d] => { results := [.lit (.bool true)], args := [d] }
  | _ => none }
def cpuNoneRow : OpenClaim := { program := "ytdjgicimfeocbaagreat", sum := "11d4f5932e1ab7749dc16fb2a2e93665ebbc299cbf59736bf6880f2c9ada9021", func := "cameo/cameolaw25.CpuNone", spec := "cpuNone", unfollowed := true, recurses := true, apart := false }
def CpuNoneSaid : Prop := cpuNoneRow.holds Tryz.pinned (OpenSpec.ofChange cpuNoneSpec)

/-- ITS FALSE NEIGHBOUR: 'it returns false'. Refute it at one input. -/
def cpuNoneWrong : ChangeSpec := { name := "cpuNone", fn := fun _ => fun
  | [d] => { results := [.lit (.bool false)], args := [d] }
  | _ => none }
def CpuNoneWrongFalsely : Prop := cpuNoneRow.holds Tryz.pinned (OpenSpec.ofChange cpuNoneWrong)

/- THE SECOND FORM. 'bulk': how many values and letters a reading holds, each counted each time it is reached (what is shared counts as often as it is met; a slice's spare places count too). A statement '..UptoSaid' is the law's where the arguments, and the package variables that the reading takes, are together of bulk at most 1048576: NARROWER than '..Said'. Prove '..Said' where nothing that the law and all that it calls make is longer than what came in: it says more and counts as full. Else prove '..UptoSaid'. A law counts once. -/
mutual
def uptoBulk {H : Type} : DataW H → Nat
  | .lit (.string bytes) => bytes.length + 1
  | .lit _ => 1
  | .nil => 1
  | .ptr d => uptoBulk d + 1
  | .slice elems spare => uptoBulkAll elems + uptoBulkAll spare + 1
  | .agg parts => uptoBulkAll parts + 1
  | .iface _ d => uptoBulk d + 1
  | .map entries => uptoBulkEntries entries + 1
  | .held _ => 1
def uptoBulkAll {H : Type} : List (DataW H) → Nat
  | [] => 0
  | d :: r => uptoBulk d + uptoBulkAll r
def uptoBulkEntries {H : Type} : List (Lit × DataW H) → Nat
  | [] => 0
  | x :: r => uptoBulkEntry x + uptoBulkEntries r
def uptoBulkEntry {H : Type} : Lit × DataW H → Nat
  | (.string bytes, d) => bytes.length + uptoBulk d + 1
  | (_, d) => uptoBulk d + 1
 end
def uptoSmall : (H : Type) → List (DataW H) → Bool := fun _ ds => decide (uptoBulkAll ds ≤ 1048576)
def OpenSpec.upto (s : _root_.Go.ChangeSpec) : _root_.Go.OpenSpec := { _root_.Go.OpenSpec.ofChange s with cond := some uptoSmall }

/-- 'cameolaw25.CpuStacks', WHERE WHAT IT READS IS OF BULK AT MOST 1048576: true; the input reads as it did. -/
def cpuStacksUptoRow : OpenClaim := { program := "ytdjgicimfeocbaagreat", sum := "11d4f5932e1ab7749dc16fb2a2e93665ebbc299cbf59736bf6880f2c9ada9021", func := "cameo/cameolaw25.CpuStacks", spec := "cpuStacks", unfollowed := true, recurses := true, apart := false, narrowed := true }
def CpuStacksUptoSaid : Prop := cpuStacksUptoRow.holds Tryz.pinned (OpenSpec.upto cpuStacksSpec)

/-- 'cameolaw25.CpuMoves', WHERE WHAT IT READS IS OF BULK AT MOST 1048576: true; the input reads as it did. -/
def cpuMovesUptoRow : OpenClaim := { program := "ytdjgicimfeocbaagreat", sum := "11d4f5932e1ab7749dc16fb2a2e93665ebbc299cbf59736bf6880f2c9ada9021", func := "cameo/cameolaw25.CpuMoves", spec := "cpuMoves", unfollowed := true, recurses := true, apart := false, narrowed := true }
def CpuMovesUptoSaid : Prop := cpuMovesUptoRow.holds Tryz.pinned (OpenSpec.upto cpuMovesSpec)

/-- 'cameolaw25.CpuSkips', WHERE WHAT IT READS IS OF BULK AT MOST 1048576: true; the input reads as it did. -/
def cpuSkipsUptoRow : OpenClaim := { program := "ytdjgicimfeocbaagreat", sum := "11d4f5932e1ab7749dc16fb2a2e93665ebbc299cbf59736bf6880f2c9ada9021", func := "cameo/cameolaw25.CpuSkips", spec := "cpuSkips", unfollowed := true, recurses := true, apart := false, narrowed := true }
def CpuSkipsUptoSaid : Prop := cpuSkipsUptoRow.holds Tryz.pinned (OpenSpec.upto cpuSkipsSpec)

/-- 'cameolaw25.CpuCalls', WHERE WHAT IT READS IS OF BULK AT MOST 1048576: true; the input reads as it did. -/
def cpuCallsUptoRow : OpenClaim := { program := "ytdjgicimfeocbaagreat", sum := "11d4f5932e1ab7749dc16fb2a2e93665ebbc299cbf59736bf6880f2c9ada9021", func := "cameo/cameolaw25.CpuCalls", spec := "cpuCalls", unfollowed := true, recurses := true, apart := false, narrowed := true }
def CpuCallsUptoSaid : Prop := cpuCallsUptoRow.holds Tryz.pinned (OpenSpec.upto cpuCallsSpec)

/-- 'cameolaw25.CpuArm', WHERE WHAT IT READS IS OF BULK AT MOST 1048576: true; the input reads as it did. -/
def cpuArmUptoRow : OpenClaim := { program := "ytdjgicimfeocbaagreat", sum := "11d4f5932e1ab7749dc16fb2a2e93665ebbc299cbf59736bf6880f2c9ada9021", func := "cameo/cameolaw25.CpuArm", spec := "cpuArm", unfollowed := true, recurses := true, apart := false, narrowed := true }
def CpuArmUptoSaid : Prop := cpuArmUptoRow.holds Tryz.pinned (OpenSpec.upto cpuArmSpec)

/-- 'cameolaw25.CpuThumb', WHERE WHAT IT READS IS OF BULK AT MOST 1048576: true; the input reads as it did. -/
def cpuThumbUptoRow : OpenClaim := { program := "ytdjgicimfeocbaagreat", sum := "11d4f5932e1ab7749dc16fb2a2e93665ebbc299cbf59736bf6880f2c9ada9021", func := "cameo/cameolaw25.CpuThumb", spec := "cpuThumb", unfollowed := true, recurses := true, apart := false, narrowed := true }
def CpuThumbUptoSaid : Prop := cpuThumbUptoRow.holds Tryz.pinned (OpenSpec.upto cpuThumbSpec)

/-- 'cameolaw25.CpuBreaks', WHERE WHAT IT READS IS OF BULK AT MOST 1048576: true; the input reads as it did. -/
def cpuBreaksUptoRow : OpenClaim := { program := "ytdjgicimfeocbaagreat", sum := "11d4f5932e1ab7749dc16fb2a2e93665ebbc299cbf59736bf6880f2c9ada9021", func := "cameo/cameolaw25.CpuBreaks", spec := "cpuBreaks", unfollowed := true, recurses := true, apart := false, narrowed := true }
def CpuBreaksUptoSaid : Prop := cpuBreaksUptoRow.holds Tryz.pinned (OpenSpec.upto cpuBreaksSpec)

/-- 'cameolaw25.CpuNone', WHERE WHAT IT READS IS OF BULK AT MOST 1048576: true; the input reads as it did. -/
def cpuNoneUptoRow : OpenClaim := { program := "ytdjgicimfeocbaagreat", sum := "11d4f5932e1ab7749dc16fb2a2e93665ebbc299cbf59736bf6880f2c9ada9021", func := "cameo/cameolaw25.CpuNone", spec := "cpuNone", unfollowed := true, recurses := true, apart := false, narrowed := true }
def CpuNoneUptoSaid : Prop := cpuNoneUptoRow.holds Tryz.pinned (OpenSpec.upto cpuNoneSpec)

end Rows
end Go.Proofs.YtdjgicimfeocbaaGreat
