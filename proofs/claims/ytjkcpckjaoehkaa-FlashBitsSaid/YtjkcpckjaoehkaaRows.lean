/-
  No cell of these rows narrows 'for every input' (looked for: loops, veiled, ifaces, maps, wideKeys, modest, calm, conditions, laid).
  DERIVED. THE GIVEN ROWS OF THIS SEAT. 5 by the template 'for every input the law returns true; each argument reads behind the call as it read before'; 0 by the template 'total and deterministic' (their statements: YtjkcpckjaoehkaaTotals.lean).
  GIVEN WITH THE SEED: the statements are not yours to turn. If you find one false, say at which input.
  Laid BY PROGRAM, IN A SANDBOX (cutbox-rows.mjs): the forced cells as the released guide's own fill.sh prints them over the translation f0e4777de7f3b096… (all of the seat's roots in one cut). By AI agents, Wed Nov 11 2026. No macro, syntax, notation, axiom, sorry.
-/
import Derived.Test.YtjkcpckjaoehkaaChecked
import GoSem.Claim
import GoSem.ClaimJoined
import GoSem.ClaimMapViews
import Derived.JoinedTies
import Derived.KernelRfl
namespace Go.Proofs.Ytjkcpckjaoehkaa
/- THE CELL 'sum', in the pinned program and in every row, IS THE sha256 OF THE DUMP (.gsa) THAT YtjkcpckjaoehkaaProg.lean LOADS. Nothing in Lean hashes anything: it is a label: what it is worth is what the hold of that sum in a sandbox is worth. -/
noncomputable def Try.pinned : Pinned := { name := "ytjkcpckjaoehkaa", sum := "f0e4777de7f3b0969bae3c1d7194a4be63fe022429dd07faf0afa8931711d8df", checked := Try.checked }
namespace Rows
def none {H : Type} : Left H := { results := [], args := [] }

/-- 'cameolaw04.FlashRuns': WHATEVER THE INPUT: true; the input reads as it did. -/
def flashRunsSpec : ChangeSpec := { name := "flashRuns", fn := fun _ => fun
  | [d1, d2, d3] => { results := [.lit (.bool true)], args := [d1, d2, d3] }
  | _ => none }
def flashRunsRow : OpenClaim := { program := "ytjkcpckjaoehkaa", sum := "f0e4777de7f3b0969bae3c1d7194a4be63fe022429dd07faf0afa8931711d8df", func := "cameo/cameolaw04.FlashRuns", spec := "flashRuns", inPlace := ["internal/abi.NoEscape", "internal/bytealg.MakeNoZero"], apart := false }
def FlashRunsSaid : Prop := flashRunsRow.holds Try.pinned (OpenSpec.ofChange flashRunsSpec)

/-- ITS FALSE NEIGHBOUR: 'it returns false'. Refute it at one input. -/
def flashRunsWrong : ChangeSpec := { name := "flashRuns", fn := fun _ => fun
  | [d1, d2, d3] => { results := [.lit (.bool false)], args := [d1, d2, d3] }
  | _ => none }
def FlashRunsWrongFalsely : Prop := flashRunsRow.holds Try.pinned (OpenSpec.ofChange flashRunsWrong)

/-- 'cameolaw04.FlashFolds': WHATEVER THE INPUT: true; the input reads as it did. -/
def flashFoldsSpec : ChangeSpec := { name := "flashFolds", fn := fun _ => fun
  | [d1, d2] => { results := [.lit (.bool true)], args := [d1, d2] }
  | _ => none }
def flashFoldsRow : OpenClaim := { program := "ytjkcpckjaoehkaa", sum := "f0e4777de7f3b0969bae3c1d7194a4be63fe022429dd07faf0afa8931711d8df", func := "cameo/cameolaw04.FlashFolds", spec := "flashFolds", inPlace := ["internal/abi.NoEscape", "internal/bytealg.MakeNoZero"], apart := false }
def FlashFoldsSaid : Prop := flashFoldsRow.holds Try.pinned (OpenSpec.ofChange flashFoldsSpec)

/-- ITS FALSE NEIGHBOUR: 'it returns false'. Refute it at one input. -/
def flashFoldsWrong : ChangeSpec := { name := "flashFolds", fn := fun _ => fun
  | [d1, d2] => { results := [.lit (.bool false)], args := [d1, d2] }
  | _ => none }
def FlashFoldsWrongFalsely : Prop := flashFoldsRow.holds Try.pinned (OpenSpec.ofChange flashFoldsWrong)

/-- 'cameolaw04.FlashBits': WHATEVER THE INPUT: true; the input reads as it did. -/
def flashBitsSpec : ChangeSpec := { name := "flashBits", fn := fun _ => fun
  | [d1, d2] => { results := [.lit (.bool true)], args := [d1, d2] }
  | _ => none }
def flashBitsRow : OpenClaim := { program := "ytjkcpckjaoehkaa", sum := "f0e4777de7f3b0969bae3c1d7194a4be63fe022429dd07faf0afa8931711d8df", func := "cameo/cameolaw04.FlashBits", spec := "flashBits", inPlace := ["internal/abi.NoEscape", "internal/bytealg.MakeNoZero"], unfollowed := true, recurses := true, apart := false }
def FlashBitsSaid : Prop := flashBitsRow.holds Try.pinned (OpenSpec.ofChange flashBitsSpec)

/-- ITS FALSE NEIGHBOUR: 'it returns false'. Refute it at one input. -/
def flashBitsWrong : ChangeSpec := { name := "flashBits", fn := fun _ => fun
  | [d1, d2] => { results := [.lit (.bool false)], args := [d1, d2] }
  | _ => none }
def FlashBitsWrongFalsely : Prop := flashBitsRow.holds Try.pinned (OpenSpec.ofChange flashBitsWrong)

/-- 'cameolaw04.FlashMade': WHATEVER THE INPUT: true; the input reads as it did. -/
def flashMadeSpec : ChangeSpec := { name := "flashMade", fn := fun _ => fun
  | [d1, d2, d3] => { results := [.lit (.bool true)], args := [d1, d2, d3] }
  | _ => none }
def flashMadeRow : OpenClaim := { program := "ytjkcpckjaoehkaa", sum := "f0e4777de7f3b0969bae3c1d7194a4be63fe022429dd07faf0afa8931711d8df", func := "cameo/cameolaw04.FlashMade", spec := "flashMade", inPlace := ["internal/abi.NoEscape", "internal/bytealg.MakeNoZero"], apart := false }
def FlashMadeSaid : Prop := flashMadeRow.holds Try.pinned (OpenSpec.ofChange flashMadeSpec)

/-- ITS FALSE NEIGHBOUR: 'it returns false'. Refute it at one input. -/
def flashMadeWrong : ChangeSpec := { name := "flashMade", fn := fun _ => fun
  | [d1, d2, d3] => { results := [.lit (.bool false)], args := [d1, d2, d3] }
  | _ => none }
def FlashMadeWrongFalsely : Prop := flashMadeRow.holds Try.pinned (OpenSpec.ofChange flashMadeWrong)

/-- 'cameolaw04.FlashHides': WHATEVER THE INPUT: true; the input reads as it did. -/
def flashHidesSpec : ChangeSpec := { name := "flashHides", fn := fun _ => fun
  | [d1, d2, d3] => { results := [.lit (.bool true)], args := [d1, d2, d3] }
  | _ => none }
def flashHidesRow : OpenClaim := { program := "ytjkcpckjaoehkaa", sum := "f0e4777de7f3b0969bae3c1d7194a4be63fe022429dd07faf0afa8931711d8df", func := "cameo/cameolaw04.FlashHides", spec := "flashHides", inPlace := ["internal/abi.NoEscape", "internal/bytealg.MakeNoZero"], apart := false }
def FlashHidesSaid : Prop := flashHidesRow.holds Try.pinned (OpenSpec.ofChange flashHidesSpec)

/-- ITS FALSE NEIGHBOUR: 'it returns false'. Refute it at one input. -/
def flashHidesWrong : ChangeSpec := { name := "flashHides", fn := fun _ => fun
  | [d1, d2, d3] => { results := [.lit (.bool false)], args := [d1, d2, d3] }
  | _ => none }
def FlashHidesWrongFalsely : Prop := flashHidesRow.holds Try.pinned (OpenSpec.ofChange flashHidesWrong)

/- THE SECOND FORM. 'bulk': how many values and letters a reading holds, each counted each time it is reached (what is shared counts as often as it is met; a slice's spare places count too). A statement '..UptoSaid' is the law's where the arguments, and the package variables that the reading takes, are together of bulk at most 1048576: NARROWER than '..Said'. Prove '..Said' where nothing that the law and all that it calls make is longer than what came in: it says more and counts as full. Else prove '..UptoSaid'. A law counts once. -/
mutual
def uptoBulk {H : Type} : DataW H → Nat
  | .lit (.string bytes) => bytes.length + 1
  | .lit _ => 1
  | .nil => 1
  | .ptr d => uptoBulk d + 1
  | .slice elems spare => uptoBulkAll elems + uptoBulkAll spare + 1
  | .agg parts => uptoBulkAll parts + 1
  | .iface _ d => uptoBulk d + 1
  | .map entries => uptoBulkEntries entries + 1
  | .held _ => 1
def uptoBulkAll {H : Type} : List (DataW H) → Nat
  | [] => 0
  | d :: r => uptoBulk d + uptoBulkAll r
def uptoBulkEntries {H : Type} : List (Lit × DataW H) → Nat
  | [] => 0
  | x :: r => uptoBulkEntry x + uptoBulkEntries r
def uptoBulkEntry {H : Type} : Lit × DataW H → Nat
  | (.string bytes, d) => bytes.length + uptoBulk d + 1
  | (_, d) => uptoBulk d + 1
 end
def uptoSmall : (H : Type) → List (DataW H) → Bool := fun _ ds => decide (uptoBulkAll ds ≤ 1048576)
def OpenSpec.upto (s : _root_.Go.ChangeSpec) : _root_.Go.OpenSpec := { _root_.Go.OpenSpec.ofChange s with cond := some uptoSmall }

/-- 'cameolaw04.FlashRuns', WHERE WHAT IT READS IS OF BULK AT MOST 1048576: true; the input reads as it did. -/
def flashRunsUptoRow : OpenClaim := { program := "ytjkcpckjaoehkaa", sum := "f0e4777de7f3b0969bae3c1d7194a4be63fe022429dd07faf0afa8931711d8df", func := "cameo/cameolaw04.FlashRuns", spec := "flashRuns", inPlace := ["internal/abi.NoEscape", "internal/bytealg.MakeNoZero"], apart := false, narrowed := true }
def FlashRunsUptoSaid : Prop := flashRunsUptoRow.holds Try.pinned (OpenSpec.upto flashRunsSpec)

/-- 'cameolaw04.FlashFolds', WHERE WHAT IT READS IS OF BULK AT MOST 1048576: true; the input reads as it did. -/
def flashFoldsUptoRow : OpenClaim := { program := "ytjkcpckjaoehkaa", sum := "f0e4777de7f3b0969bae3c1d7194a4be63fe022429dd07faf0afa8931711d8df", func := "cameo/cameolaw04.FlashFolds", spec := "flashFolds", inPlace := ["internal/abi.NoEscape", "internal/bytealg.MakeNoZero"], apart := false, narrowed := true }
def FlashFoldsUptoSaid : Prop := flashFoldsUptoRow.holds Try.pinned (OpenSpec.upto flashFoldsSpec)

/-- 'cameolaw04.FlashBits', WHERE WHAT IT READS IS OF BULK AT MOST 1048576: true; the input reads as it did. -/
def flashBitsUptoRow : OpenClaim := { program := "ytjkcpckjaoehkaa", sum := "f0e4777de7f3b0969bae3c1d7194a4be63fe022429dd07faf0afa8931711d8df", func := "cameo/cameolaw04.FlashBits", spec := "flashBits", inPlace := ["internal/abi.NoEscape", "internal/bytealg.MakeNoZero"], unfollowed := true, recurses := true, apart := false, narrowed := true }
def FlashBitsUptoSaid : Prop := flashBitsUptoRow.holds Try.pinned (OpenSpec.upto flashBitsSpec)

/-- 'cameolaw04.FlashMade', WHERE WHAT IT READS IS OF BULK AT MOST 1048576: true; the input reads as it did. -/
def flashMadeUptoRow : OpenClaim := { program := "ytjkcpckjaoehkaa", sum := "f0e4777de7f3b0969bae3c1d7194a4be63fe022429dd07faf0afa8931711d8df", func := "cameo/cameolaw04.FlashMade", spec := "flashMade", inPlace := ["internal/abi.NoEscape", "internal/bytealg.MakeNoZero"], apart := false, narrowed := true }
def FlashMadeUptoSaid : Prop := flashMadeUptoRow.holds Try.pinned (OpenSpec.upto flashMadeSpec)

/-- 'cameolaw04.FlashHides', WHERE WHAT IT READS IS OF BULK AT MOST 1048576: true; the input reads as it did. -/
def flashHidesUptoRow : OpenClaim := { program := "ytjkcpckjaoehkaa", sum := "f0e4777de7f3b0969bae3c1d7194a4be63fe022429dd07faf0afa8931711d8df", func := "cameo/cameolaw04.FlashHides", spec := "flashHides", inPlace := ["internal/abi.NoEscape", "internal/bytealg.MakeNoZero"], apart := false, narrowed := true }
def FlashHidesUptoSaid : Prop := flashHidesUptoRow.holds Try.pinned (OpenSpec.upto flashHidesSpec)

end Rows
end Go.Proofs.Ytjkcpckjaoehkaa
