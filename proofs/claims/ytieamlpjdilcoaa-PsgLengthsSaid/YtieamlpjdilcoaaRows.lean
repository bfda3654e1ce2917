/-
  No cell of these rows narrows 'for every input' (looked for: loops, veiled, ifaces, maps, wideKeys, modest, calm, conditions, laid).
  DERIVED. THE GIVEN ROWS OF THIS SEAT. 3 by the template 'for every input the law returns true; each argument reads behind the call as it read before'; 0 by the template 'total and deterministic' (their statements: YtieamlpjdilcoaaTotals.lean).
  GIVEN WITH THE SEED: the statements are not yours to turn. If you find one false, say at which input.
  Laid BY PROGRAM, IN A SANDBOX (cutbox-rows.mjs): the forced cells as the released guide's own fill.sh prints them over the translation ab46162efe8d4dc8… (all of the seat's roots in one cut). By AI agents, Wed Nov 11 2026. No macro, syntax, notation, axiom, sorry.
-/
import Derived.Test.YtieamlpjdilcoaaChecked
import GoSem.Claim
import GoSem.ClaimJoined
import GoSem.ClaimMapViews
import Derived.JoinedTies
import Derived.KernelRfl
namespace Go.Proofs.Ytieamlpjdilcoaa
/- THE CELL 'sum', in the pinned program and in every row, IS THE sha256 OF THE DUMP (.gsa) THAT YtieamlpjdilcoaaProg.lean LOADS. Nothing in Lean hashes anything: it is a label: what it is worth is what the hold of that sum in a sandbox is worth. -/
noncomputable def Try.pinned : Pinned := { name := "ytieamlpjdilcoaa", sum := "ab46162efe8d4dc80fc4cfc3ae6bcfd9226da7b03002e0e53a74ed87b71bb067", checked := Try.checked }
namespace Rows
def none {H : Type} : Left H := { results := [], args := [] }

/-- 'cameolaw22.PsgLengths': WHATEVER THE INPUT: true; the input reads as it did. -/
def psgLengthsSpec : ChangeSpec := { name := "psgLengths", fn := fun _ => fun
  | [d1, d2, d3] => { results := [.lit (.bool true)], args := [d1, d2, d3] }
  | _ => none }
def psgLengthsRow : OpenClaim := { program := "ytieamlpjdilcoaa", sum := "ab46162efe8d4dc80fc4cfc3ae6bcfd9226da7b03002e0e53a74ed87b71bb067", func := "cameo/cameolaw22.PsgLengths", spec := "psgLengths", apart := false }
def PsgLengthsSaid : Prop := psgLengthsRow.holds Try.pinned (OpenSpec.ofChange psgLengthsSpec)

/-- ITS FALSE NEIGHBOUR: 'it returns false'. Refute it at one input. -/
def psgLengthsWrong : ChangeSpec := { name := "psgLengths", fn := fun _ => fun
  | [d1, d2, d3] => { results := [.lit (.bool false)], args := [d1, d2, d3] }
  | _ => none }
def PsgLengthsWrongFalsely : Prop := psgLengthsRow.holds Try.pinned (OpenSpec.ofChange psgLengthsWrong)

/-- 'cameolaw22.PsgBounds': WHATEVER THE INPUT: true; the input reads as it did. -/
def psgBoundsSpec : ChangeSpec := { name := "psgBounds", fn := fun _ => fun
  | [d] => { results := [.lit (.bool true)], args := [d] }
  | _ => none }
def psgBoundsRow : OpenClaim := { program := "ytieamlpjdilcoaa", sum := "ab46162efe8d4dc80fc4cfc3ae6bcfd9226da7b03002e0e53a74ed87b71bb067", func := "cameo/cameolaw22.PsgBounds", spec := "psgBounds", apart := false }
def PsgBoundsSaid : Prop := psgBoundsRow.holds Try.pinned (OpenSpec.ofChange psgBoundsSpec)

/-- ITS FALSE NEIGHBOUR: 'it returns false'. Refute it at one input. -/
def psgBoundsWrong : ChangeSpec := { name := "psgBounds", fn := fun _ => fun
  | [d] => { results := [.lit (.bool false)], args := [d] }
  | _ => none }
def PsgBoundsWrongFalsely : Prop := psgBoundsRow.holds Try.pinned (OpenSpec.ofChange psgBoundsWrong)

/-- 'cameolaw22.PsgNone': WHATEVER THE INPUT: true; the input reads as it did. -/
def psgNoneSpec : ChangeSpec := { name := "psgNone", fn := fun _ => fun
  | [d1, d2, d3] => { results := [.lit (.bool true)], args := [d1, d2, d3] }
  | _ => none }
def psgNoneRow : OpenClaim := { program := "ytieamlpjdilcoaa", sum := "ab46162efe8d4dc80fc4cfc3ae6bcfd9226da7b03002e0e53a74ed87b71bb067", func := "cameo/cameolaw22.PsgNone", spec := "psgNone", apart := false }
def PsgNoneSaid : Prop := psgNoneRow.holds Try.pinned (OpenSpec.ofChange psgNoneSpec)

/-- ITS FALSE NEIGHBOUR: 'it returns false'. Refute it at one input. -/
def psgNoneWrong : ChangeSpec := { name := "psgNone", fn := fun _ => fun
  | [d1, d2, d3] => { results := [.lit (.bool false)], args := [d1, d2, d3] }
  | _ => none }
def PsgNoneWrongFalsely : Prop := psgNoneRow.holds Try.pinned (OpenSpec.ofChange psgNoneWrong)

/- THE SECOND FORM. 'bulk': how many values and letters a reading holds, each counted each time it is reached (what is shared counts as often as it is met; a slice's spare places count too). A statement '..UptoSaid' is the law's where the arguments, and the package variables that the reading takes, are together of bulk at most 1048576: NARROWER than '..Said'. Prove '..Said' where nothing that the law and all that it calls make is longer than what came in: it says more and counts as full. Else prove '..UptoSaid'. A law counts once. -/
mutual
def uptoBulk {H : Type} : DataW H → Nat
  | .lit (.string bytes) => bytes.length + 1
  | .lit _ => 1
  | .nil => 1
  | .ptr d => uptoBulk d + 1
  | .slice elems spare => uptoBulkAll elems + uptoBulkAll spare + 1
  | .agg parts => uptoBulkAll parts + 1
  | .iface _ d => uptoBulk d + 1
  | .map entries => uptoBulkEntries entries + 1
  | .held _ => 1
def uptoBulkAll {H : Type} : List (DataW H) → Nat
  | [] => 0
  | d :: r => uptoBulk d + uptoBulkAll r
def uptoBulkEntries {H : Type} : List (Lit × DataW H) → Nat
  | [] => 0
  | x :: r => uptoBulkEntry x + uptoBulkEntries r
def uptoBulkEntry {H : Type} : Lit × DataW H → Nat
  | (.string bytes, d) => bytes.length + uptoBulk d + 1
  | (_, d) => uptoBulk d + 1
 end
def uptoSmall : (H : Type) → List (DataW H) → Bool := fun _ ds => decide (uptoBulkAll ds ≤ 1048576)
def OpenSpec.upto (s : _root_.Go.ChangeSpec) : _root_.Go.OpenSpec := { _root_.Go.OpenSpec.ofChange s with cond := some uptoSmall }

/-- 'cameolaw22.PsgLengths', WHERE WHAT IT READS IS OF BULK AT MOST 1048576: true; the input reads as it did. -/
def psgLengthsUptoRow : OpenClaim := { program := "ytieamlpjdilcoaa", sum := "ab46162efe8d4dc80fc4cfc3ae6bcfd9226da7b03002e0e53a74ed87b71bb067", func := "cameo/cameolaw22.PsgLengths", spec := "psgLengths", apart := false, narrowed := true }
def PsgLengthsUptoSaid : Prop := psgLengthsUptoRow.holds Try.pinned (OpenSpec.upto psgLengthsSpec)

/-- 'cameolaw22.PsgBounds', WHERE WHAT IT READS IS OF BULK AT MOST 1048576: true; the input reads as it did. -/
def psgBoundsUptoRow : OpenClaim := { program := "ytieamlpjdilcoaa", sum := "ab46162efe8d4dc80fc4cfc3ae6bcfd9226da7b03002e0e53a74ed87b71bb067", func := "cameo/cameolaw22.PsgBounds", spec := "psgBounds", apart := false, narrowed := true }
def PsgBoundsUptoSaid : Prop := psgBoundsUptoRow.holds Try.pinned (OpenSpec.upto psgBoundsSpec)

/-- 'cameolaw22.PsgNone', WHERE WHAT IT READS IS OF BULK AT MOST 1048576: true; the input reads as it did. -/
def psgNoneUptoRow : OpenClaim := { program := "ytieamlpjdilcoaa", sum := "ab46162efe8d4dc80fc4cfc3ae6bcfd9226da7b03002e0e53a74ed87b71bb067", func := "cameo/cameolaw22.PsgNone", spec := "psgNone", apart := false, narrowed := true }
def PsgNoneUptoSaid : Prop := psgNoneUptoRow.holds Try.pinned (OpenSpec.upto psgNoneSpec)

end Rows
end Go.Proofs.Ytieamlpjdilcoaa
