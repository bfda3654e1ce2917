/-
  No cell of these rows narrows 'for every input' (looked for: loops, veiled, ifaces, maps, wideKeys, modest, calm, conditions, laid).
  DERIVED. THE GIVEN ROWS OF THIS SEAT. 4 by the template 'for every input the law returns true; each argument reads behind the call as it read before'; 0 by the template 'total and deterministic' (their statements: YtccmpceifheejaaTotals.lean).
  GIVEN WITH THE SEED: the statements are not yours to turn. If you find one false, say at which input.
  Laid BY PROGRAM, IN A SANDBOX (cutbox-rows.mjs): the forced cells as the released guide's own fill.sh prints them over the translation e7f12eeb1865309e… (all of the seat's roots in one cut). By AI agents, Wed Nov 11 2026. No macro, syntax, notation, axiom, sorry.
-/
import Derived.Test.YtccmpceifheejaaChecked
import GoSem.Claim
import GoSem.ClaimJoined
import GoSem.ClaimMapViews
import Derived.JoinedTies
import Derived.KernelRfl
namespace Go.Proofs.Ytccmpceifheejaa
/- THE CELL 'sum', in the pinned program and in every row, IS THE sha256 OF THE DUMP (.gsa) THAT YtccmpceifheejaaProg.lean LOADS. Nothing in Lean hashes anything: it is a label: what it is worth is what the hold of that sum in a sandbox is worth. -/
noncomputable def Try.pinned : Pinned := { name := "ytccmpceifheejaa", sum := "e7f12eeb1865309eea108e928911ba5836d865fe84f1dfad7fbb1c0c7d957439", checked := Try.checked }
namespace Rows
def none {H : Type} : Left H := { results := [], args := [] }

/-- 'cameolaw23.SoundBytes': WHATEVER THE INPUT: true; the input reads as it did. -/
def soundBytesSpec : ChangeSpec := { name := "soundBytes", fn := fun _ => fun
  | [d] => { results := [.lit (.bool true)], args := [d] }
  | _ => none }
def soundBytesRow : OpenClaim := { program := "ytccmpceifheejaa", sum := "e7f12eeb1865309eea108e928911ba5836d865fe84f1dfad7fbb1c0c7d957439", func := "cameo/cameolaw23.SoundBytes", spec := "soundBytes", apart := false }
def SoundBytesSaid : Prop := soundBytesRow.holds Try.pinned (OpenSpec.ofChange soundBytesSpec)

/-- ITS FALSE NEIGHBOUR: 'it returns false'. Refute it at one input. -/
def soundBytesWrong : ChangeSpec := { name := "soundBytes", fn := fun _ => fun
  | [d] => { results := [.lit (.bool false)], args := [d] }
  | _ => none }
def SoundBytesWrongFalsely : Prop := soundBytesRow.holds Try.pinned (OpenSpec.ofChange soundBytesWrong)

/-- 'cameolaw23.SoundSilent': WHATEVER THE INPUT: true; the input reads as it did. -/
def soundSilentSpec : ChangeSpec := { name := "soundSilent", fn := fun _ => fun
  | [d1, d2] => { results := [.lit (.bool true)], args := [d1, d2] }
  | _ => none }
def soundSilentRow : OpenClaim := { program := "ytccmpceifheejaa", sum := "e7f12eeb1865309eea108e928911ba5836d865fe84f1dfad7fbb1c0c7d957439", func := "cameo/cameolaw23.SoundSilent", spec := "soundSilent", apart := false }
def SoundSilentSaid : Prop := soundSilentRow.holds Try.pinned (OpenSpec.ofChange soundSilentSpec)

/-- ITS FALSE NEIGHBOUR: 'it returns false'. Refute it at one input. -/
def soundSilentWrong : ChangeSpec := { name := "soundSilent", fn := fun _ => fun
  | [d1, d2] => { results := [.lit (.bool false)], args := [d1, d2] }
  | _ => none }
def SoundSilentWrongFalsely : Prop := soundSilentRow.holds Try.pinned (OpenSpec.ofChange soundSilentWrong)

/-- 'cameolaw23.SoundNone': WHATEVER THE INPUT: true; the input reads as it did. -/
def soundNoneSpec : ChangeSpec := { name := "soundNone", fn := fun _ => fun
  | [d] => { results := [.lit (.bool true)], args := [d] }
  | _ => none }
def soundNoneRow : OpenClaim := { program := "ytccmpceifheejaa", sum := "e7f12eeb1865309eea108e928911ba5836d865fe84f1dfad7fbb1c0c7d957439", func := "cameo/cameolaw23.SoundNone", spec := "soundNone", apart := false }
def SoundNoneSaid : Prop := soundNoneRow.holds Try.pinned (OpenSpec.ofChange soundNoneSpec)

/-- ITS FALSE NEIGHBOUR: 'it returns false'. Refute it at one input. -/
def soundNoneWrong : ChangeSpec := { name := "soundNone", fn := fun _ => fun
  | [d] => { results := [.lit (.bool false)], args := [d] }
  | _ => none }
def SoundNoneWrongFalsely : Prop := soundNoneRow.holds Try.pinned (OpenSpec.ofChange soundNoneWrong)

/-- 'cameolaw23.SoundRuns': WHATEVER THE INPUT: true; the input reads as it did. -/
def soundRunsSpec : ChangeSpec := { name := "soundRuns", fn := fun _ => fun
  | [d] => { results := [.lit (.bool true)], args := [d] }
  | _ => none }
def soundRunsRow : OpenClaim := { program := "ytccmpceifheejaa", sum := "e7f12eeb1865309eea108e928911ba5836d865fe84f1dfad7fbb1c0c7d957439", func := "cameo/cameolaw23.SoundRuns", spec := "soundRuns", apart := false }
def SoundRunsSaid : Prop := soundRunsRow.holds Try.pinned (OpenSpec.ofChange soundRunsSpec)

/-- ITS FALSE NEIGHBOUR: 'it returns false'. Refute it at one input. -/
def soundRunsWrong : ChangeSpec := { name := "soundRuns", fn := fun _ => fun
  | [d] => { results := [.lit (.bool false)], args := [d] }
  | _ => none }
def SoundRunsWrongFalsely : Prop := soundRunsRow.holds Try.pinned (OpenSpec.ofChange soundRunsWrong)

/- THE SECOND FORM. 'bulk': how many values and letters a reading holds, each counted each time it is reached (what is shared counts as often as it is met; a slice's spare places count too). A statement '..UptoSaid' is the law's where the arguments, and the package variables that the reading takes, are together of bulk at most 1048576: NARROWER than '..Said'. Prove '..Said' where nothing that the law and all that it calls make is longer than what came in: it says more and counts as full. Else prove '..UptoSaid'. A law counts once. -/
mutual
def uptoBulk {H : Type} : DataW H → Nat
  | .lit (.string bytes) => bytes.length + 1
  | .lit _ => 1
  | .nil => 1
  | .ptr d => uptoBulk d + 1
  | .slice elems spare => uptoBulkAll elems + uptoBulkAll spare + 1
  | .agg parts => uptoBulkAll parts + 1
  | .iface _ d => uptoBulk d + 1
  | .map entries => uptoBulkEntries entries + 1
  | .held _ => 1
def uptoBulkAll {H : Type} : List (DataW H) → Nat
  | [] => 0
  | d :: r => uptoBulk d + uptoBulkAll r
def uptoBulkEntries {H : Type} : List (Lit × DataW H) → Nat
  | [] => 0
  | x :: r => uptoBulkEntry x + uptoBulkEntries r
def uptoBulkEntry {H : Type} : Lit × DataW H → Nat
  | (.string bytes, d) => bytes.length + uptoBulk d + 1
  | (_, d) => uptoBulk d + 1
 end
def uptoSmall : (H : Type) → List (DataW H) → Bool := fun _ ds => decide (uptoBulkAll ds ≤ 1048576)
def OpenSpec.upto (s : _root_.Go.ChangeSpec) : _root_.Go.OpenSpec := { _root_.Go.OpenSpec.ofChange s with cond := some uptoSmall }

/-- 'cameolaw23.SoundBytes', WHERE WHAT IT READS IS OF BULK AT MOST 1048576: true; the input reads as it did. -/
def soundBytesUptoRow : OpenClaim := { program := "ytccmpceifheejaa", sum := "e7f12eeb1865309eea108e928911ba5836d865fe84f1dfad7fbb1c0c7d957439", func := "cameo/cameolaw23.SoundBytes", spec := "soundBytes", apart := false, narrowed := true }
def SoundBytesUptoSaid : Prop := soundBytesUptoRow.holds Try.pinned (OpenSpec.upto soundBytesSpec)

/-- 'cameolaw23.SoundSilent', WHERE WHAT IT READS IS OF BULK AT MOST 1048576: true; the input reads as it did. -/
def soundSilentUptoRow : OpenClaim := { program := "ytccmpceifheejaa", sum := "e7f12eeb1865309eea108e928911ba5836d865fe84f1dfad7fbb1c0c7d957439", func := "cameo/cameolaw23.SoundSilent", spec := "soundSilent", apart := false, narrowed := true }
def SoundSilentUptoSaid : Prop := soundSilentUptoRow.holds Try.pinned (OpenSpec.upto soundSilentSpec)

/-- 'cameolaw23.SoundNone', WHERE WHAT IT READS IS OF BULK AT MOST 1048576: true; the input reads as it did. -/
def soundNoneUptoRow : OpenClaim := { program := "ytccmpceifheejaa", sum := "e7f12eeb1865309eea108e928911ba5836d865fe84f1dfad7fbb1c0c7d957439", func := "cameo/cameolaw23.SoundNone", spec := "soundNone", apart := false, narrowed := true }
def SoundNoneUptoSaid : Prop := soundNoneUptoRow.holds Try.pinned (OpenSpec.upto soundNoneSpec)

/-- 'cameolaw23.SoundRuns', WHERE WHAT IT READS IS OF BULK AT MOST 1048576: true; the input reads as it did. -/
def soundRunsUptoRow : OpenClaim := { program := "ytccmpceifheejaa", sum := "e7f12eeb1865309eea108e928911ba5836d865fe84f1dfad7fbb1c0c7d957439", func := "cameo/cameolaw23.SoundRuns", spec := "soundRuns", apart := false, narrowed := true }
def SoundRunsUptoSaid : Prop := soundRunsUptoRow.holds Try.pinned (OpenSpec.upto soundRunsSpec)

end Rows
end Go.Proofs.Ytccmpceifheejaa
