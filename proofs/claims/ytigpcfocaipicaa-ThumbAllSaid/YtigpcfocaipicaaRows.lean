/-
  No cell of these rows narrows 'for every input' (looked for: loops, veiled, ifaces, maps, wideKeys, modest, calm, conditions, laid).
  DERIVED. THE GIVEN ROWS OF THIS SEAT. 3 by the template 'for every input the law returns true; each argument reads behind the call as it read before'; 0 by the template 'total and deterministic' (their statements: YtigpcfocaipicaaTotals.lean).
  GIVEN WITH THE SEED: the statements are not yours to turn. If you find one false, say at which input.
  Laid BY PROGRAM, IN A SANDBOX (cutbox-rows.mjs): the forced cells as the released guide's own fill.sh prints them over the translation 2b4f23d230ca2038… (all of the seat's roots in one cut). By AI agents, Wed Nov 11 2026. No macro, syntax, notation, axiom, sorry.
-/
import Derived.Test.YtigpcfocaipicaaChecked
import GoSem.Claim
import GoSem.ClaimJoined
import GoSem.ClaimMapViews
import Derived.JoinedTies
import Derived.KernelRfl
namespace Go.Proofs.Ytigpcfocaipicaa
/- THE CELL 'sum', in the pinned program and in every row, IS THE sha256 OF THE DUMP (.gsa) THAT YtigpcfocaipicaaProg.lean LOADS. Nothing in Lean hashes anything: it is a label: what it is worth is what the hold of that sum in a sandbox is worth. -/
noncomputable def Try.pinned : Pinned := { name := "ytigpcfocaipicaa", sum := "2b4f23d230ca2038dd04cd1e222f5363ac695cbb1ebe8094ae480dfb4f489d81", checked := Try.checked }
namespace Rows
def none {H : Type} : Left H := { results := [], args := [] }

/-- 'cameolaw12.ThumbDecodes': WHATEVER THE INPUT: true; the input reads as it did. -/
def thumbDecodesSpec : ChangeSpec := { name := "thumbDecodes", fn := fun _ => fun
  | [d] => { results := [.lit (.bool true)], args := [d] }
  | _ => none }
def thumbDecodesRow : OpenClaim := { program := "ytigpcfocaipicaa", sum := "2b4f23d230ca2038dd04cd1e222f5363ac695cbb1ebe8094ae480dfb4f489d81", func := "cameo/cameolaw12.ThumbDecodes", spec := "thumbDecodes", apart := false }
def ThumbDecodesSaid : Prop := thumbDecodesRow.holds Try.pinned (OpenSpec.ofChange thumbDecodesSpec)

/-- ITS FALSE NEIGHBOUR: 'it returns false'. Refute it at one input. -/
def thumbDecodesWrong : ChangeSpec := { name := "thumbDecodes", fn := fun _ => fun
  | [d] => { results := [.lit (.bool false)], args := [d] }
  | _ => none }
def ThumbDecodesWrongFalsely : Prop := thumbDecodesRow.holds Try.pinned (OpenSpec.ofChange thumbDecodesWrong)

/-- 'cameolaw12.ThumbAll': WHATEVER THE INPUT: true; the input reads as it did. -/
def thumbAllSpec : ChangeSpec := { name := "thumbAll", fn := fun _ => fun
  | [d] => { results := [.lit (.bool true)], args := [d] }
  | _ => none }
def thumbAllRow : OpenClaim := { program := "ytigpcfocaipicaa", sum := "2b4f23d230ca2038dd04cd1e222f5363ac695cbb1ebe8094ae480dfb4f489d81", func := "cameo/cameolaw12.ThumbAll", spec := "thumbAll", apart := false }
def ThumbAllSaid : Prop := thumbAllRow.holds Try.pinned (OpenSpec.ofChange thumbAllSpec)

/-- ITS FALSE NEIGHBOUR: 'it returns false'. Refute it at one input. -/
def thumbAllWrong : ChangeSpec := { name := "thumbAll", fn := fun _ => fun
  | [d] => { results := [.lit (.bool false)], args := [d] }
  | _ => none }
def ThumbAllWrongFalsely : Prop := thumbAllRow.holds Try.pinned (OpenSpec.ofChange thumbAllWrong)

/-- 'cameolaw12.ThumbFields': WHATEVER THE INPUT: true; the input reads as it did. -/
def thumbFieldsSpec : ChangeSpec := { name := "thumbFields", fn := fun _ => fun
  | [d] => { results := [.lit (.bool true)], args := [d] }
  | _ => none }
def thumbFieldsRow : OpenClaim := { program := "ytigpcfocaipicaa", sum := "2b4f23d230ca2038dd04cd1e222f5363ac695cbb1ebe8094ae480dfb4f489d81", func := "cameo/cameolaw12.ThumbFields", spec := "thumbFields", apart := false }
def ThumbFieldsSaid : Prop := thumbFieldsRow.holds Try.pinned (OpenSpec.ofChange thumbFieldsSpec)

/-- ITS FALSE NEIGHBOUR: 'it returns false'. Refute it at one input. -/
def thumbFieldsWrong : ChangeSpec := { name := "thumbFields", fn := fun _ => fun
  | [d] => { results := [.lit (.bool false)], args := [d] }
  | _ => none }
def ThumbFieldsWrongFalsely : Prop := thumbFieldsRow.holds Try.pinned (OpenSpec.ofChange thumbFieldsWrong)

/- THE SECOND FORM. 'bulk': how many values and letters a reading holds, each counted each time it is reached (what is shared counts as often as it is met; a slice's spare places count too). A statement '..UptoSaid' is the law's where the arguments, and the package variables that the reading takes, are together of bulk at most 1048576: NARROWER than '..Said'. Prove '..Said' where nothing that the law and all that it calls make is longer than what came in: it says more and counts as full. Else prove '..UptoSaid'. A law counts once. -/
mutual
def uptoBulk {H : Type} : DataW H → Nat
  | .lit (.string bytes) => bytes.length + 1
  | .lit _ => 1
  | .nil => 1
  | .ptr d => uptoBulk d + 1
  | .slice elems spare => uptoBulkAll elems + uptoBulkAll spare + 1
  | .agg parts => uptoBulkAll parts + 1
  | .iface _ d => uptoBulk d + 1
  | .map entries => uptoBulkEntries entries + 1
  | .held _ => 1
def uptoBulkAll {H : Type} : List (DataW H) → Nat
  | [] => 0
  | d :: r => uptoBulk d + uptoBulkAll r
def uptoBulkEntries {H : Type} : List (Lit × DataW H) → Nat
  | [] => 0
  | x :: r => uptoBulkEntry x + uptoBulkEntries r
def uptoBulkEntry {H : Type} : Lit × DataW H → Nat
  | (.string bytes, d) => bytes.length + uptoBulk d + 1
  | (_, d) => uptoBulk d + 1
 end
def uptoSmall : (H : Type) → List (DataW H) → Bool := fun _ ds => decide (uptoBulkAll ds ≤ 1048576)
def OpenSpec.upto (s : _root_.Go.ChangeSpec) : _root_.Go.OpenSpec := { _root_.Go.OpenSpec.ofChange s with cond := some uptoSmall }

/-- 'cameolaw12.ThumbDecodes', WHERE WHAT IT READS IS OF BULK AT MOST 1048576: true; the input reads as it did. -/
def thumbDecodesUptoRow : OpenClaim := { program := "ytigpcfocaipicaa", sum := "2b4f23d230ca2038dd04cd1e222f5363ac695cbb1ebe8094ae480dfb4f489d81", func := "cameo/cameolaw12.ThumbDecodes", spec := "thumbDecodes", apart := false, narrowed := true }
def ThumbDecodesUptoSaid : Prop := thumbDecodesUptoRow.holds Try.pinned (OpenSpec.upto thumbDecodesSpec)

/-- 'cameolaw12.ThumbAll', WHERE WHAT IT READS IS OF BULK AT MOST 1048576: true; the input reads as it did. -/
def thumbAllUptoRow : OpenClaim := { program := "ytigpcfocaipicaa", sum := "2b4f23d230ca2038dd04cd1e222f5363ac695cbb1ebe8094ae480dfb4f489d81", func := "cameo/cameolaw12.ThumbAll", spec := "thumbAll", apart := false, narrowed := true }
def ThumbAllUptoSaid : Prop := thumbAllUptoRow.holds Try.pinned (OpenSpec.upto thumbAllSpec)

/-- 'cameolaw12.ThumbFields', WHERE WHAT IT READS IS OF BULK AT MOST 1048576: true; the input reads as it did. -/
def thumbFieldsUptoRow : OpenClaim := { program := "ytigpcfocaipicaa", sum := "2b4f23d230ca2038dd04cd1e222f5363ac695cbb1ebe8094ae480dfb4f489d81", func := "cameo/cameolaw12.ThumbFields", spec := "thumbFields", apart := false, narrowed := true }
def ThumbFieldsUptoSaid : Prop := thumbFieldsUptoRow.holds Try.pinned (OpenSpec.upto thumbFieldsSpec)

end Rows
end Go.Proofs.Ytigpcfocaipicaa
