/-
  NARROWER THAN 'FOR EVERY INPUT', by the rows' own cells (each row's printed sentence says how): SealWraps: laid · SealApplies: laid · SealPlaces: laid · SealCommands: laid · SealBack: laid · SealTorn: laid.
  DERIVED. THE GIVEN ROWS OF THIS SEAT. 6 by the template 'for every input the law returns true; each argument reads behind the call as it read before'; 0 by the template 'total and deterministic' (their statements: YtnpopijjjfjenaaDoorTotals.lean).
  GIVEN WITH THE SEED: the statements are not yours to turn. If you find one false, say at which input.
  Laid BY PROGRAM, IN A SANDBOX (cutbox-rows.mjs): the forced cells as the released guide's own fill.sh prints them over the translation 9d2c65be1a63c300… (all of the seat's roots in one cut). By AI agents, Wed Nov 11 2026. No macro, syntax, notation, axiom, sorry.
-/
import Derived.Test.YtnpopijjjfjenaaDoorChecked
import GoSem.PinnedTables
import GoSem.Claim
import GoSem.ClaimJoined
import GoSem.ClaimMapViews
import Derived.JoinedTies
import Derived.KernelRfl
namespace Go.Proofs.YtnpopijjjfjenaaDoor
/- THE CELL 'sum', in the pinned program and in every row, IS THE sha256 OF THE DUMP (.gsa) THAT YtnpopijjjfjenaaDoorProg.lean LOADS. Nothing in Lean hashes anything: it is a label: what it is worth is what the hold of that sum in a sandbox is worth. -/
noncomputable def Tryd.pinned : Pinned := { name := "ytnpopijjjfjenaadoor", sum := "9d2c65be1a63c3003302a9163e2a6d2a76b48c6a29041d7fc5ef429876a78738", checked := Tryd.checked }
namespace Rows
def none {H : Type} : Left H := { results := [], args := [] }

/- WHAT THE LISTED PACKAGE-LEVEL VARIABLES READ AS WHEN THE CALL BEGINS. Each datum BY PROGRAM (the guide's laid-datum.mjs) off the statement by which the dump's own 'gosem.cut.vars' lays the variable. In a bare row this is a premise. The card (YtnpopijjjfjenaaDoorCards.lean) ties it to the program's text. -/
def laid_unicode_utf8_acceptRanges {H : Type} : DataW H := .agg [.agg [.lit (.int .u8 128), .lit (.int .u8 191)], .agg [.lit (.int .u8 160), .lit (.int .u8 191)], .agg [.lit (.int .u8 128), .lit (.int .u8 159)], .agg [.lit (.int .u8 144), .lit (.int .u8 191)], .agg [.lit (.int .u8 128), .lit (.int .u8 143)], .agg [.lit (.int .u8 0), .lit (.int .u8 0)], .agg [.lit (.int .u8 0), .lit (.int .u8 0)], .agg [.lit (.int .u8 0), .lit (.int .u8 0)], .agg [.lit (.int .u8 0), .lit (.int .u8 0)], .agg [.lit (.int .u8 0), .lit (.int .u8 0)], .agg [.lit (.int .u8 0), .lit (.int .u8 0)], .agg [.lit (.int .u8 0), .lit (.int .u8 0)], .agg [.lit (.int .u8 0), .lit (.int .u8 0)], .agg [.lit (.int .u8 0), .lit (.int .u8 0)], .agg [.lit (.int .u8 0), .lit (.int .u8 0)], .agg [.lit (.int .u8 0), .lit (.int .u8 0)]]
/-- One of Go's own tables, pinned by name: the form's constant. -/
def laid_unicode_utf8_first : DataW Unit := Go.Pinned.utf8First

/-- 'cameolaw02.SealWraps': WHATEVER THE INPUT: true; the input reads as it did. -/
def sealWrapsSpec : ChangeSpec := { name := "sealWraps", fn := fun _ => fun
  | [d1, d2, d3] => { results := [.lit (.bool true)], args := [d1, d2, d3] }
  | _ => none }
def sealWrapsRow : OpenClaim := { program := "ytnpopijjjfjenaadoor", sum := "9d2c65be1a63c3003302a9163e2a6d2a76b48c6a29041d7fc5ef429876a78738", func := "cameo/cameolaw02.SealWraps", spec := "sealWraps", inPlace := ["internal/abi.NoEscape", "internal/bytealg.MakeNoZero", "internal/bytealg.IndexByteString", "internal/bytealg.IndexString"], named := ["unicode/utf8.first", "unicode/utf8.acceptRanges", "internal/bytealg.MaxLen"], apart := false, laid := [("unicode/utf8.acceptRanges", laid_unicode_utf8_acceptRanges), ("unicode/utf8.first", laid_unicode_utf8_first)] }
def SealWrapsSaid : Prop := sealWrapsRow.holds Tryd.pinned (OpenSpec.ofChange sealWrapsSpec)

/-- ITS FALSE NEIGHBOUR: 'it returns false'. Refute it at one input. -/
def sealWrapsWrong : ChangeSpec := { name := "sealWraps", fn := fun _ => fun
  | [d1, d2, d3] => { results := [.lit (.bool false)], args := [d1, d2, d3] }
  | _ => none }
def SealWrapsWrongFalsely : Prop := sealWrapsRow.holds Tryd.pinned (OpenSpec.ofChange sealWrapsWrong)

/-- 'cameolaw02.SealApplies': WHATEVER THE INPUT: true; the input reads as it did. -/
def sealAppliesSpec : ChangeSpec := { name := "sealApplies", fn := fun _ => fun
  | [d1, d2] => { results := [.lit (.bool true)], args := [d1, d2] }
  | _ => none }
def sealAppliesRow : OpenClaim := { program := "ytnpopijjjfjenaadoor", sum := "9d2c65be1a63c3003302a9163e2a6d2a76b48c6a29041d7fc5ef429876a78738", func := "cameo/cameolaw02.SealApplies", spec := "sealApplies", inPlace := ["internal/abi.NoEscape", "internal/bytealg.MakeNoZero", "internal/bytealg.IndexByteString", "internal/bytealg.IndexString"], named := ["unicode/utf8.first", "unicode/utf8.acceptRanges", "internal/bytealg.MaxLen"], apart := false, laid := [("unicode/utf8.acceptRanges", laid_unicode_utf8_acceptRanges), ("unicode/utf8.first", laid_unicode_utf8_first)] }
def SealAppliesSaid : Prop := sealAppliesRow.holds Tryd.pinned (OpenSpec.ofChange sealAppliesSpec)

/-- ITS FALSE NEIGHBOUR: 'it returns false'. Refute it at one input. -/
def sealAppliesWrong : ChangeSpec := { name := "sealApplies", fn := fun _ => fun
  | [d1, d2] => { results := [.lit (.bool false)], args := [d1, d2] }
  | _ => none }
def SealAppliesWrongFalsely : Prop := sealAppliesRow.holds Tryd.pinned (OpenSpec.ofChange sealAppliesWrong)

/-- 'cameolaw02.SealPlaces': WHATEVER THE INPUT: true; the input reads as it did. -/
def sealPlacesSpec : ChangeSpec := { name := "sealPlaces", fn := fun _ => fun
  | [d1, d2] => { results := [.lit (.bool true)], args := [d1, d2] }
  | _ => none }
def sealPlacesRow : OpenClaim := { program := "ytnpopijjjfjenaadoor", sum := "9d2c65be1a63c3003302a9163e2a6d2a76b48c6a29041d7fc5ef429876a78738", func := "cameo/cameolaw02.SealPlaces", spec := "sealPlaces", inPlace := ["internal/abi.NoEscape", "internal/bytealg.MakeNoZero", "internal/bytealg.IndexByteString", "internal/bytealg.IndexString"], named := ["unicode/utf8.first", "unicode/utf8.acceptRanges", "internal/bytealg.MaxLen"], apart := false, laid := [("unicode/utf8.acceptRanges", laid_unicode_utf8_acceptRanges), ("unicode/utf8.first", laid_unicode_utf8_first)] }
def SealPlacesSaid : Prop := sealPlacesRow.holds Tryd.pinned (OpenSpec.ofChange sealPlacesSpec)

/-- ITS FALSE NEIGHBOUR: 'it returns false'. Refute it at one input. -/
def sealPlacesWrong : ChangeSpec := { name := "sealPlaces", fn := fun _ => fun
  | [d1, d2] => { results := [.lit (.bool false)], args := [d1, d2] }
  | _ => none }
def SealPlacesWrongFalsely : Prop := sealPlacesRow.holds Tryd.pinned (OpenSpec.ofChange sealPlacesWrong)

/-- 'cameolaw02.SealCommands': WHATEVER THE INPUT: true; the input reads as it did. -/
def sealCommandsSpec : ChangeSpec := { name := "sealCommands", fn := fun _ => fun
  | [d1, d2, d3] => { results := [.lit (.bool true)], args := [d1, d2, d3] }
  | _ => none }
def sealCommandsRow : OpenClaim := { program := "ytnpopijjjfjenaadoor", sum := "9d2c65be1a63c3003302a9163e2a6d2a76b48c6a29041d7fc5ef429876a78738", func := "cameo/cameolaw02.SealCommands", spec := "sealCommands", inPlace := ["internal/abi.NoEscape", "internal/bytealg.MakeNoZero", "internal/bytealg.IndexByteString", "internal/bytealg.IndexString"], named := ["unicode/utf8.first", "unicode/utf8.acceptRanges", "internal/bytealg.MaxLen"], apart := false, laid := [("unicode/utf8.acceptRanges", laid_unicode_utf8_acceptRanges), ("unicode/utf8.first", laid_unicode_utf8_first)] }
def SealCommandsSaid : Prop := sealCommandsRow.holds Tryd.pinned (OpenSpec.ofChange sealCommandsSpec)

/-- ITS FALSE NEIGHBOUR: 'it returns false'. Refute it at one input. -/
def sealCommandsWrong : ChangeSpec := { name := "sealCommands", fn := fun _ => fun
  | [d1, d2, d3] => { results := [.lit (.bool false)], args := [d1, d2, d3] }
  | _ => none }
def SealCommandsWrongFalsely : Prop := sealCommandsRow.holds Tryd.pinned (OpenSpec.ofChange sealCommandsWrong)

/-- 'cameolaw02.SealBack': WHATEVER THE INPUT: true; the input reads as it did. -/
def sealBackSpec : ChangeSpec := { name := "sealBack", fn := fun _ => fun
  | [d1, d2] => { results := [.lit (.bool true)], args := [d1, d2] }
  | _ => none }
def sealBackRow : OpenClaim := { program := "ytnpopijjjfjenaadoor", sum := "9d2c65be1a63c3003302a9163e2a6d2a76b48c6a29041d7fc5ef429876a78738", func := "cameo/cameolaw02.SealBack", spec := "sealBack", inPlace := ["internal/abi.NoEscape", "internal/bytealg.MakeNoZero", "internal/bytealg.IndexByteString", "internal/bytealg.IndexString"], named := ["unicode/utf8.first", "unicode/utf8.acceptRanges", "internal/bytealg.MaxLen"], apart := false, laid := [("unicode/utf8.acceptRanges", laid_unicode_utf8_acceptRanges), ("unicode/utf8.first", laid_unicode_utf8_first)] }
def SealBackSaid : Prop := sealBackRow.holds Tryd.pinned (OpenSpec.ofChange sealBackSpec)

/-- ITS FALSE NEIGHBOUR: 'it returns false'. Refute it at one input. -/
def sealBackWrong : ChangeSpec := { name := "sealBack", fn := fun _ => fun
  | [d1, d2] => { results := [.lit (.bool false)], args := [d1, d2] }
  | _ => none }
def SealBackWrongFalsely : Prop := sealBackRow.holds Tryd.pinned (OpenSpec.ofChange sealBackWrong)

/-- 'cameolaw02.SealTorn': WHATEVER THE INPUT: true; the input reads as it did. -/
def sealTornSpec : ChangeSpec := { name := "sealTorn", fn := fun _ => fun
  | [d1, d2, d3] => { results := [.lit (.bool true)], args := [d1, d2, d3] }
  | _ => none }
def sealTornRow : OpenClaim := { program := "ytnpopijjjfjenaadoor", sum := "9d2c65be1a63c3003302a9163e2a6d2a76b48c6a29041d7fc5ef429876a78738", func := "cameo/cameolaw02.SealTorn", spec := "sealTorn", inPlace := ["internal/abi.NoEscape", "internal/bytealg.MakeNoZero", "internal/bytealg.IndexByteString", "internal/bytealg.IndexString"], named := ["unicode/utf8.first", "unicode/utf8.acceptRanges", "internal/bytealg.MaxLen"], apart := false, laid := [("unicode/utf8.acceptRanges", laid_unicode_utf8_acceptRanges), ("unicode/utf8.first", laid_unicode_utf8_first)] }
def SealTornSaid : Prop := sealTornRow.holds Tryd.pinned (OpenSpec.ofChange sealTornSpec)

/-- ITS FALSE NEIGHBOUR: 'it returns false'. Refute it at one input. -/
def sealTornWrong : ChangeSpec := { name := "sealTorn", fn := fun _ => fun
  | [d1, d2, d3] => { results := [.lit (.bool false)], args := [d1, d2, d3] }
  | _ => none }
def SealTornWrongFalsely : Prop := sealTornRow.holds Tryd.pinned (OpenSpec.ofChange sealTornWrong)

/- THE SECOND FORM. 'bulk': how many values and letters a reading holds, each counted each time it is reached (what is shared counts as often as it is met; a slice's spare places count too). A statement '..UptoSaid' is the law's where the arguments, and the package variables that the reading takes, are together of bulk at most 1048576: NARROWER than '..Said'. Prove '..Said' where nothing that the law and all that it calls make is longer than what came in: it says more and counts as full. Else prove '..UptoSaid'. A law counts once. -/
mutual
def uptoBulk {H : Type} : DataW H → Nat
  | .lit (.string bytes) => bytes.length + 1
  | .lit _ => 1
  | .nil => 1
  | .ptr d => uptoBulk d + 1
  | .slice elems spare => uptoBulkAll elems + uptoBulkAll spare + 1
  | .agg parts => uptoBulkAll parts + 1
  | .iface _ d => uptoBulk d + 1
  | .map entries => uptoBulkEntries entries + 1
  | .held _ => 1
def uptoBulkAll {H : Type} : List (DataW H) → Nat
  | [] => 0
  | d :: r => uptoBulk d + uptoBulkAll r
def uptoBulkEntries {H : Type} : List (Lit × DataW H) → Nat
  | [] => 0
  | x :: r => uptoBulkEntry x + uptoBulkEntries r
def uptoBulkEntry {H : Type} : Lit × DataW H → Nat
  | (.string bytes, d) => bytes.length + uptoBulk d + 1
  | (_, d) => uptoBulk d + 1
 end
def uptoSmall : (H : Type) → List (DataW H) → Bool := fun _ ds => decide (uptoBulkAll ds ≤ 1048576)
def OpenSpec.upto (s : _root_.Go.ChangeSpec) : _root_.Go.OpenSpec := { _root_.Go.OpenSpec.ofChange s with cond := some uptoSmall }

/-- 'cameolaw02.SealWraps', WHERE WHAT IT READS IS OF BULK AT MOST 1048576: true; the input reads as it did. -/
def sealWrapsUptoRow : OpenClaim := { program := "ytnpopijjjfjenaadoor", sum := "9d2c65be1a63c3003302a9163e2a6d2a76b48c6a29041d7fc5ef429876a78738", func := "cameo/cameolaw02.SealWraps", spec := "sealWraps", inPlace := ["internal/abi.NoEscape", "internal/bytealg.MakeNoZero", "internal/bytealg.IndexByteString", "internal/bytealg.IndexString"], named := ["unicode/utf8.first", "unicode/utf8.acceptRanges", "internal/bytealg.MaxLen"], apart := false, laid := [("unicode/utf8.acceptRanges", laid_unicode_utf8_acceptRanges), ("unicode/utf8.first", laid_unicode_utf8_first)], narrowed := true }
def SealWrapsUptoSaid : Prop := sealWrapsUptoRow.holds Tryd.pinned (OpenSpec.upto sealWrapsSpec)

/-- 'cameolaw02.SealApplies', WHERE WHAT IT READS IS OF BULK AT MOST 1048576: true; the input reads as it did. -/
def sealAppliesUptoRow : OpenClaim := { program := "ytnpopijjjfjenaadoor", sum := "9d2c65be1a63c3003302a9163e2a6d2a76b48c6a29041d7fc5ef429876a78738", func := "cameo/cameolaw02.SealApplies", spec := "sealApplies", inPlace := ["internal/abi.NoEscape", "internal/bytealg.MakeNoZero", "internal/bytealg.IndexByteString", "internal/bytealg.IndexString"], named := ["unicode/utf8.first", "unicode/utf8.acceptRanges", "internal/bytealg.MaxLen"], apart := false, laid := [("unicode/utf8.acceptRanges", laid_unicode_utf8_acceptRanges), ("unicode/utf8.first", laid_unicode_utf8_first)], narrowed := true }
def SealAppliesUptoSaid : Prop := sealAppliesUptoRow.holds Tryd.pinned (OpenSpec.upto sealAppliesSpec)

/-- 'cameolaw02.SealPlaces', WHERE WHAT IT READS IS OF BULK AT MOST 1048576: true; the input reads as it did. -/
def sealPlacesUptoRow : OpenClaim := { program := "ytnpopijjjfjenaadoor", sum := "9d2c65be1a63c3003302a9163e2a6d2a76b48c6a29041d7fc5ef429876a78738", func := "cameo/cameolaw02.SealPlaces", spec := "sealPlaces", inPlace := ["internal/abi.NoEscape", "internal/bytealg.MakeNoZero", "internal/bytealg.IndexByteString", "internal/bytealg.IndexString"], named := ["unicode/utf8.first", "unicode/utf8.acceptRanges", "internal/bytealg.MaxLen"], apart := false, laid := [("unicode/utf8.acceptRanges", laid_unicode_utf8_acceptRanges), ("unicode/utf8.first", laid_unicode_utf8_first)], narrowed := true }
def SealPlacesUptoSaid : Prop := sealPlacesUptoRow.holds Tryd.pinned (OpenSpec.upto sealPlacesSpec)

/-- 'cameolaw02.SealCommands', WHERE WHAT IT READS IS OF BULK AT MOST 1048576: true; the input reads as it did. -/
def sealCommandsUptoRow : OpenClaim := { program := "ytnpopijjjfjenaadoor", sum := "9d2c65be1a63c3003302a9163e2a6d2a76b48c6a29041d7fc5ef429876a78738", func := "cameo/cameolaw02.SealCommands", spec := "sealCommands", inPlace := ["internal/abi.NoEscape", "internal/bytealg.MakeNoZero", "internal/bytealg.IndexByteString", "internal/bytealg.IndexString"], named := ["unicode/utf8.first", "unicode/utf8.acceptRanges", "internal/bytealg.MaxLen"], apart := false, laid := [("unicode/utf8.acceptRanges", laid_unicode_utf8_acceptRanges), ("unicode/utf8.first", laid_unicode_utf8_first)], narrowed := true }
def SealCommandsUptoSaid : Prop := sealCommandsUptoRow.holds Tryd.pinned (OpenSpec.upto sealCommandsSpec)

/-- 'cameolaw02.SealBack', WHERE WHAT IT READS IS OF BULK AT MOST 1048576: true; the input reads as it did. -/
def sealBackUptoRow : OpenClaim := { program := "ytnpopijjjfjenaadoor", sum := "9d2c65be1a63c3003302a9163e2a6d2a76b48c6a29041d7fc5ef429876a78738", func := "cameo/cameolaw02.SealBack", spec := "sealBack", inPlace := ["internal/abi.NoEscape", "internal/bytealg.MakeNoZero", "internal/bytealg.IndexByteString", "internal/bytealg.IndexString"], named := ["unicode/utf8.first", "unicode/utf8.acceptRanges", "internal/bytealg.MaxLen"], apart := false, laid := [("unicode/utf8.acceptRanges", laid_unicode_utf8_acceptRanges), ("unicode/utf8.first", laid_unicode_utf8_first)], narrowed := true }
def SealBackUptoSaid : Prop := sealBackUptoRow.holds Tryd.pinned (OpenSpec.upto sealBackSpec)

/-- 'cameolaw02.SealTorn', WHERE WHAT IT READS IS OF BULK AT MOST 1048576: true; the input reads as it did. -/
def sealTornUptoRow : OpenClaim := { program := "ytnpopijjjfjenaadoor", sum := "9d2c65be1a63c3003302a9163e2a6d2a76b48c6a29041d7fc5ef429876a78738", func := "cameo/cameolaw02.SealTorn", spec := "sealTorn", inPlace := ["internal/abi.NoEscape", "internal/bytealg.MakeNoZero", "internal/bytealg.IndexByteString", "internal/bytealg.IndexString"], named := ["unicode/utf8.first", "unicode/utf8.acceptRanges", "internal/bytealg.MaxLen"], apart := false, laid := [("unicode/utf8.acceptRanges", laid_unicode_utf8_acceptRanges), ("unicode/utf8.first", laid_unicode_utf8_first)], narrowed := true }
def SealTornUptoSaid : Prop := sealTornUptoRow.holds Tryd.pinned (OpenSpec.upto sealTornSpec)

end Rows
end Go.Proofs.YtnpopijjjfjenaaDoor
