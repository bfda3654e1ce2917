/-
  NARROWER THAN 'FOR EVERY INPUT', by the rows' own cells (each row's printed sentence says how): SaveSynced: laid · SaveParts: laid · SaveUnseen: laid · SaveMade: laid · SaveRuns: laid.
  DERIVED. THE GIVEN ROWS OF THIS SEAT. 5 by the template 'for every input the law returns true; each argument reads behind the call as it read before'; 0 by the template 'total and deterministic' (their statements: YtcgigdfahlmfaaaGreatDoorTotals.lean).
  GIVEN WITH THE SEED: the statements are not yours to turn. If you find one false, say at which input.
  Laid BY PROGRAM, IN A SANDBOX (cutbox-rows.mjs): the forced cells as the released guide's own fill.sh prints them over the translation 1b62c8e78a8f796e… (all of the seat's roots in one cut). By AI agents, Wed Nov 11 2026. No macro, syntax, notation, axiom, sorry.
-/
import Derived.Test.YtcgigdfahlmfaaaGreatDoorChecked
import GoSem.PinnedTables
import GoSem.Claim
import GoSem.ClaimJoined
import GoSem.ClaimMapViews
import Derived.JoinedTies
import Derived.KernelRfl
namespace Go.Proofs.YtcgigdfahlmfaaaGreatDoor
/- THE CELL 'sum', in the pinned program and in every row, IS THE sha256 OF THE DUMP (.gsa) THAT YtcgigdfahlmfaaaGreatDoorProg.lean LOADS. Nothing in Lean hashes anything: it is a label: what it is worth is what the hold of that sum in a sandbox is worth. -/
noncomputable def Tryz.pinned : Pinned := { name := "ytcgigdfahlmfaaagreatdoor", sum := "1b62c8e78a8f796e9809d012cb0d70f795a7129f4e35151ee4b01d6a3af0fd66", checked := Tryz.checked }
namespace Rows
def none {H : Type} : Left H := { results := [], args := [] }

/- WHAT THE LISTED PACKAGE-LEVEL VARIABLES READ AS WHEN THE CALL BEGINS. Each datum BY PROGRAM (the guide's laid-datum.mjs) off the statement by which the dump's own 'gosem.cut.vars' lays the variable. In a bare row this is a premise. The card (YtcgigdfahlmfaaaGreatDoorCards.lean) ties it to the program's text. -/
def laid_unicode_utf8_acceptRanges {H : Type} : DataW H := .agg [.agg [.lit (.int .u8 128), .lit (.int .u8 191)], .agg [.lit (.int .u8 160), .lit (.int .u8 191)], .agg [.lit (.int .u8 128), .lit (.int .u8 159)], .agg [.lit (.int .u8 144), .lit (.int .u8 191)], .agg [.lit (.int .u8 128), .lit (.int .u8 143)], .agg [.lit (.int .u8 0), .lit (.int .u8 0)], .agg [.lit (.int .u8 0), .lit (.int .u8 0)], .agg [.lit (.int .u8 0), .lit (.int .u8 0)], .agg [.lit (.int .u8 0), .lit (.int .u8 0)], .agg [.lit (.int .u8 0), .lit (.int .u8 0)], .agg [.lit (.int .u8 0), .lit (.int .u8 0)], .agg [.lit (.int .u8 0), .lit (.int .u8 0)], .agg [.lit (.int .u8 0), .lit (.int .u8 0)], .agg [.lit (.int .u8 0), .lit (.int .u8 0)], .agg [.lit (.int .u8 0), .lit (.int .u8 0)], .agg [.lit (.int .u8 0), .lit (.int .u8 0)]]
/-- One of Go's own tables, pinned by name: the form's constant. -/
def laid_unicode_utf8_first : DataW Unit := Go.Pinned.utf8First

/-- 'cameolaw06.SaveSynced': WHATEVER THE INPUT: true; the input reads as it did. -/
def saveSyncedSpec : ChangeSpec := { name := "saveSynced", fn := fun _ => fun
  | [d1, d2, d3] => { results := [.lit (.bool true)], args := [d1, d2, d3] }
  | _ => none }
def saveSyncedRow : OpenClaim := { program := "ytcgigdfahlmfaaagreatdoor", sum := "1b62c8e78a8f796e9809d012cb0d70f795a7129f4e35151ee4b01d6a3af0fd66", func := "cameo/cameolaw06.SaveSynced", spec := "saveSynced", inPlace := ["internal/abi.NoEscape", "internal/bytealg.MakeNoZero", "internal/bytealg.IndexByteString", "internal/bytealg.IndexString"], named := ["unicode/utf8.first", "unicode/utf8.acceptRanges", "internal/bytealg.MaxLen"], apart := false, laid := [("unicode/utf8.acceptRanges", laid_unicode_utf8_acceptRanges), ("unicode/utf8.first", laid_unicode_utf8_first)] }
def SaveSyncedSaid : Prop := saveSyncedRow.holds Tryz.pinned (OpenSpec.ofChange saveSyncedSpec)

/-- ITS FALSE NEIGHBOUR: 'it returns false'. Refute it at one input. -/
def saveSyncedWrong : ChangeSpec := { name := "saveSynced", fn := fun _ => fun
  | [d1, d2, d3] => { results := [.lit (.bool false)], args := [d1, d2, d3] }
  | _ => none }
def SaveSyncedWrongFalsely : Prop := saveSyncedRow.holds Tryz.pinned (OpenSpec.ofChange saveSyncedWrong)

/-- 'cameolaw06.SaveParts': WHATEVER THE INPUT: true; the input reads as it did. -/
def savePartsSpec : ChangeSpec := { name := "saveParts", fn := fun _ => fun
  | [d1, d2, d3] => { results := [.lit (.bool true)], args := [d1, d2, d3] }
  | _ => none }
def savePartsRow : OpenClaim := { program := "ytcgigdfahlmfaaagreatdoor", sum := "1b62c8e78a8f796e9809d012cb0d70f795a7129f4e35151ee4b01d6a3af0fd66", func := "cameo/cameolaw06.SaveParts", spec := "saveParts", inPlace := ["internal/abi.NoEscape", "internal/bytealg.MakeNoZero", "internal/bytealg.IndexByteString", "internal/bytealg.IndexString"], named := ["unicode/utf8.first", "unicode/utf8.acceptRanges", "internal/bytealg.MaxLen"], apart := false, laid := [("unicode/utf8.acceptRanges", laid_unicode_utf8_acceptRanges), ("unicode/utf8.first", laid_unicode_utf8_first)] }
def SavePartsSaid : Prop := savePartsRow.holds Tryz.pinned (OpenSpec.ofChange savePartsSpec)

/-- ITS FALSE NEIGHBOUR: 'it returns false'. Refute it at one input. -/
def savePartsWrong : ChangeSpec := { name := "saveParts", fn := fun _ => fun
  | [d1, d2, d3] => { results := [.lit (.bool false)], args := [d1, d2, d3] }
  | _ => none }
def SavePartsWrongFalsely : Prop := savePartsRow.holds Tryz.pinned (OpenSpec.ofChange savePartsWrong)

/-- 'cameolaw06.SaveUnseen': WHATEVER THE INPUT: true; the input reads as it did. -/
def saveUnseenSpec : ChangeSpec := { name := "saveUnseen", fn := fun _ => fun
  | [d1, d2, d3] => { results := [.lit (.bool true)], args := [d1, d2, d3] }
  | _ => none }
def saveUnseenRow : OpenClaim := { program := "ytcgigdfahlmfaaagreatdoor", sum := "1b62c8e78a8f796e9809d012cb0d70f795a7129f4e35151ee4b01d6a3af0fd66", func := "cameo/cameolaw06.SaveUnseen", spec := "saveUnseen", inPlace := ["internal/abi.NoEscape", "internal/bytealg.MakeNoZero", "internal/bytealg.IndexByteString", "internal/bytealg.IndexString"], named := ["unicode/utf8.first", "unicode/utf8.acceptRanges", "internal/bytealg.MaxLen"], apart := false, laid := [("unicode/utf8.acceptRanges", laid_unicode_utf8_acceptRanges), ("unicode/utf8.first", laid_unicode_utf8_first)] }
def SaveUnseenSaid : Prop := saveUnseenRow.holds Tryz.pinned (OpenSpec.ofChange saveUnseenSpec)

/-- ITS FALSE NEIGHBOUR: 'it returns false'. Refute it at one input. -/
def saveUnseenWrong : ChangeSpec := { name := "saveUnseen", fn := fun _ => fun
  | [d1, d2, d3] => { results := [.lit (.bool false)], args := [d1, d2, d3] }
  | _ => none }
def SaveUnseenWrongFalsely : Prop := saveUnseenRow.holds Tryz.pinned (OpenSpec.ofChange saveUnseenWrong)

/-- 'cameolaw06.SaveMade': WHATEVER THE INPUT: true; the input reads as it did. -/
def saveMadeSpec : ChangeSpec := { name := "saveMade", fn := fun _ => fun
  | [d1, d2] => { results := [.lit (.bool true)], args := [d1, d2] }
  | _ => none }
def saveMadeRow : OpenClaim := { program := "ytcgigdfahlmfaaagreatdoor", sum := "1b62c8e78a8f796e9809d012cb0d70f795a7129f4e35151ee4b01d6a3af0fd66", func := "cameo/cameolaw06.SaveMade", spec := "saveMade", inPlace := ["internal/abi.NoEscape", "internal/bytealg.MakeNoZero", "internal/bytealg.IndexByteString", "internal/bytealg.IndexString"], named := ["unicode/utf8.first", "unicode/utf8.acceptRanges", "internal/bytealg.MaxLen"], apart := false, laid := [("unicode/utf8.acceptRanges", laid_unicode_utf8_acceptRanges), ("unicode/utf8.first", laid_unicode_utf8_first)] }
def SaveMadeSaid : Prop := saveMadeRow.holds Tryz.pinned (OpenSpec.ofChange saveMadeSpec)

/-- ITS FALSE NEIGHBOUR: 'it returns false'. Refute it at one input. -/
def saveMadeWrong : ChangeSpec := { name := "saveMade", fn := fun _ => fun
  | [d1, d2] => { results := [.lit (.bool false)], args := [d1, d2] }
  | _ => none }
def SaveMadeWrongFalsely : Prop := saveMadeRow.holds Tryz.pinned (OpenSpec.ofChange saveMadeWrong)

/-- 'cameolaw06.SaveRuns': WHATEVER THE INPUT: true; the input reads as it did. -/
def saveRunsSpec : ChangeSpec := { name := "saveRuns", fn := fun _ => fun
  | [d1, d2, d3] => { results := [.lit (.bool true)], args := [d1, d2, d3] }
  | _ => none }
def saveRunsRow : OpenClaim := { program := "ytcgigdfahlmfaaagreatdoor", sum := "1b62c8e78a8f796e9809d012cb0d70f795a7129f4e35151ee4b01d6a3af0fd66", func := "cameo/cameolaw06.SaveRuns", spec := "saveRuns", inPlace := ["internal/abi.NoEscape", "internal/bytealg.MakeNoZero", "internal/bytealg.IndexByteString", "internal/bytealg.IndexString"], named := ["unicode/utf8.first", "unicode/utf8.acceptRanges", "internal/bytealg.MaxLen"], apart := false, laid := [("unicode/utf8.acceptRanges", laid_unicode_utf8_acceptRanges), ("unicode/utf8.first", laid_unicode_utf8_first)] }
def SaveRunsSaid : Prop := saveRunsRow.holds Tryz.pinned (OpenSpec.ofChange saveRunsSpec)

/-- ITS FALSE NEIGHBOUR: 'it returns false'. Refute it at one input. -/
def saveRunsWrong : ChangeSpec := { name := "saveRuns", fn := fun _ => fun
  | [d1, d2, d3] => { results := [.lit (.bool false)], args := [d1, d2, d3] }
  | _ => none }
def SaveRunsWrongFalsely : Prop := saveRunsRow.holds Tryz.pinned (OpenSpec.ofChange saveRunsWrong)

/- THE SECOND FORM. 'bulk': how many values and letters a reading holds, each counted each time it is reached (what is shared counts as often as it is met; a slice's spare places count too). A statement '..UptoSaid' is the law's where the arguments, and the package variables that the reading takes, are together of bulk at most 1048576: NARROWER than '..Said'. Prove '..Said' where nothing that the law and all that it calls make is longer than what came in: it says more and counts as full. Else prove '..UptoSaid'. A law counts once. -/
mutual
def uptoBulk {H : Type} : DataW H → Nat
  | .lit (.string bytes) => bytes.length + 1
  | .lit _ => 1
  | .nil => 1
  | .ptr d => uptoBulk d + 1
  | .slice elems spare => uptoBulkAll elems + uptoBulkAll spare + 1
  | .agg parts => uptoBulkAll parts + 1
  | .iface _ d => uptoBulk d + 1
  | .map entries => uptoBulkEntries entries + 1
  | .held _ => 1
def uptoBulkAll {H : Type} : List (DataW H) → Nat
  | [] => 0
  | d :: r => uptoBulk d + uptoBulkAll r
def uptoBulkEntries {H : Type} : List (Lit × DataW H) → Nat
  | [] => 0
  | x :: r => uptoBulkEntry x + uptoBulkEntries r
def uptoBulkEntry {H : Type} : Lit × DataW H → Nat
  | (.string bytes, d) => bytes.length + uptoBulk d + 1
  | (_, d) => uptoBulk d + 1
 end
def uptoSmall : (H : Type) → List (DataW H) → Bool := fun _ ds => decide (uptoBulkAll ds ≤ 1048576)
def OpenSpec.upto (s : _root_.Go.ChangeSpec) : _root_.Go.OpenSpec := { _root_.Go.OpenSpec.ofChange s with cond := some uptoSmall }

/-- 'cameolaw06.SaveSynced', WHERE WHAT IT READS IS OF BULK AT MOST 1048576: true; the input reads as it did. -/
def saveSyncedUptoRow : OpenClaim := { program := "ytcgigdfahlmfaaagreatdoor", sum := "1b62c8e78a8f796e9809d012cb0d70f795a7129f4e35151ee4b01d6a3af0fd66", func := "cameo/cameolaw06.SaveSynced", spec := "saveSynced", inPlace := ["internal/abi.NoEscape", "internal/bytealg.MakeNoZero", "internal/bytealg.IndexByteString", "internal/bytealg.IndexString"], named := ["unicode/utf8.first", "unicode/utf8.acceptRanges", "internal/bytealg.MaxLen"], apart := false, laid := [("unicode/utf8.acceptRanges", laid_unicode_utf8_acceptRanges), ("unicode/utf8.first", laid_unicode_utf8_first)], narrowed := true }
def SaveSyncedUptoSaid : Prop := saveSyncedUptoRow.holds Tryz.pinned (OpenSpec.upto saveSyncedSpec)

/-- 'cameolaw06.SaveParts', WHERE WHAT IT READS IS OF BULK AT MOST 1048576: true; the input reads as it did. -/
def savePartsUptoRow : OpenClaim := { program := "ytcgigdfahlmfaaagreatdoor", sum := "1b62c8e78a8f796e9809d012cb0d70f795a7129f4e35151ee4b01d6a3af0fd66", func := "cameo/cameolaw06.SaveParts", spec := "saveParts", inPlace := ["internal/abi.NoEscape", "internal/bytealg.MakeNoZero", "internal/bytealg.IndexByteString", "internal/bytealg.IndexString"], named := ["unicode/utf8.first", "unicode/utf8.acceptRanges", "internal/bytealg.MaxLen"], apart := false, laid := [("unicode/utf8.acceptRanges", laid_unicode_utf8_acceptRanges), ("unicode/utf8.first", laid_unicode_utf8_first)], narrowed := true }
def SavePartsUptoSaid : Prop := savePartsUptoRow.holds Tryz.pinned (OpenSpec.upto savePartsSpec)

/-- 'cameolaw06.SaveUnseen', WHERE WHAT IT READS IS OF BULK AT MOST 1048576: true; the input reads as it did. -/
def saveUnseenUptoRow : OpenClaim := { program := "ytcgigdfahlmfaaagreatdoor", sum := "1b62c8e78a8f796e9809d012cb0d70f795a7129f4e35151ee4b01d6a3af0fd66", func := "cameo/cameolaw06.SaveUnseen", spec := "saveUnseen", inPlace := ["internal/abi.NoEscape", "internal/bytealg.MakeNoZero", "internal/bytealg.IndexByteString", "internal/bytealg.IndexString"], named := ["unicode/utf8.first", "unicode/utf8.acceptRanges", "internal/bytealg.MaxLen"], apart := false, laid := [("unicode/utf8.acceptRanges", laid_unicode_utf8_acceptRanges), ("unicode/utf8.first", laid_unicode_utf8_first)], narrowed := true }
def SaveUnseenUptoSaid : Prop := saveUnseenUptoRow.holds Tryz.pinned (OpenSpec.upto saveUnseenSpec)

/-- 'cameolaw06.SaveMade', WHERE WHAT IT READS IS OF BULK AT MOST 1048576: true; the input reads as it did. -/
def saveMadeUptoRow : OpenClaim := { program := "ytcgigdfahlmfaaagreatdoor", sum := "1b62c8e78a8f796e9809d012cb0d70f795a7129f4e35151ee4b01d6a3af0fd66", func := "cameo/cameolaw06.SaveMade", spec := "saveMade", inPlace := ["internal/abi.NoEscape", "internal/bytealg.MakeNoZero", "internal/bytealg.IndexByteString", "internal/bytealg.IndexString"], named := ["unicode/utf8.first", "unicode/utf8.acceptRanges", "internal/bytealg.MaxLen"], apart := false, laid := [("unicode/utf8.acceptRanges", laid_unicode_utf8_acceptRanges), ("unicode/utf8.first", laid_unicode_utf8_first)], narrowed := true }
def SaveMadeUptoSaid : Prop := saveMadeUptoRow.holds Tryz.pinned (OpenSpec.upto saveMadeSpec)

/-- 'cameolaw06.SaveRuns', WHERE WHAT IT READS IS OF BULK AT MOST 1048576: true; the input reads as it did. -/
def saveRunsUptoRow : OpenClaim := { program := "ytcgigdfahlmfaaagreatdoor", sum := "1b62c8e78a8f796e9809d012cb0d70f795a7129f4e35151ee4b01d6a3af0fd66", func := "cameo/cameolaw06.SaveRuns", spec := "saveRuns", inPlace := ["internal/abi.NoEscape", "internal/bytealg.MakeNoZero", "internal/bytealg.IndexByteString", "internal/bytealg.IndexString"], named := ["unicode/utf8.first", "unicode/utf8.acceptRanges", "internal/bytealg.MaxLen"], apart := false, laid := [("unicode/utf8.acceptRanges", laid_unicode_utf8_acceptRanges), ("unicode/utf8.first", laid_unicode_utf8_first)], narrowed := true }
def SaveRunsUptoSaid : Prop := saveRunsUptoRow.holds Tryz.pinned (OpenSpec.upto saveRunsSpec)

end Rows
end Go.Proofs.YtcgigdfahlmfaaaGreatDoor
