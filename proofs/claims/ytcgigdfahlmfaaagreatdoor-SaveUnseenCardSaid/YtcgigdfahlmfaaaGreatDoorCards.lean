/-
  DERIVED. GIVEN WITH THE SEED: THE CARDS: each row of YtcgigdfahlmfaaaGreatDoorRows.lean that lists a variable, with what it lists TIED to the program's text (the seventh form; the later family's looks); each row that meets fmt, with fmt's text TOLD by the authors' own Lean function (tested against real Go, not proved from fmt's source: count such statements apart). THE CARD IS WHAT COUNTS. Prove the row's statement (the work); the ties are given (YtcgigdfahlmfaaaGreatDoorTie.lean); close each card by the builder's one call (the guide's Derived/Test/ToyasCard.lean, 'card_holds'). Laid BY PROGRAM, IN A SANDBOX (cutbox-door.mjs). By AI agents, Wed Nov 11 2026. No macro, syntax, notation, axiom, sorry.
-/
import Derived.Test.YtcgigdfahlmfaaaGreatDoorRows
import GoSem.ClaimSeven
namespace Go.Proofs.YtcgigdfahlmfaaaGreatDoor
namespace Rows

/-- THE TIED CARD OF 'cameolaw06.SaveSynced'. -/
def saveSyncedCard : Claim7 := { stood := { row := saveSyncedRow, standIns := [], harness := (true, "327f7a9b4c5db838ef069b27a383faa830aada70ebea558fa8d4c3207901cadb"), looks := false }, kinds := [], alts := [], laidByText := true, laidKinds := [.data, .pinned], laidTests := true, laidLooks := .later }
def SaveSyncedCardSaid : Prop := Claim7.holds Tryz.pinned (.plain (OpenSpec.ofChange saveSyncedSpec)) saveSyncedCard

/-- THE TIED CARD OF 'cameolaw06.SaveParts'. -/
def savePartsCard : Claim7 := { stood := { row := savePartsRow, standIns := [], harness := (true, "327f7a9b4c5db838ef069b27a383faa830aada70ebea558fa8d4c3207901cadb"), looks := false }, kinds := [], alts := [], laidByText := true, laidKinds := [.data, .pinned], laidTests := true, laidLooks := .later }
def SavePartsCardSaid : Prop := Claim7.holds Tryz.pinned (.plain (OpenSpec.ofChange savePartsSpec)) savePartsCard

/-- THE TIED CARD OF 'cameolaw06.SaveUnseen'. -/
def saveUnseenCard : Claim7 := { stood := { row := saveUnseenRow, standIns := [], harness := (true, "327f7a9b4c5db838ef069b27a383faa830aada70ebea558fa8d4c3207901cadb"), looks := false }, kinds := [], alts := [], laidByText := true, laidKinds := [.data, .pinned], laidTests := true, laidLooks := .later }
def SaveUnseenCardSaid : Prop := Claim7.holds Tryz.pinned (.plain (OpenSpec.ofChange saveUnseenSpec)) saveUnseenCard

/-- THE TIED CARD OF 'cameolaw06.SaveMade'. -/
def saveMadeCard : Claim7 := { stood := { row := saveMadeRow, standIns := [], harness := (true, "327f7a9b4c5db838ef069b27a383faa830aada70ebea558fa8d4c3207901cadb"), looks := false }, kinds := [], alts := [], laidByText := true, laidKinds := [.data, .pinned], laidTests := true, laidLooks := .later }
def SaveMadeCardSaid : Prop := Claim7.holds Tryz.pinned (.plain (OpenSpec.ofChange saveMadeSpec)) saveMadeCard

/-- THE TIED CARD OF 'cameolaw06.SaveRuns'. -/
def saveRunsCard : Claim7 := { stood := { row := saveRunsRow, standIns := [], harness := (true, "327f7a9b4c5db838ef069b27a383faa830aada70ebea558fa8d4c3207901cadb"), looks := false }, kinds := [], alts := [], laidByText := true, laidKinds := [.data, .pinned], laidTests := true, laidLooks := .later }
def SaveRunsCardSaid : Prop := Claim7.holds Tryz.pinned (.plain (OpenSpec.ofChange saveRunsSpec)) saveRunsCard

/-- THE SECOND FORM's CARD OF 'cameolaw06.SaveSynced'. -/
def saveSyncedUptoCard : Claim7 := { stood := { row := saveSyncedUptoRow, standIns := [], harness := (true, "327f7a9b4c5db838ef069b27a383faa830aada70ebea558fa8d4c3207901cadb"), looks := false }, kinds := [], alts := [], laidByText := true, laidKinds := [.data, .pinned], laidTests := true, laidLooks := .later }
def SaveSyncedUptoCardSaid : Prop := Claim7.holds Tryz.pinned (.plain (OpenSpec.upto saveSyncedSpec)) saveSyncedUptoCard

/-- THE SECOND FORM's CARD OF 'cameolaw06.SaveParts'. -/
def savePartsUptoCard : Claim7 := { stood := { row := savePartsUptoRow, standIns := [], harness := (true, "327f7a9b4c5db838ef069b27a383faa830aada70ebea558fa8d4c3207901cadb"), looks := false }, kinds := [], alts := [], laidByText := true, laidKinds := [.data, .pinned], laidTests := true, laidLooks := .later }
def SavePartsUptoCardSaid : Prop := Claim7.holds Tryz.pinned (.plain (OpenSpec.upto savePartsSpec)) savePartsUptoCard

/-- THE SECOND FORM's CARD OF 'cameolaw06.SaveUnseen'. -/
def saveUnseenUptoCard : Claim7 := { stood := { row := saveUnseenUptoRow, standIns := [], harness := (true, "327f7a9b4c5db838ef069b27a383faa830aada70ebea558fa8d4c3207901cadb"), looks := false }, kinds := [], alts := [], laidByText := true, laidKinds := [.data, .pinned], laidTests := true, laidLooks := .later }
def SaveUnseenUptoCardSaid : Prop := Claim7.holds Tryz.pinned (.plain (OpenSpec.upto saveUnseenSpec)) saveUnseenUptoCard

/-- THE SECOND FORM's CARD OF 'cameolaw06.SaveMade'. -/
def saveMadeUptoCard : Claim7 := { stood := { row := saveMadeUptoRow, standIns := [], harness := (true, "327f7a9b4c5db838ef069b27a383faa830aada70ebea558fa8d4c3207901cadb"), looks := false }, kinds := [], alts := [], laidByText := true, laidKinds := [.data, .pinned], laidTests := true, laidLooks := .later }
def SaveMadeUptoCardSaid : Prop := Claim7.holds Tryz.pinned (.plain (OpenSpec.upto saveMadeSpec)) saveMadeUptoCard

/-- THE SECOND FORM's CARD OF 'cameolaw06.SaveRuns'. -/
def saveRunsUptoCard : Claim7 := { stood := { row := saveRunsUptoRow, standIns := [], harness := (true, "327f7a9b4c5db838ef069b27a383faa830aada70ebea558fa8d4c3207901cadb"), looks := false }, kinds := [], alts := [], laidByText := true, laidKinds := [.data, .pinned], laidTests := true, laidLooks := .later }
def SaveRunsUptoCardSaid : Prop := Claim7.holds Tryz.pinned (.plain (OpenSpec.upto saveRunsSpec)) saveRunsUptoCard
end Rows
end Go.Proofs.YtcgigdfahlmfaaaGreatDoor
