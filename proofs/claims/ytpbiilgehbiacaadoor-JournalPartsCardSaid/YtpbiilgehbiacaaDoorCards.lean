/-
  DERIVED. GIVEN WITH THE SEED: THE CARDS: each row of YtpbiilgehbiacaaDoorRows.lean that lists a variable, with what it lists TIED to the program's text (the seventh form; the later family's looks); each row that meets fmt, with fmt's text TOLD by the authors' own Lean function (tested against real Go, not proved from fmt's source: count such statements apart). THE CARD IS WHAT COUNTS. Prove the row's statement (the work); the ties are given (YtpbiilgehbiacaaDoorTie.lean); close each card by the builder's one call (the guide's Derived/Test/ToyasCard.lean, 'card_holds'). Laid BY PROGRAM, IN A SANDBOX (cutbox-door.mjs). By AI agents, Wed Nov 11 2026. No macro, syntax, notation, axiom, sorry.
-/
import Derived.Test.YtpbiilgehbiacaaDoorRows
import GoSem.ClaimSeven
namespace Go.Proofs.YtpbiilgehbiacaaDoor
namespace Rows

/-- THE TIED CARD OF 'cameolaw03.JournalFull'. -/
def journalFullCard : Claim7 := { stood := { row := journalFullRow, standIns := [], harness := (true, "0af968ee8b7a1aa8171d5d347f1a7131ebb75d1f532b6e6a144d35e4cba712cd"), looks := false }, kinds := [], alts := [], laidByText := true, laidKinds := [.data, .pinned], laidTests := true, laidLooks := .later }
def JournalFullCardSaid : Prop := Claim7.holds Tryd.pinned (.plain (OpenSpec.ofChange journalFullSpec)) journalFullCard

/-- THE TIED CARD OF 'cameolaw03.JournalNone'. -/
def journalNoneCard : Claim7 := { stood := { row := journalNoneRow, standIns := [], harness := (true, "0af968ee8b7a1aa8171d5d347f1a7131ebb75d1f532b6e6a144d35e4cba712cd"), looks := false }, kinds := [], alts := [], laidByText := true, laidKinds := [.data, .pinned], laidTests := true, laidLooks := .later }
def JournalNoneCardSaid : Prop := Claim7.holds Tryd.pinned (.plain (OpenSpec.ofChange journalNoneSpec)) journalNoneCard

/-- THE TIED CARD OF 'cameolaw03.JournalParts'. -/
def journalPartsCard : Claim7 := { stood := { row := journalPartsRow, standIns := [], harness := (true, "0af968ee8b7a1aa8171d5d347f1a7131ebb75d1f532b6e6a144d35e4cba712cd"), looks := false }, kinds := [], alts := [], laidByText := true, laidKinds := [.data, .pinned], laidTests := true, laidLooks := .later }
def JournalPartsCardSaid : Prop := Claim7.holds Tryd.pinned (.plain (OpenSpec.ofChange journalPartsSpec)) journalPartsCard

/-- THE TIED CARD OF 'cameolaw03.JournalAgain'. -/
def journalAgainCard : Claim7 := { stood := { row := journalAgainRow, standIns := [], harness := (true, "0af968ee8b7a1aa8171d5d347f1a7131ebb75d1f532b6e6a144d35e4cba712cd"), looks := false }, kinds := [], alts := [], laidByText := true, laidKinds := [.data, .pinned], laidTests := true, laidLooks := .later }
def JournalAgainCardSaid : Prop := Claim7.holds Tryd.pinned (.plain (OpenSpec.ofChange journalAgainSpec)) journalAgainCard

/-- THE SECOND FORM's CARD OF 'cameolaw03.JournalFull'. -/
def journalFullUptoCard : Claim7 := { stood := { row := journalFullUptoRow, standIns := [], harness := (true, "0af968ee8b7a1aa8171d5d347f1a7131ebb75d1f532b6e6a144d35e4cba712cd"), looks := false }, kinds := [], alts := [], laidByText := true, laidKinds := [.data, .pinned], laidTests := true, laidLooks := .later }
def JournalFullUptoCardSaid : Prop := Claim7.holds Tryd.pinned (.plain (OpenSpec.upto journalFullSpec)) journalFullUptoCard

/-- THE SECOND FORM's CARD OF 'cameolaw03.JournalNone'. -/
def journalNoneUptoCard : Claim7 := { stood := { row := journalNoneUptoRow, standIns := [], harness := (true, "0af968ee8b7a1aa8171d5d347f1a7131ebb75d1f532b6e6a144d35e4cba712cd"), looks := false }, kinds := [], alts := [], laidByText := true, laidKinds := [.data, .pinned], laidTests := true, laidLooks := .later }
def JournalNoneUptoCardSaid : Prop := Claim7.holds Tryd.pinned (.plain (OpenSpec.upto journalNoneSpec)) journalNoneUptoCard

/-- THE SECOND FORM's CARD OF 'cameolaw03.JournalParts'. -/
def journalPartsUptoCard : Claim7 := { stood := { row := journalPartsUptoRow, standIns := [], harness := (true, "0af968ee8b7a1aa8171d5d347f1a7131ebb75d1f532b6e6a144d35e4cba712cd"), looks := false }, kinds := [], alts := [], laidByText := true, laidKinds := [.data, .pinned], laidTests := true, laidLooks := .later }
def JournalPartsUptoCardSaid : Prop := Claim7.holds Tryd.pinned (.plain (OpenSpec.upto journalPartsSpec)) journalPartsUptoCard

/-- THE SECOND FORM's CARD OF 'cameolaw03.JournalAgain'. -/
def journalAgainUptoCard : Claim7 := { stood := { row := journalAgainUptoRow, standIns := [], harness := (true, "0af968ee8b7a1aa8171d5d347f1a7131ebb75d1f532b6e6a144d35e4cba712cd"), looks := false }, kinds := [], alts := [], laidByText := true, laidKinds := [.data, .pinned], laidTests := true, laidLooks := .later }
def JournalAgainUptoCardSaid : Prop := Claim7.holds Tryd.pinned (.plain (OpenSpec.upto journalAgainSpec)) journalAgainUptoCard
end Rows
end Go.Proofs.YtpbiilgehbiacaaDoor
