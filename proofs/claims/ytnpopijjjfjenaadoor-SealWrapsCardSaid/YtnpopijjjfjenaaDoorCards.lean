/-
  DERIVED. GIVEN WITH THE SEED: THE CARDS: each row of YtnpopijjjfjenaaDoorRows.lean that lists a variable, with what it lists TIED to the program's text (the seventh form; the later family's looks); each row that meets fmt, with fmt's text TOLD by the authors' own Lean function (tested against real Go, not proved from fmt's source: count such statements apart). THE CARD IS WHAT COUNTS. Prove the row's statement (the work); the ties are given (YtnpopijjjfjenaaDoorTie.lean); close each card by the builder's one call (the guide's Derived/Test/ToyasCard.lean, 'card_holds'). Laid BY PROGRAM, IN A SANDBOX (cutbox-door.mjs). By AI agents, Wed Nov 11 2026. No macro, syntax, notation, axiom, sorry.
-/
import Derived.Test.YtnpopijjjfjenaaDoorRows
import GoSem.ClaimSeven
namespace Go.Proofs.YtnpopijjjfjenaaDoor
namespace Rows

/-- THE TIED CARD OF 'cameolaw02.SealWraps'. -/
def sealWrapsCard : Claim7 := { stood := { row := sealWrapsRow, standIns := [], harness := (true, "77fbb6897bb1b25e195765dd42877963a905785d8c5126e87e56324716246165"), looks := false }, kinds := [], alts := [], laidByText := true, laidKinds := [.data, .pinned], laidTests := true, laidLooks := .later }
def SealWrapsCardSaid : Prop := Claim7.holds Tryd.pinned (.plain (OpenSpec.ofChange sealWrapsSpec)) sealWrapsCard

/-- THE TIED CARD OF 'cameolaw02.SealApplies'. -/
def sealAppliesCard : Claim7 := { stood := { row := sealAppliesRow, standIns := [], harness := (true, "77fbb6897bb1b25e195765dd42877963a905785d8c5126e87e56324716246165"), looks := false }, kinds := [], alts := [], laidByText := true, laidKinds := [.data, .pinned], laidTests := true, laidLooks := .later }
def SealAppliesCardSaid : Prop := Claim7.holds Tryd.pinned (.plain (OpenSpec.ofChange sealAppliesSpec)) sealAppliesCard

/-- THE TIED CARD OF 'cameolaw02.SealPlaces'. -/
def sealPlacesCard : Claim7 := { stood := { row := sealPlacesRow, standIns := [], harness := (true, "77fbb6897bb1b25e195765dd42877963a905785d8c5126e87e56324716246165"), looks := false }, kinds := [], alts := [], laidByText := true, laidKinds := [.data, .pinned], laidTests := true, laidLooks := .later }
def SealPlacesCardSaid : Prop := Claim7.holds Tryd.pinned (.plain (OpenSpec.ofChange sealPlacesSpec)) sealPlacesCard

/-- THE TIED CARD OF 'cameolaw02.SealCommands'. -/
def sealCommandsCard : Claim7 := { stood := { row := sealCommandsRow, standIns := [], harness := (true, "77fbb6897bb1b25e195765dd42877963a905785d8c5126e87e56324716246165"), looks := false }, kinds := [], alts := [], laidByText := true, laidKinds := [.data, .pinned], laidTests := true, laidLooks := .later }
def SealCommandsCardSaid : Prop := Claim7.holds Tryd.pinned (.plain (OpenSpec.ofChange sealCommandsSpec)) sealCommandsCard

/-- THE TIED CARD OF 'cameolaw02.SealBack'. -/
def sealBackCard : Claim7 := { stood := { row := sealBackRow, standIns := [], harness := (true, "77fbb6897bb1b25e195765dd42877963a905785d8c5126e87e56324716246165"), looks := false }, kinds := [], alts := [], laidByText := true, laidKinds := [.data, .pinned], laidTests := true, laidLooks := .later }
def SealBackCardSaid : Prop := Claim7.holds Tryd.pinned (.plain (OpenSpec.ofChange sealBackSpec)) sealBackCard

/-- THE TIED CARD OF 'cameolaw02.SealTorn'. -/
def sealTornCard : Claim7 := { stood := { row := sealTornRow, standIns := [], harness := (true, "77fbb6897bb1b25e195765dd42877963a905785d8c5126e87e56324716246165"), looks := false }, kinds := [], alts := [], laidByText := true, laidKinds := [.data, .pinned], laidTests := true, laidLooks := .later }
def SealTornCardSaid : Prop := Claim7.holds Tryd.pinned (.plain (OpenSpec.ofChange sealTornSpec)) sealTornCard

/-- THE SECOND FORM's CARD OF 'cameolaw02.SealWraps'. -/
def sealWrapsUptoCard : Claim7 := { stood := { row := sealWrapsUptoRow, standIns := [], harness := (true, "77fbb6897bb1b25e195765dd42877963a905785d8c5126e87e56324716246165"), looks := false }, kinds := [], alts := [], laidByText := true, laidKinds := [.data, .pinned], laidTests := true, laidLooks := .later }
def SealWrapsUptoCardSaid : Prop := Claim7.holds Tryd.pinned (.plain (OpenSpec.upto sealWrapsSpec)) sealWrapsUptoCard

/-- THE SECOND FORM's CARD OF 'cameolaw02.SealApplies'. -/
def sealAppliesUptoCard : Claim7 := { stood := { row := sealAppliesUptoRow, standIns := [], harness := (true, "77fbb6897bb1b25e195765dd42877963a905785d8c5126e87e56324716246165"), looks := false }, kinds := [], alts := [], laidByText := true, laidKinds := [.data, .pinned], laidTests := true, laidLooks := .later }
def SealAppliesUptoCardSaid : Prop := Claim7.holds Tryd.pinned (.plain (OpenSpec.upto sealAppliesSpec)) sealAppliesUptoCard

/-- THE SECOND FORM's CARD OF 'cameolaw02.SealPlaces'. -/
def sealPlacesUptoCard : Claim7 := { stood := { row := sealPlacesUptoRow, standIns := [], harness := (true, "77fbb6897bb1b25e195765dd42877963a905785d8c5126e87e56324716246165"), looks := false }, kinds := [], alts := [], laidByText := true, laidKinds := [.data, .pinned], laidTests := true, laidLooks := .later }
def SealPlacesUptoCardSaid : Prop := Claim7.holds Tryd.pinned (.plain (OpenSpec.upto sealPlacesSpec)) sealPlacesUptoCard

/-- THE SECOND FORM's CARD OF 'cameolaw02.SealCommands'. -/
def sealCommandsUptoCard : Claim7 := { stood := { row := sealCommandsUptoRow, standIns := [], harness := (true, "77fbb6897bb1b25e195765dd42877963a905785d8c5126e87e56324716246165"), looks := false }, kinds := [], alts := [], laidByText := true, laidKinds := [.data, .pinned], laidTests := true, laidLooks := .later }
def SealCommandsUptoCardSaid : Prop := Claim7.holds Tryd.pinned (.plain (OpenSpec.upto sealCommandsSpec)) sealCommandsUptoCard

/-- THE SECOND FORM's CARD OF 'cameolaw02.SealBack'. -/
def sealBackUptoCard : Claim7 := { stood := { row := sealBackUptoRow, standIns := [], harness := (true, "77fbb6897bb1b25e195765dd42877963a905785d8c5126e87e56324716246165"), looks := false }, kinds := [], alts := [], laidByText := true, laidKinds := [.data, .pinned], laidTests := true, laidLooks := .later }
def SealBackUptoCardSaid : Prop := Claim7.holds Tryd.pinned (.plain (OpenSpec.upto sealBackSpec)) sealBackUptoCard

/-- THE SECOND FORM's CARD OF 'cameolaw02.SealTorn'. -/
def sealTornUptoCard : Claim7 := { stood := { row := sealTornUptoRow, standIns := [], harness := (true, "77fbb6897bb1b25e195765dd42877963a905785d8c5126e87e56324716246165"), looks := false }, kinds := [], alts := [], laidByText := true, laidKinds := [.data, .pinned], laidTests := true, laidLooks := .later }
def SealTornUptoCardSaid : Prop := Claim7.holds Tryd.pinned (.plain (OpenSpec.upto sealTornSpec)) sealTornUptoCard
end Rows
end Go.Proofs.YtnpopijjjfjenaaDoor
