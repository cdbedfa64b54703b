/-
  DERIVED. GIVEN WITH THE SEED: THE CARDS: each row of YthdcnknjjbdefaaGreatDoorRows.lean that lists a variable, with what it lists TIED to the program's text (the seventh form; the later family's looks); each row that meets fmt, with fmt's text TOLD by the authors' own Lean function (tested against real Go, not proved from fmt's source: count such statements apart). THE CARD IS WHAT COUNTS. Prove the row's statement (the work); the ties are given (YthdcnknjjbdefaaGreatDoorTie.lean); close each card by the builder's one call (the guide's Derived/Test/ToyasCard.lean, 'card_holds'). Laid BY PROGRAM, IN A SANDBOX (cutbox-door.mjs). By AI agents, Wed Nov 11 2026. No macro, syntax, notation, axiom, sorry.
-/
import Derived.Test.YthdcnknjjbdefaaGreatDoorRows
import GoSem.ClaimSeven
namespace Go.Proofs.YthdcnknjjbdefaaGreatDoor
namespace Rows

/-- THE TIED CARD OF 'bucketlinelaw23.HistoryPlaces'. -/
def historyPlacesCard : Claim7 := { stood := { row := historyPlacesRow, standIns := [], harness := (true, "92033c6d299e65e821b67d30b3cefb6502ea7909d3dbb95cc53e883b828a4e8b"), looks := true }, kinds := [], alts := [], laidByText := true, laidKinds := [.data, .pinned], laidTests := true, laidLooks := .later }
def HistoryPlacesCardSaid : Prop := Claim7.holds Tryz.pinned (.plain (OpenSpec.ofChange historyPlacesSpec)) historyPlacesCard

/-- THE TIED CARD OF 'bucketlinelaw23.HistoryTells'. -/
def historyTellsCard : Claim7 := { stood := { row := historyTellsRow, standIns := [], harness := (true, "92033c6d299e65e821b67d30b3cefb6502ea7909d3dbb95cc53e883b828a4e8b"), looks := true }, kinds := [], alts := [], laidByText := true, laidKinds := [.data, .pinned], laidTests := true, laidLooks := .later }
def HistoryTellsCardSaid : Prop := Claim7.holds Tryz.pinned (.plain (OpenSpec.ofChange historyTellsSpec)) historyTellsCard

/-- THE TIED CARD OF 'bucketlinelaw23.HistoryGrows'. -/
def historyGrowsCard : Claim7 := { stood := { row := historyGrowsRow, standIns := [], harness := (true, "92033c6d299e65e821b67d30b3cefb6502ea7909d3dbb95cc53e883b828a4e8b"), looks := true }, kinds := [], alts := [], laidByText := true, laidKinds := [.data, .pinned], laidTests := true, laidLooks := .later }
def HistoryGrowsCardSaid : Prop := Claim7.holds Tryz.pinned (.plain (OpenSpec.ofChange historyGrowsSpec)) historyGrowsCard

/-- THE TIED CARD OF 'bucketlinelaw23.HistoryLost'. -/
def historyLostCard : Claim7 := { stood := { row := historyLostRow, standIns := [], harness := (true, "92033c6d299e65e821b67d30b3cefb6502ea7909d3dbb95cc53e883b828a4e8b"), looks := true }, kinds := [], alts := [], laidByText := true, laidKinds := [.data, .pinned], laidTests := true, laidLooks := .later }
def HistoryLostCardSaid : Prop := Claim7.holds Tryz.pinned (.plain (OpenSpec.ofChange historyLostSpec)) historyLostCard

/-- THE SECOND FORM's CARD OF 'bucketlinelaw23.HistoryPlaces'. -/
def historyPlacesUptoCard : Claim7 := { stood := { row := historyPlacesUptoRow, standIns := [], harness := (true, "92033c6d299e65e821b67d30b3cefb6502ea7909d3dbb95cc53e883b828a4e8b"), looks := true }, kinds := [], alts := [], laidByText := true, laidKinds := [.data, .pinned], laidTests := true, laidLooks := .later }
def HistoryPlacesUptoCardSaid : Prop := Claim7.holds Tryz.pinned (.plain (OpenSpec.upto historyPlacesSpec)) historyPlacesUptoCard

/-- THE SECOND FORM's CARD OF 'bucketlinelaw23.HistoryTells'. -/
def historyTellsUptoCard : Claim7 := { stood := { row := historyTellsUptoRow, standIns := [], harness := (true, "92033c6d299e65e821b67d30b3cefb6502ea7909d3dbb95cc53e883b828a4e8b"), looks := true }, kinds := [], alts := [], laidByText := true, laidKinds := [.data, .pinned], laidTests := true, laidLooks := .later }
def HistoryTellsUptoCardSaid : Prop := Claim7.holds Tryz.pinned (.plain (OpenSpec.upto historyTellsSpec)) historyTellsUptoCard

/-- THE SECOND FORM's CARD OF 'bucketlinelaw23.HistoryGrows'. -/
def historyGrowsUptoCard : Claim7 := { stood := { row := historyGrowsUptoRow, standIns := [], harness := (true, "92033c6d299e65e821b67d30b3cefb6502ea7909d3dbb95cc53e883b828a4e8b"), looks := true }, kinds := [], alts := [], laidByText := true, laidKinds := [.data, .pinned], laidTests := true, laidLooks := .later }
def HistoryGrowsUptoCardSaid : Prop := Claim7.holds Tryz.pinned (.plain (OpenSpec.upto historyGrowsSpec)) historyGrowsUptoCard

/-- THE SECOND FORM's CARD OF 'bucketlinelaw23.HistoryLost'. -/
def historyLostUptoCard : Claim7 := { stood := { row := historyLostUptoRow, standIns := [], harness := (true, "92033c6d299e65e821b67d30b3cefb6502ea7909d3dbb95cc53e883b828a4e8b"), looks := true }, kinds := [], alts := [], laidByText := true, laidKinds := [.data, .pinned], laidTests := true, laidLooks := .later }
def HistoryLostUptoCardSaid : Prop := Claim7.holds Tryz.pinned (.plain (OpenSpec.upto historyLostSpec)) historyLostUptoCard
end Rows
end Go.Proofs.YthdcnknjjbdefaaGreatDoor
