/-
  DERIVED. GIVEN WITH THE SEED: THE CARDS: each row of YtoegdpcfhmjnaaaGreatDoorRows.lean that lists a variable, with what it lists TIED to the program's text (the seventh form; the later family's looks); each row that meets fmt, with fmt's text TOLD by the authors' own Lean function (tested against real Go, not proved from fmt's source: count such statements apart). THE CARD IS WHAT COUNTS. Prove the row's statement (the work); the ties are given (YtoegdpcfhmjnaaaGreatDoorTie.lean); close each card by the builder's one call (the guide's Derived/Test/ToyasCard.lean, 'card_holds'). Laid BY PROGRAM, IN A SANDBOX (cutbox-door.mjs). By AI agents, Wed Nov 11 2026. No macro, syntax, notation, axiom, sorry.
-/
import Derived.Test.YtoegdpcfhmjnaaaGreatDoorRows
import GoSem.ClaimSeven
namespace Go.Proofs.YtoegdpcfhmjnaaaGreatDoor
namespace Rows

/-- THE TIED CARD OF 'bucketlinelaw19.MasterTells'. -/
def masterTellsCard : Claim7 := { stood := { row := masterTellsRow, standIns := [], harness := (true, "dafd21d9c5a90a9b29525426549594395f75b7660e143b607317a0b3595307a9"), looks := true }, kinds := [], alts := [], laidByText := true, laidKinds := [.data, .pinned], laidTests := true, laidLooks := .later }
def MasterTellsCardSaid : Prop := Claim7.holds Tryz.pinned (.plain (OpenSpec.ofChange masterTellsSpec)) masterTellsCard

/-- THE TIED CARD OF 'bucketlinelaw19.MasterLeases'. -/
def masterLeasesCard : Claim7 := { stood := { row := masterLeasesRow, standIns := [], harness := (true, "dafd21d9c5a90a9b29525426549594395f75b7660e143b607317a0b3595307a9"), looks := true }, kinds := [], alts := [], laidByText := true, laidKinds := [.data, .pinned], laidTests := true, laidLooks := .later }
def MasterLeasesCardSaid : Prop := Claim7.holds Tryz.pinned (.plain (OpenSpec.ofChange masterLeasesSpec)) masterLeasesCard

/-- THE TIED CARD OF 'bucketlinelaw19.MasterFollows'. -/
def masterFollowsCard : Claim7 := { stood := { row := masterFollowsRow, standIns := [], harness := (true, "dafd21d9c5a90a9b29525426549594395f75b7660e143b607317a0b3595307a9"), looks := true }, kinds := [], alts := [], laidByText := true, laidKinds := [.data, .pinned], laidTests := true, laidLooks := .later }
def MasterFollowsCardSaid : Prop := Claim7.holds Tryz.pinned (.plain (OpenSpec.ofChange masterFollowsSpec)) masterFollowsCard

/-- THE SECOND FORM's CARD OF 'bucketlinelaw19.MasterTells'. -/
def masterTellsUptoCard : Claim7 := { stood := { row := masterTellsUptoRow, standIns := [], harness := (true, "dafd21d9c5a90a9b29525426549594395f75b7660e143b607317a0b3595307a9"), looks := true }, kinds := [], alts := [], laidByText := true, laidKinds := [.data, .pinned], laidTests := true, laidLooks := .later }
def MasterTellsUptoCardSaid : Prop := Claim7.holds Tryz.pinned (.plain (OpenSpec.upto masterTellsSpec)) masterTellsUptoCard

/-- THE SECOND FORM's CARD OF 'bucketlinelaw19.MasterLeases'. -/
def masterLeasesUptoCard : Claim7 := { stood := { row := masterLeasesUptoRow, standIns := [], harness := (true, "dafd21d9c5a90a9b29525426549594395f75b7660e143b607317a0b3595307a9"), looks := true }, kinds := [], alts := [], laidByText := true, laidKinds := [.data, .pinned], laidTests := true, laidLooks := .later }
def MasterLeasesUptoCardSaid : Prop := Claim7.holds Tryz.pinned (.plain (OpenSpec.upto masterLeasesSpec)) masterLeasesUptoCard

/-- THE SECOND FORM's CARD OF 'bucketlinelaw19.MasterFollows'. -/
def masterFollowsUptoCard : Claim7 := { stood := { row := masterFollowsUptoRow, standIns := [], harness := (true, "dafd21d9c5a90a9b29525426549594395f75b7660e143b607317a0b3595307a9"), looks := true }, kinds := [], alts := [], laidByText := true, laidKinds := [.data, .pinned], laidTests := true, laidLooks := .later }
def MasterFollowsUptoCardSaid : Prop := Claim7.holds Tryz.pinned (.plain (OpenSpec.upto masterFollowsSpec)) masterFollowsUptoCard
end Rows
end Go.Proofs.YtoegdpcfhmjnaaaGreatDoor
