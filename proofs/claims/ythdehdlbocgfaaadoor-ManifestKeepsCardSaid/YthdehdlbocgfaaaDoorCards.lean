/-
  DERIVED. GIVEN WITH THE SEED: THE CARDS: each row of YthdehdlbocgfaaaDoorRows.lean that lists a variable, with what it lists TIED to the program's text (the seventh form; the later family's looks); each row that meets fmt, with fmt's text TOLD by the authors' own Lean function (tested against real Go, not proved from fmt's source: count such statements apart). THE CARD IS WHAT COUNTS. Prove the row's statement (the work); the ties are given (YthdehdlbocgfaaaDoorTie.lean); close each card by the builder's one call (the guide's Derived/Test/ToyasCard.lean, 'card_holds'). Laid BY PROGRAM, IN A SANDBOX (cutbox-door.mjs). By AI agents, Wed Nov 11 2026. No macro, syntax, notation, axiom, sorry.
-/
import Derived.Test.YthdehdlbocgfaaaDoorRows
import GoSem.ClaimSeven
namespace Go.Proofs.YthdehdlbocgfaaaDoor
namespace Rows

/-- THE TIED CARD OF 'bucketlinelaw10.ManifestEpochs'. -/
def manifestEpochsCard : Claim7 := { stood := { row := manifestEpochsRow, standIns := [], harness := (true, "02b970c7d5bdfd175ff6e69e22e1f7deed970fb8c8a57b7049a8fcab50d4093b"), looks := false }, kinds := [], alts := [], laidByText := true, laidKinds := [.data, .pinned], laidTests := true, laidLooks := .later }
def ManifestEpochsCardSaid : Prop := Claim7.holds Tryd.pinned (.plain (OpenSpec.ofChange manifestEpochsSpec)) manifestEpochsCard

/-- THE TIED CARD OF 'bucketlinelaw10.ManifestKeeps'. -/
def manifestKeepsCard : Claim7 := { stood := { row := manifestKeepsRow, standIns := [], harness := (true, "02b970c7d5bdfd175ff6e69e22e1f7deed970fb8c8a57b7049a8fcab50d4093b"), looks := false }, kinds := [], alts := [], laidByText := true, laidKinds := [.data, .pinned], laidTests := true, laidLooks := .later }
def ManifestKeepsCardSaid : Prop := Claim7.holds Tryd.pinned (.plain (OpenSpec.ofChange manifestKeepsSpec)) manifestKeepsCard

/-- THE TIED CARD OF 'bucketlinelaw10.ManifestTells'. -/
def manifestTellsCard : Claim7 := { stood := { row := manifestTellsRow, standIns := [], harness := (true, "02b970c7d5bdfd175ff6e69e22e1f7deed970fb8c8a57b7049a8fcab50d4093b"), looks := false }, kinds := [], alts := [], laidByText := true, laidKinds := [.data, .pinned], laidTests := true, laidLooks := .later }
def ManifestTellsCardSaid : Prop := Claim7.holds Tryd.pinned (.plain (OpenSpec.ofChange manifestTellsSpec)) manifestTellsCard

/-- THE SECOND FORM's CARD OF 'bucketlinelaw10.ManifestEpochs'. -/
def manifestEpochsUptoCard : Claim7 := { stood := { row := manifestEpochsUptoRow, standIns := [], harness := (true, "02b970c7d5bdfd175ff6e69e22e1f7deed970fb8c8a57b7049a8fcab50d4093b"), looks := false }, kinds := [], alts := [], laidByText := true, laidKinds := [.data, .pinned], laidTests := true, laidLooks := .later }
def ManifestEpochsUptoCardSaid : Prop := Claim7.holds Tryd.pinned (.plain (OpenSpec.upto manifestEpochsSpec)) manifestEpochsUptoCard

/-- THE SECOND FORM's CARD OF 'bucketlinelaw10.ManifestKeeps'. -/
def manifestKeepsUptoCard : Claim7 := { stood := { row := manifestKeepsUptoRow, standIns := [], harness := (true, "02b970c7d5bdfd175ff6e69e22e1f7deed970fb8c8a57b7049a8fcab50d4093b"), looks := false }, kinds := [], alts := [], laidByText := true, laidKinds := [.data, .pinned], laidTests := true, laidLooks := .later }
def ManifestKeepsUptoCardSaid : Prop := Claim7.holds Tryd.pinned (.plain (OpenSpec.upto manifestKeepsSpec)) manifestKeepsUptoCard

/-- THE SECOND FORM's CARD OF 'bucketlinelaw10.ManifestTells'. -/
def manifestTellsUptoCard : Claim7 := { stood := { row := manifestTellsUptoRow, standIns := [], harness := (true, "02b970c7d5bdfd175ff6e69e22e1f7deed970fb8c8a57b7049a8fcab50d4093b"), looks := false }, kinds := [], alts := [], laidByText := true, laidKinds := [.data, .pinned], laidTests := true, laidLooks := .later }
def ManifestTellsUptoCardSaid : Prop := Claim7.holds Tryd.pinned (.plain (OpenSpec.upto manifestTellsSpec)) manifestTellsUptoCard
end Rows
end Go.Proofs.YthdehdlbocgfaaaDoor
