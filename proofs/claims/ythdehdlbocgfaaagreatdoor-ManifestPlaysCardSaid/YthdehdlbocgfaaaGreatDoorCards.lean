/-
  DERIVED. GIVEN WITH THE SEED: THE CARDS: each row of YthdehdlbocgfaaaGreatDoorRows.lean that lists a variable, with what it lists TIED to the program's text (the seventh form; the later family's looks); each row that meets fmt, with fmt's text TOLD by the authors' own Lean function (tested against real Go, not proved from fmt's source: count such statements apart). THE CARD IS WHAT COUNTS. Prove the row's statement (the work); the ties are given (YthdehdlbocgfaaaGreatDoorTie.lean); close each card by the builder's one call (the guide's Derived/Test/ToyasCard.lean, 'card_holds'). Laid BY PROGRAM, IN A SANDBOX (cutbox-door.mjs). By AI agents, Wed Nov 11 2026. No macro, syntax, notation, axiom, sorry.
-/
import Derived.Test.YthdehdlbocgfaaaGreatDoorRows
import GoSem.ClaimSeven
namespace Go.Proofs.YthdehdlbocgfaaaGreatDoor
namespace Rows

/-- THE TIED CARD OF 'bucketlinelaw10.ManifestPlays'. -/
def manifestPlaysCard : Claim7 := { stood := { row := manifestPlaysRow, standIns := [], harness := (true, "25a1a92213f6fbe51aa0e7b9dc323c23260e236232bfa81d3aff310cf63034c7"), looks := false }, kinds := [], alts := [], laidByText := true, laidKinds := [.data, .pinned], laidTests := true, laidLooks := .later }
def ManifestPlaysCardSaid : Prop := Claim7.holds Tryz.pinned (.plain (OpenSpec.ofChange manifestPlaysSpec)) manifestPlaysCard

/-- THE SECOND FORM's CARD OF 'bucketlinelaw10.ManifestPlays'. -/
def manifestPlaysUptoCard : Claim7 := { stood := { row := manifestPlaysUptoRow, standIns := [], harness := (true, "25a1a92213f6fbe51aa0e7b9dc323c23260e236232bfa81d3aff310cf63034c7"), looks := false }, kinds := [], alts := [], laidByText := true, laidKinds := [.data, .pinned], laidTests := true, laidLooks := .later }
def ManifestPlaysUptoCardSaid : Prop := Claim7.holds Tryz.pinned (.plain (OpenSpec.upto manifestPlaysSpec)) manifestPlaysUptoCard
end Rows
end Go.Proofs.YthdehdlbocgfaaaGreatDoor
