/-
  DERIVED. GIVEN WITH THE SEED: THE CARDS: each row of YtlfhokcjbgpjhaaGreatDoorRows.lean that lists a variable, with what it lists TIED to the program's text (the seventh form; the later family's looks); each row that meets fmt, with fmt's text TOLD by the authors' own Lean function (tested against real Go, not proved from fmt's source: count such statements apart). THE CARD IS WHAT COUNTS. Prove the row's statement (the work); the ties are given (YtlfhokcjbgpjhaaGreatDoorTie.lean); close each card by the builder's one call (the guide's Derived/Test/ToyasCard.lean, 'card_holds'). Laid BY PROGRAM, IN A SANDBOX (cutbox-door.mjs). By AI agents, Wed Nov 11 2026. No macro, syntax, notation, axiom, sorry.
-/
import Derived.Test.YtlfhokcjbgpjhaaGreatDoorRows
import GoSem.ClaimSeven
namespace Go.Proofs.YtlfhokcjbgpjhaaGreatDoor
namespace Rows

/-- THE TIED CARD OF 'bucketlinelaw15.StateCuts'. -/
def stateCutsCard : Claim7 := { stood := { row := stateCutsRow, standIns := [], harness := (true, "a92d6d80c53e43893ed56c5a71f9a060076928aef6995f695cd5eaf860664c27"), looks := true }, kinds := [], alts := [], laidByText := true, laidKinds := [.data, .pinned], laidTests := true, laidLooks := .later }
def StateCutsCardSaid : Prop := Claim7.holds Tryz.pinned (.plain (OpenSpec.ofChange stateCutsSpec)) stateCutsCard

/-- THE TIED CARD OF 'bucketlinelaw15.StatePlays'. -/
def statePlaysCard : Claim7 := { stood := { row := statePlaysRow, standIns := [], harness := (true, "a92d6d80c53e43893ed56c5a71f9a060076928aef6995f695cd5eaf860664c27"), looks := true }, kinds := [], alts := [], laidByText := true, laidKinds := [.data, .pinned], laidTests := true, laidLooks := .later }
def StatePlaysCardSaid : Prop := Claim7.holds Tryz.pinned (.plain (OpenSpec.ofChange statePlaysSpec)) statePlaysCard

/-- THE TIED CARD OF 'bucketlinelaw15.StateParts'. -/
def statePartsCard : Claim7 := { stood := { row := statePartsRow, standIns := [], harness := (true, "a92d6d80c53e43893ed56c5a71f9a060076928aef6995f695cd5eaf860664c27"), looks := true }, kinds := [], alts := [], laidByText := true, laidKinds := [.data, .pinned], laidTests := true, laidLooks := .later }
def StatePartsCardSaid : Prop := Claim7.holds Tryz.pinned (.plain (OpenSpec.ofChange statePartsSpec)) statePartsCard

/-- THE SECOND FORM's CARD OF 'bucketlinelaw15.StateCuts'. -/
def stateCutsUptoCard : Claim7 := { stood := { row := stateCutsUptoRow, standIns := [], harness := (true, "a92d6d80c53e43893ed56c5a71f9a060076928aef6995f695cd5eaf860664c27"), looks := true }, kinds := [], alts := [], laidByText := true, laidKinds := [.data, .pinned], laidTests := true, laidLooks := .later }
def StateCutsUptoCardSaid : Prop := Claim7.holds Tryz.pinned (.plain (OpenSpec.upto stateCutsSpec)) stateCutsUptoCard

/-- THE SECOND FORM's CARD OF 'bucketlinelaw15.StatePlays'. -/
def statePlaysUptoCard : Claim7 := { stood := { row := statePlaysUptoRow, standIns := [], harness := (true, "a92d6d80c53e43893ed56c5a71f9a060076928aef6995f695cd5eaf860664c27"), looks := true }, kinds := [], alts := [], laidByText := true, laidKinds := [.data, .pinned], laidTests := true, laidLooks := .later }
def StatePlaysUptoCardSaid : Prop := Claim7.holds Tryz.pinned (.plain (OpenSpec.upto statePlaysSpec)) statePlaysUptoCard

/-- THE SECOND FORM's CARD OF 'bucketlinelaw15.StateParts'. -/
def statePartsUptoCard : Claim7 := { stood := { row := statePartsUptoRow, standIns := [], harness := (true, "a92d6d80c53e43893ed56c5a71f9a060076928aef6995f695cd5eaf860664c27"), looks := true }, kinds := [], alts := [], laidByText := true, laidKinds := [.data, .pinned], laidTests := true, laidLooks := .later }
def StatePartsUptoCardSaid : Prop := Claim7.holds Tryz.pinned (.plain (OpenSpec.upto statePartsSpec)) statePartsUptoCard
end Rows
end Go.Proofs.YtlfhokcjbgpjhaaGreatDoor
