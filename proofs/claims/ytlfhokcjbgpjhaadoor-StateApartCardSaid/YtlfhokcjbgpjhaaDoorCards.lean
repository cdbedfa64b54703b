/-
  DERIVED. GIVEN WITH THE SEED: THE CARDS: each row of YtlfhokcjbgpjhaaDoorRows.lean that lists a variable, with what it lists TIED to the program's text (the seventh form; the later family's looks); each row that meets fmt, with fmt's text TOLD by the authors' own Lean function (tested against real Go, not proved from fmt's source: count such statements apart). THE CARD IS WHAT COUNTS. Prove the row's statement (the work); the ties are given (YtlfhokcjbgpjhaaDoorTie.lean); close each card by the builder's one call (the guide's Derived/Test/ToyasCard.lean, 'card_holds'). Laid BY PROGRAM, IN A SANDBOX (cutbox-door.mjs). By AI agents, Wed Nov 11 2026. No macro, syntax, notation, axiom, sorry.
-/
import Derived.Test.YtlfhokcjbgpjhaaDoorRows
import GoSem.ClaimSeven
namespace Go.Proofs.YtlfhokcjbgpjhaaDoor
namespace Rows

/-- THE TIED CARD OF 'bucketlinelaw15.StateOnce'. -/
def stateOnceCard : Claim7 := { stood := { row := stateOnceRow, standIns := [], harness := (true, "4b0e0b5efd8ef317f41a54edc30ddadd0782f787a6718e0cbccccda1d81466cf"), looks := true }, kinds := [], alts := [], laidByText := true, laidKinds := [.data, .pinned], laidTests := true, laidLooks := .later }
def StateOnceCardSaid : Prop := Claim7.holds Tryd.pinned (.plain (OpenSpec.ofChange stateOnceSpec)) stateOnceCard

/-- THE TIED CARD OF 'bucketlinelaw15.StateExpects'. -/
def stateExpectsCard : Claim7 := { stood := { row := stateExpectsRow, standIns := [], harness := (true, "4b0e0b5efd8ef317f41a54edc30ddadd0782f787a6718e0cbccccda1d81466cf"), looks := true }, kinds := [], alts := [], laidByText := true, laidKinds := [.data, .pinned], laidTests := true, laidLooks := .later }
def StateExpectsCardSaid : Prop := Claim7.holds Tryd.pinned (.plain (OpenSpec.ofChange stateExpectsSpec)) stateExpectsCard

/-- THE TIED CARD OF 'bucketlinelaw15.StateReads'. -/
def stateReadsCard : Claim7 := { stood := { row := stateReadsRow, standIns := [], harness := (true, "4b0e0b5efd8ef317f41a54edc30ddadd0782f787a6718e0cbccccda1d81466cf"), looks := true }, kinds := [], alts := [], laidByText := true, laidKinds := [.data, .pinned], laidTests := true, laidLooks := .later }
def StateReadsCardSaid : Prop := Claim7.holds Tryd.pinned (.plain (OpenSpec.ofChange stateReadsSpec)) stateReadsCard

/-- THE TIED CARD OF 'bucketlinelaw15.StateApart'. -/
def stateApartCard : Claim7 := { stood := { row := stateApartRow, standIns := [], harness := (true, "4b0e0b5efd8ef317f41a54edc30ddadd0782f787a6718e0cbccccda1d81466cf"), looks := true }, kinds := [], alts := [], laidByText := true, laidKinds := [.data, .pinned], laidTests := true, laidLooks := .later }
def StateApartCardSaid : Prop := Claim7.holds Tryd.pinned (.plain (OpenSpec.ofChange stateApartSpec)) stateApartCard

/-- THE SECOND FORM's CARD OF 'bucketlinelaw15.StateOnce'. -/
def stateOnceUptoCard : Claim7 := { stood := { row := stateOnceUptoRow, standIns := [], harness := (true, "4b0e0b5efd8ef317f41a54edc30ddadd0782f787a6718e0cbccccda1d81466cf"), looks := true }, kinds := [], alts := [], laidByText := true, laidKinds := [.data, .pinned], laidTests := true, laidLooks := .later }
def StateOnceUptoCardSaid : Prop := Claim7.holds Tryd.pinned (.plain (OpenSpec.upto stateOnceSpec)) stateOnceUptoCard

/-- THE SECOND FORM's CARD OF 'bucketlinelaw15.StateExpects'. -/
def stateExpectsUptoCard : Claim7 := { stood := { row := stateExpectsUptoRow, standIns := [], harness := (true, "4b0e0b5efd8ef317f41a54edc30ddadd0782f787a6718e0cbccccda1d81466cf"), looks := true }, kinds := [], alts := [], laidByText := true, laidKinds := [.data, .pinned], laidTests := true, laidLooks := .later }
def StateExpectsUptoCardSaid : Prop := Claim7.holds Tryd.pinned (.plain (OpenSpec.upto stateExpectsSpec)) stateExpectsUptoCard

/-- THE SECOND FORM's CARD OF 'bucketlinelaw15.StateReads'. -/
def stateReadsUptoCard : Claim7 := { stood := { row := stateReadsUptoRow, standIns := [], harness := (true, "4b0e0b5efd8ef317f41a54edc30ddadd0782f787a6718e0cbccccda1d81466cf"), looks := true }, kinds := [], alts := [], laidByText := true, laidKinds := [.data, .pinned], laidTests := true, laidLooks := .later }
def StateReadsUptoCardSaid : Prop := Claim7.holds Tryd.pinned (.plain (OpenSpec.upto stateReadsSpec)) stateReadsUptoCard

/-- THE SECOND FORM's CARD OF 'bucketlinelaw15.StateApart'. -/
def stateApartUptoCard : Claim7 := { stood := { row := stateApartUptoRow, standIns := [], harness := (true, "4b0e0b5efd8ef317f41a54edc30ddadd0782f787a6718e0cbccccda1d81466cf"), looks := true }, kinds := [], alts := [], laidByText := true, laidKinds := [.data, .pinned], laidTests := true, laidLooks := .later }
def StateApartUptoCardSaid : Prop := Claim7.holds Tryd.pinned (.plain (OpenSpec.upto stateApartSpec)) stateApartUptoCard
end Rows
end Go.Proofs.YtlfhokcjbgpjhaaDoor
