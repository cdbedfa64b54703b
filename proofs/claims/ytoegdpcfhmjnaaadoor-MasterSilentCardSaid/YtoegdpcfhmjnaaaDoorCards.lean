/-
  DERIVED. GIVEN WITH THE SEED: THE CARDS: each row of YtoegdpcfhmjnaaaDoorRows.lean that lists a variable, with what it lists TIED to the program's text (the seventh form; the later family's looks); each row that meets fmt, with fmt's text TOLD by the authors' own Lean function (tested against real Go, not proved from fmt's source: count such statements apart). THE CARD IS WHAT COUNTS. Prove the row's statement (the work); the ties are given (YtoegdpcfhmjnaaaDoorTie.lean); close each card by the builder's one call (the guide's Derived/Test/ToyasCard.lean, 'card_holds'). Laid BY PROGRAM, IN A SANDBOX (cutbox-door.mjs). By AI agents, Wed Nov 11 2026. No macro, syntax, notation, axiom, sorry.
-/
import Derived.Test.YtoegdpcfhmjnaaaDoorRows
import GoSem.ClaimSeven
namespace Go.Proofs.YtoegdpcfhmjnaaaDoor
namespace Rows

/-- THE TIED CARD OF 'bucketlinelaw19.MasterSilent'. -/
def masterSilentCard : Claim7 := { stood := { row := masterSilentRow, standIns := [], harness := (true, "3ea31ab1648a3f657dd048b9f4c360e66b49a571bc29795197bf7967952ee424"), looks := true }, kinds := [], alts := [], laidByText := true, laidKinds := [.data, .pinned], laidTests := true, laidLooks := .later }
def MasterSilentCardSaid : Prop := Claim7.holds Tryd.pinned (.plain (OpenSpec.ofChange masterSilentSpec)) masterSilentCard

/-- THE SECOND FORM's CARD OF 'bucketlinelaw19.MasterSilent'. -/
def masterSilentUptoCard : Claim7 := { stood := { row := masterSilentUptoRow, standIns := [], harness := (true, "3ea31ab1648a3f657dd048b9f4c360e66b49a571bc29795197bf7967952ee424"), looks := true }, kinds := [], alts := [], laidByText := true, laidKinds := [.data, .pinned], laidTests := true, laidLooks := .later }
def MasterSilentUptoCardSaid : Prop := Claim7.holds Tryd.pinned (.plain (OpenSpec.upto masterSilentSpec)) masterSilentUptoCard
end Rows
end Go.Proofs.YtoegdpcfhmjnaaaDoor
