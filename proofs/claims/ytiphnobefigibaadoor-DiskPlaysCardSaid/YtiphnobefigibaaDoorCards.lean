/-
  DERIVED. GIVEN WITH THE SEED: THE CARDS: each row of YtiphnobefigibaaDoorRows.lean that lists a variable, with what it lists TIED to the program's text (the seventh form; the later family's looks); each row that meets fmt, with fmt's text TOLD by the authors' own Lean function (tested against real Go, not proved from fmt's source: count such statements apart). THE CARD IS WHAT COUNTS. Prove the row's statement (the work); the ties are given (YtiphnobefigibaaDoorTie.lean); close each card by the builder's one call (the guide's Derived/Test/ToyasCard.lean, 'card_holds'). Laid BY PROGRAM, IN A SANDBOX (cutbox-door.mjs). By AI agents, Wed Nov 11 2026. No macro, syntax, notation, axiom, sorry.
-/
import Derived.Test.YtiphnobefigibaaDoorRows
import GoSem.ClaimSeven
namespace Go.Proofs.YtiphnobefigibaaDoor
namespace Rows

/-- THE TIED CARD OF 'bucketlinelaw8.DiskRoom'. -/
def diskRoomCard : Claim7 := { stood := { row := diskRoomRow, standIns := [], harness := (true, "30aec1a5921f174d041e0ce9b3dd2764e025403541371f25b7d0b9ed04833604"), looks := false }, kinds := [], alts := [], laidByText := true, laidKinds := [.data, .pinned], laidTests := true, laidLooks := .later }
def DiskRoomCardSaid : Prop := Claim7.holds Tryd.pinned (.plain (OpenSpec.ofChange diskRoomSpec)) diskRoomCard

/-- THE TIED CARD OF 'bucketlinelaw8.DiskPlays'. -/
def diskPlaysCard : Claim7 := { stood := { row := diskPlaysRow, standIns := [], harness := (true, "30aec1a5921f174d041e0ce9b3dd2764e025403541371f25b7d0b9ed04833604"), looks := false }, kinds := [], alts := [], laidByText := true, laidKinds := [.data, .pinned], laidTests := true, laidLooks := .later }
def DiskPlaysCardSaid : Prop := Claim7.holds Tryd.pinned (.plain (OpenSpec.ofChange diskPlaysSpec)) diskPlaysCard

/-- THE TIED CARD OF 'bucketlinelaw8.DiskKeeps'. -/
def diskKeepsCard : Claim7 := { stood := { row := diskKeepsRow, standIns := [], harness := (true, "30aec1a5921f174d041e0ce9b3dd2764e025403541371f25b7d0b9ed04833604"), looks := false }, kinds := [], alts := [], laidByText := true, laidKinds := [.data, .pinned], laidTests := true, laidLooks := .later }
def DiskKeepsCardSaid : Prop := Claim7.holds Tryd.pinned (.plain (OpenSpec.ofChange diskKeepsSpec)) diskKeepsCard

/-- THE TIED CARD OF 'bucketlinelaw8.DiskRefuses'. -/
def diskRefusesCard : Claim7 := { stood := { row := diskRefusesRow, standIns := [], harness := (true, "30aec1a5921f174d041e0ce9b3dd2764e025403541371f25b7d0b9ed04833604"), looks := false }, kinds := [], alts := [], laidByText := true, laidKinds := [.data, .pinned], laidTests := true, laidLooks := .later }
def DiskRefusesCardSaid : Prop := Claim7.holds Tryd.pinned (.plain (OpenSpec.ofChange diskRefusesSpec)) diskRefusesCard

/-- THE TIED CARD OF 'bucketlinelaw8.DiskMoves'. -/
def diskMovesCard : Claim7 := { stood := { row := diskMovesRow, standIns := [], harness := (true, "30aec1a5921f174d041e0ce9b3dd2764e025403541371f25b7d0b9ed04833604"), looks := false }, kinds := [], alts := [], laidByText := true, laidKinds := [.data, .pinned], laidTests := true, laidLooks := .later }
def DiskMovesCardSaid : Prop := Claim7.holds Tryd.pinned (.plain (OpenSpec.ofChange diskMovesSpec)) diskMovesCard

/-- THE TIED CARD OF 'bucketlinelaw8.DiskTwice'. -/
def diskTwiceCard : Claim7 := { stood := { row := diskTwiceRow, standIns := [], harness := (true, "30aec1a5921f174d041e0ce9b3dd2764e025403541371f25b7d0b9ed04833604"), looks := false }, kinds := [], alts := [], laidByText := true, laidKinds := [.data, .pinned], laidTests := true, laidLooks := .later }
def DiskTwiceCardSaid : Prop := Claim7.holds Tryd.pinned (.plain (OpenSpec.ofChange diskTwiceSpec)) diskTwiceCard

/-- THE SECOND FORM's CARD OF 'bucketlinelaw8.DiskRoom'. -/
def diskRoomUptoCard : Claim7 := { stood := { row := diskRoomUptoRow, standIns := [], harness := (true, "30aec1a5921f174d041e0ce9b3dd2764e025403541371f25b7d0b9ed04833604"), looks := false }, kinds := [], alts := [], laidByText := true, laidKinds := [.data, .pinned], laidTests := true, laidLooks := .later }
def DiskRoomUptoCardSaid : Prop := Claim7.holds Tryd.pinned (.plain (OpenSpec.upto diskRoomSpec)) diskRoomUptoCard

/-- THE SECOND FORM's CARD OF 'bucketlinelaw8.DiskPlays'. -/
def diskPlaysUptoCard : Claim7 := { stood := { row := diskPlaysUptoRow, standIns := [], harness := (true, "30aec1a5921f174d041e0ce9b3dd2764e025403541371f25b7d0b9ed04833604"), looks := false }, kinds := [], alts := [], laidByText := true, laidKinds := [.data, .pinned], laidTests := true, laidLooks := .later }
def DiskPlaysUptoCardSaid : Prop := Claim7.holds Tryd.pinned (.plain (OpenSpec.upto diskPlaysSpec)) diskPlaysUptoCard

/-- THE SECOND FORM's CARD OF 'bucketlinelaw8.DiskKeeps'. -/
def diskKeepsUptoCard : Claim7 := { stood := { row := diskKeepsUptoRow, standIns := [], harness := (true, "30aec1a5921f174d041e0ce9b3dd2764e025403541371f25b7d0b9ed04833604"), looks := false }, kinds := [], alts := [], laidByText := true, laidKinds := [.data, .pinned], laidTests := true, laidLooks := .later }
def DiskKeepsUptoCardSaid : Prop := Claim7.holds Tryd.pinned (.plain (OpenSpec.upto diskKeepsSpec)) diskKeepsUptoCard

/-- THE SECOND FORM's CARD OF 'bucketlinelaw8.DiskRefuses'. -/
def diskRefusesUptoCard : Claim7 := { stood := { row := diskRefusesUptoRow, standIns := [], harness := (true, "30aec1a5921f174d041e0ce9b3dd2764e025403541371f25b7d0b9ed04833604"), looks := false }, kinds := [], alts := [], laidByText := true, laidKinds := [.data, .pinned], laidTests := true, laidLooks := .later }
def DiskRefusesUptoCardSaid : Prop := Claim7.holds Tryd.pinned (.plain (OpenSpec.upto diskRefusesSpec)) diskRefusesUptoCard

/-- THE SECOND FORM's CARD OF 'bucketlinelaw8.DiskMoves'. -/
def diskMovesUptoCard : Claim7 := { stood := { row := diskMovesUptoRow, standIns := [], harness := (true, "30aec1a5921f174d041e0ce9b3dd2764e025403541371f25b7d0b9ed04833604"), looks := false }, kinds := [], alts := [], laidByText := true, laidKinds := [.data, .pinned], laidTests := true, laidLooks := .later }
def DiskMovesUptoCardSaid : Prop := Claim7.holds Tryd.pinned (.plain (OpenSpec.upto diskMovesSpec)) diskMovesUptoCard

/-- THE SECOND FORM's CARD OF 'bucketlinelaw8.DiskTwice'. -/
def diskTwiceUptoCard : Claim7 := { stood := { row := diskTwiceUptoRow, standIns := [], harness := (true, "30aec1a5921f174d041e0ce9b3dd2764e025403541371f25b7d0b9ed04833604"), looks := false }, kinds := [], alts := [], laidByText := true, laidKinds := [.data, .pinned], laidTests := true, laidLooks := .later }
def DiskTwiceUptoCardSaid : Prop := Claim7.holds Tryd.pinned (.plain (OpenSpec.upto diskTwiceSpec)) diskTwiceUptoCard
end Rows
end Go.Proofs.YtiphnobefigibaaDoor
