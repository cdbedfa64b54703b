/-
  DERIVED. GIVEN WITH THE SEED: THE CARDS: each row of YthebmbhdlkldiaaGreatDoorRows.lean that lists a variable, with what it lists TIED to the program's text (the seventh form; the later family's looks); each row that meets fmt, with fmt's text TOLD by the authors' own Lean function (tested against real Go, not proved from fmt's source: count such statements apart). THE CARD IS WHAT COUNTS. Prove the row's statement (the work); the ties are given (YthebmbhdlkldiaaGreatDoorTie.lean); close each card by the builder's one call (the guide's Derived/Test/ToyasCard.lean, 'card_holds'). Laid BY PROGRAM, IN A SANDBOX (cutbox-door.mjs). By AI agents, Wed Nov 11 2026. No macro, syntax, notation, axiom, sorry.
-/
import Derived.Test.YthebmbhdlkldiaaGreatDoorRows
import GoSem.ClaimSeven
namespace Go.Proofs.YthebmbhdlkldiaaGreatDoor
namespace Rows

/-- THE TIED CARD OF 'bucketlinelaw16.SnapshotPuts'. -/
def snapshotPutsCard : Claim7 := { stood := { row := snapshotPutsRow, standIns := [], harness := (true, "ae562acea02fd279475e82bb747bbd4d2d30383f102e537dff7973bb83de693e"), looks := false }, kinds := [], alts := [], laidByText := true, laidKinds := [.data, .pinned], laidTests := true, laidLooks := .later }
def SnapshotPutsCardSaid : Prop := Claim7.holds Tryz.pinned (.plain (OpenSpec.ofChange snapshotPutsSpec)) snapshotPutsCard

/-- THE TIED CARD OF 'bucketlinelaw16.SnapshotGoes'. -/
def snapshotGoesCard : Claim7 := { stood := { row := snapshotGoesRow, standIns := [], harness := (true, "ae562acea02fd279475e82bb747bbd4d2d30383f102e537dff7973bb83de693e"), looks := false }, kinds := [], alts := [], laidByText := true, laidKinds := [.data, .pinned], laidTests := true, laidLooks := .later }
def SnapshotGoesCardSaid : Prop := Claim7.holds Tryz.pinned (.plain (OpenSpec.ofChange snapshotGoesSpec)) snapshotGoesCard

/-- THE TIED CARD OF 'bucketlinelaw16.SnapshotUnlike'. -/
def snapshotUnlikeCard : Claim7 := { stood := { row := snapshotUnlikeRow, standIns := [], harness := (true, "ae562acea02fd279475e82bb747bbd4d2d30383f102e537dff7973bb83de693e"), looks := false }, kinds := [], alts := [], laidByText := true, laidKinds := [.data, .pinned], laidTests := true, laidLooks := .later }
def SnapshotUnlikeCardSaid : Prop := Claim7.holds Tryz.pinned (.plain (OpenSpec.ofChange snapshotUnlikeSpec)) snapshotUnlikeCard

/-- THE TIED CARD OF 'bucketlinelaw16.SnapshotKeeps'. -/
def snapshotKeepsCard : Claim7 := { stood := { row := snapshotKeepsRow, standIns := [], harness := (true, "ae562acea02fd279475e82bb747bbd4d2d30383f102e537dff7973bb83de693e"), looks := false }, kinds := [], alts := [], laidByText := true, laidKinds := [.data, .pinned], laidTests := true, laidLooks := .later }
def SnapshotKeepsCardSaid : Prop := Claim7.holds Tryz.pinned (.plain (OpenSpec.ofChange snapshotKeepsSpec)) snapshotKeepsCard

/-- THE SECOND FORM's CARD OF 'bucketlinelaw16.SnapshotPuts'. -/
def snapshotPutsUptoCard : Claim7 := { stood := { row := snapshotPutsUptoRow, standIns := [], harness := (true, "ae562acea02fd279475e82bb747bbd4d2d30383f102e537dff7973bb83de693e"), looks := false }, kinds := [], alts := [], laidByText := true, laidKinds := [.data, .pinned], laidTests := true, laidLooks := .later }
def SnapshotPutsUptoCardSaid : Prop := Claim7.holds Tryz.pinned (.plain (OpenSpec.upto snapshotPutsSpec)) snapshotPutsUptoCard

/-- THE SECOND FORM's CARD OF 'bucketlinelaw16.SnapshotGoes'. -/
def snapshotGoesUptoCard : Claim7 := { stood := { row := snapshotGoesUptoRow, standIns := [], harness := (true, "ae562acea02fd279475e82bb747bbd4d2d30383f102e537dff7973bb83de693e"), looks := false }, kinds := [], alts := [], laidByText := true, laidKinds := [.data, .pinned], laidTests := true, laidLooks := .later }
def SnapshotGoesUptoCardSaid : Prop := Claim7.holds Tryz.pinned (.plain (OpenSpec.upto snapshotGoesSpec)) snapshotGoesUptoCard

/-- THE SECOND FORM's CARD OF 'bucketlinelaw16.SnapshotUnlike'. -/
def snapshotUnlikeUptoCard : Claim7 := { stood := { row := snapshotUnlikeUptoRow, standIns := [], harness := (true, "ae562acea02fd279475e82bb747bbd4d2d30383f102e537dff7973bb83de693e"), looks := false }, kinds := [], alts := [], laidByText := true, laidKinds := [.data, .pinned], laidTests := true, laidLooks := .later }
def SnapshotUnlikeUptoCardSaid : Prop := Claim7.holds Tryz.pinned (.plain (OpenSpec.upto snapshotUnlikeSpec)) snapshotUnlikeUptoCard

/-- THE SECOND FORM's CARD OF 'bucketlinelaw16.SnapshotKeeps'. -/
def snapshotKeepsUptoCard : Claim7 := { stood := { row := snapshotKeepsUptoRow, standIns := [], harness := (true, "ae562acea02fd279475e82bb747bbd4d2d30383f102e537dff7973bb83de693e"), looks := false }, kinds := [], alts := [], laidByText := true, laidKinds := [.data, .pinned], laidTests := true, laidLooks := .later }
def SnapshotKeepsUptoCardSaid : Prop := Claim7.holds Tryz.pinned (.plain (OpenSpec.upto snapshotKeepsSpec)) snapshotKeepsUptoCard
end Rows
end Go.Proofs.YthebmbhdlkldiaaGreatDoor
