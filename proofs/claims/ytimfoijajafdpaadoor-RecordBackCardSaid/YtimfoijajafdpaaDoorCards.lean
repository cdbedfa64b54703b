/-
  DERIVED. GIVEN WITH THE SEED: THE CARDS: each row of YtimfoijajafdpaaDoorRows.lean that lists a variable, with what it lists TIED to the program's text (the seventh form; the later family's looks); each row that meets fmt, with fmt's text TOLD by the authors' own Lean function (tested against real Go, not proved from fmt's source: count such statements apart). THE CARD IS WHAT COUNTS. Prove the row's statement (the work); the ties are given (YtimfoijajafdpaaDoorTie.lean); close each card by the builder's one call (the guide's Derived/Test/ToyasCard.lean, 'card_holds'). Laid BY PROGRAM, IN A SANDBOX (cutbox-door.mjs). By AI agents, Wed Nov 11 2026. No macro, syntax, notation, axiom, sorry.
-/
import Derived.Test.YtimfoijajafdpaaDoorRows
import GoSem.ClaimSeven
namespace Go.Proofs.YtimfoijajafdpaaDoor
namespace Rows

/-- THE TIED CARD OF 'bucketlinelaw6.RecordForks'. -/
def recordForksCard : Claim7 := { stood := { row := recordForksRow, standIns := [], harness := (true, "b09531c8239b63af35335fca1d74ffb332c7be4b716212492a28bbdeae392874"), looks := false }, kinds := [], alts := [], laidByText := true, laidKinds := [.data, .pinned], laidTests := true, laidLooks := .later }
def RecordForksCardSaid : Prop := Claim7.holds Tryd.pinned (.plain (OpenSpec.ofChange recordForksSpec)) recordForksCard

/-- THE TIED CARD OF 'bucketlinelaw6.RecordMarks'. -/
def recordMarksCard : Claim7 := { stood := { row := recordMarksRow, standIns := [], harness := (true, "b09531c8239b63af35335fca1d74ffb332c7be4b716212492a28bbdeae392874"), looks := false }, kinds := [], alts := [], laidByText := true, laidKinds := [.data, .pinned], laidTests := true, laidLooks := .later }
def RecordMarksCardSaid : Prop := Claim7.holds Tryd.pinned (.plain (OpenSpec.ofChange recordMarksSpec)) recordMarksCard

/-- THE TIED CARD OF 'bucketlinelaw6.RecordCuts'. -/
def recordCutsCard : Claim7 := { stood := { row := recordCutsRow, standIns := [], harness := (true, "b09531c8239b63af35335fca1d74ffb332c7be4b716212492a28bbdeae392874"), looks := false }, kinds := [], alts := [], laidByText := true, laidKinds := [.data, .pinned], laidTests := true, laidLooks := .later }
def RecordCutsCardSaid : Prop := Claim7.holds Tryd.pinned (.plain (OpenSpec.ofChange recordCutsSpec)) recordCutsCard

/-- THE TIED CARD OF 'bucketlinelaw6.RecordPuts'. -/
def recordPutsCard : Claim7 := { stood := { row := recordPutsRow, standIns := [], harness := (true, "b09531c8239b63af35335fca1d74ffb332c7be4b716212492a28bbdeae392874"), looks := false }, kinds := [], alts := [], laidByText := true, laidKinds := [.data, .pinned], laidTests := true, laidLooks := .later }
def RecordPutsCardSaid : Prop := Claim7.holds Tryd.pinned (.plain (OpenSpec.ofChange recordPutsSpec)) recordPutsCard

/-- THE TIED CARD OF 'bucketlinelaw6.RecordBack'. -/
def recordBackCard : Claim7 := { stood := { row := recordBackRow, standIns := [], harness := (true, "b09531c8239b63af35335fca1d74ffb332c7be4b716212492a28bbdeae392874"), looks := false }, kinds := [], alts := [], laidByText := true, laidKinds := [.data, .pinned], laidTests := true, laidLooks := .later }
def RecordBackCardSaid : Prop := Claim7.holds Tryd.pinned (.plain (OpenSpec.ofChange recordBackSpec)) recordBackCard

/-- THE SECOND FORM's CARD OF 'bucketlinelaw6.RecordForks'. -/
def recordForksUptoCard : Claim7 := { stood := { row := recordForksUptoRow, standIns := [], harness := (true, "b09531c8239b63af35335fca1d74ffb332c7be4b716212492a28bbdeae392874"), looks := false }, kinds := [], alts := [], laidByText := true, laidKinds := [.data, .pinned], laidTests := true, laidLooks := .later }
def RecordForksUptoCardSaid : Prop := Claim7.holds Tryd.pinned (.plain (OpenSpec.upto recordForksSpec)) recordForksUptoCard

/-- THE SECOND FORM's CARD OF 'bucketlinelaw6.RecordMarks'. -/
def recordMarksUptoCard : Claim7 := { stood := { row := recordMarksUptoRow, standIns := [], harness := (true, "b09531c8239b63af35335fca1d74ffb332c7be4b716212492a28bbdeae392874"), looks := false }, kinds := [], alts := [], laidByText := true, laidKinds := [.data, .pinned], laidTests := true, laidLooks := .later }
def RecordMarksUptoCardSaid : Prop := Claim7.holds Tryd.pinned (.plain (OpenSpec.upto recordMarksSpec)) recordMarksUptoCard

/-- THE SECOND FORM's CARD OF 'bucketlinelaw6.RecordCuts'. -/
def recordCutsUptoCard : Claim7 := { stood := { row := recordCutsUptoRow, standIns := [], harness := (true, "b09531c8239b63af35335fca1d74ffb332c7be4b716212492a28bbdeae392874"), looks := false }, kinds := [], alts := [], laidByText := true, laidKinds := [.data, .pinned], laidTests := true, laidLooks := .later }
def RecordCutsUptoCardSaid : Prop := Claim7.holds Tryd.pinned (.plain (OpenSpec.upto recordCutsSpec)) recordCutsUptoCard

/-- THE SECOND FORM's CARD OF 'bucketlinelaw6.RecordPuts'. -/
def recordPutsUptoCard : Claim7 := { stood := { row := recordPutsUptoRow, standIns := [], harness := (true, "b09531c8239b63af35335fca1d74ffb332c7be4b716212492a28bbdeae392874"), looks := false }, kinds := [], alts := [], laidByText := true, laidKinds := [.data, .pinned], laidTests := true, laidLooks := .later }
def RecordPutsUptoCardSaid : Prop := Claim7.holds Tryd.pinned (.plain (OpenSpec.upto recordPutsSpec)) recordPutsUptoCard

/-- THE SECOND FORM's CARD OF 'bucketlinelaw6.RecordBack'. -/
def recordBackUptoCard : Claim7 := { stood := { row := recordBackUptoRow, standIns := [], harness := (true, "b09531c8239b63af35335fca1d74ffb332c7be4b716212492a28bbdeae392874"), looks := false }, kinds := [], alts := [], laidByText := true, laidKinds := [.data, .pinned], laidTests := true, laidLooks := .later }
def RecordBackUptoCardSaid : Prop := Claim7.holds Tryd.pinned (.plain (OpenSpec.upto recordBackSpec)) recordBackUptoCard
end Rows
end Go.Proofs.YtimfoijajafdpaaDoor
