/-
  NARROWER THAN 'FOR EVERY INPUT', by the rows' own cells (each row's printed sentence says how): HistoryPlaces: laid · HistoryTells: laid · HistoryGrows: laid · HistoryLost: laid.
  DERIVED. THE GIVEN ROWS OF THIS SEAT. 4 by the template 'for every input the law returns true; each argument reads behind the call as it read before'; 0 by the template 'total and deterministic' (their statements: YthdcnknjjbdefaaGreatDoorTotals.lean).
  GIVEN WITH THE SEED: the statements are not yours to turn. If you find one false, say at which input.
  Laid BY PROGRAM, IN A SANDBOX (cutbox-rows.mjs): the forced cells as the released guide's own fill.sh prints them over the translation 384bd7f5b2356f8f… (all of the seat's roots in one cut). By AI agents, Wed Nov 11 2026. No macro, syntax, notation, axiom, sorry.
-/
import Derived.Test.YthdcnknjjbdefaaGreatDoorChecked
import GoSem.PinnedTables
import GoSem.Claim
import GoSem.ClaimJoined
import GoSem.ClaimMapViews
import Derived.JoinedTies
import Derived.KernelRfl
namespace Go.Proofs.YthdcnknjjbdefaaGreatDoor
/- THE CELL 'sum', in the pinned program and in every row, IS THE sha256 OF THE DUMP (.gsa) THAT YthdcnknjjbdefaaGreatDoorProg.lean LOADS. Nothing in Lean hashes anything: it is a label: what it is worth is what the hold of that sum in a sandbox is worth. -/
noncomputable def Tryz.pinned : Pinned := { name := "ythdcnknjjbdefaagreatdoor", sum := "384bd7f5b2356f8f4888e3fe89c6d0c4ec43d44a90e0a3528218e009b95da562", checked := Tryz.checked }
namespace Rows
def none {H : Type} : Left H := { results := [], args := [] }

/- WHAT THE LISTED PACKAGE-LEVEL VARIABLES READ AS WHEN THE CALL BEGINS. Each datum BY PROGRAM (the guide's laid-datum.mjs) off the statement by which the dump's own 'gosem.cut.vars' lays the variable. In a bare row this is a premise. The card (YthdcnknjjbdefaaGreatDoorCards.lean) ties it to the program's text. -/
def laid_unicode_utf8_acceptRanges {H : Type} : DataW H := .agg [.agg [.lit (.int .u8 128), .lit (.int .u8 191)], .agg [.lit (.int .u8 160), .lit (.int .u8 191)], .agg [.lit (.int .u8 128), .lit (.int .u8 159)], .agg [.lit (.int .u8 144), .lit (.int .u8 191)], .agg [.lit (.int .u8 128), .lit (.int .u8 143)], .agg [.lit (.int .u8 0), .lit (.int .u8 0)], .agg [.lit (.int .u8 0), .lit (.int .u8 0)], .agg [.lit (.int .u8 0), .lit (.int .u8 0)], .agg [.lit (.int .u8 0), .lit (.int .u8 0)], .agg [.lit (.int .u8 0), .lit (.int .u8 0)], .agg [.lit (.int .u8 0), .lit (.int .u8 0)], .agg [.lit (.int .u8 0), .lit (.int .u8 0)], .agg [.lit (.int .u8 0), .lit (.int .u8 0)], .agg [.lit (.int .u8 0), .lit (.int .u8 0)], .agg [.lit (.int .u8 0), .lit (.int .u8 0)], .agg [.lit (.int .u8 0), .lit (.int .u8 0)]]
/-- One of Go's own tables, pinned by name: the form's constant. -/
def laid_unicode_utf8_first : DataW Unit := Go.Pinned.utf8First

/-- 'bucketlinelaw23.HistoryPlaces': WHATEVER THE INPUT: true; the input reads as it did. -/
def historyPlacesSpec : ChangeSpec := { name := "historyPlaces", fn := fun _ => fun
  | [d1, d2] => { results := [.lit (.bool true)], args := [d1, d2] }
  | _ => none }
def historyPlacesRow : OpenClaim := { program := "ythdcnknjjbdefaagreatdoor", sum := "384bd7f5b2356f8f4888e3fe89c6d0c4ec43d44a90e0a3528218e009b95da562", func := "bucketline/bucketlinelaw23.HistoryPlaces", spec := "historyPlaces", inPlace := ["maps.clone"], unfollowed := true, recurses := true, named := ["unicode/utf8.first", "unicode/utf8.acceptRanges"], apart := false, laid := [("unicode/utf8.acceptRanges", laid_unicode_utf8_acceptRanges), ("unicode/utf8.first", laid_unicode_utf8_first)] }
def HistoryPlacesSaid : Prop := historyPlacesRow.holds Tryz.pinned (OpenSpec.ofChange historyPlacesSpec)

/-- ITS FALSE NEIGHBOUR: 'it returns false'. Refute it at one input. -/
def historyPlacesWrong : ChangeSpec := { name := "historyPlaces", fn := fun _ => fun
  | [d1, d2] => { results := [.lit (.bool false)], args := [d1, d2] }
  | _ => none }
def HistoryPlacesWrongFalsely : Prop := historyPlacesRow.holds Tryz.pinned (OpenSpec.ofChange historyPlacesWrong)

/-- 'bucketlinelaw23.HistoryTells': WHATEVER THE INPUT: true; the input reads as it did. -/
def historyTellsSpec : ChangeSpec := { name := "historyTells", fn := fun _ => fun
  | [d1, d2] => { results := [.lit (.bool true)], args := [d1, d2] }
  | _ => none }
def historyTellsRow : OpenClaim := { program := "ythdcnknjjbdefaagreatdoor", sum := "384bd7f5b2356f8f4888e3fe89c6d0c4ec43d44a90e0a3528218e009b95da562", func := "bucketline/bucketlinelaw23.HistoryTells", spec := "historyTells", inPlace := ["maps.clone"], unfollowed := true, recurses := true, named := ["unicode/utf8.first", "unicode/utf8.acceptRanges"], apart := false, laid := [("unicode/utf8.acceptRanges", laid_unicode_utf8_acceptRanges), ("unicode/utf8.first", laid_unicode_utf8_first)] }
def HistoryTellsSaid : Prop := historyTellsRow.holds Tryz.pinned (OpenSpec.ofChange historyTellsSpec)

/-- ITS FALSE NEIGHBOUR: 'it returns false'. Refute it at one input. -/
def historyTellsWrong : ChangeSpec := { name := "historyTells", fn := fun _ => fun
  | [d1, d2] => { results := [.lit (.bool false)], args := [d1, d2] }
  | _ => none }
def HistoryTellsWrongFalsely : Prop := historyTellsRow.holds Tryz.pinned (OpenSpec.ofChange historyTellsWrong)

/-- 'bucketlinelaw23.HistoryGrows': WHATEVER THE INPUT: true; the input reads as it did. -/
def historyGrowsSpec : ChangeSpec := { name := "historyGrows", fn := fun _ => fun
  | [d1, d2, d3] => { results := [.lit (.bool true)], args := [d1, d2, d3] }
  | _ => none }
def historyGrowsRow : OpenClaim := { program := "ythdcnknjjbdefaagreatdoor", sum := "384bd7f5b2356f8f4888e3fe89c6d0c4ec43d44a90e0a3528218e009b95da562", func := "bucketline/bucketlinelaw23.HistoryGrows", spec := "historyGrows", inPlace := ["maps.clone"], unfollowed := true, recurses := true, named := ["unicode/utf8.first", "unicode/utf8.acceptRanges"], apart := false, laid := [("unicode/utf8.acceptRanges", laid_unicode_utf8_acceptRanges), ("unicode/utf8.first", laid_unicode_utf8_first)] }
def HistoryGrowsSaid : Prop := historyGrowsRow.holds Tryz.pinned (OpenSpec.ofChange historyGrowsSpec)

/-- ITS FALSE NEIGHBOUR: 'it returns false'. Refute it at one input. -/
def historyGrowsWrong : ChangeSpec := { name := "historyGrows", fn := fun _ => fun
  | [d1, d2, d3] => { results := [.lit (.bool false)], args := [d1, d2, d3] }
  | _ => none }
def HistoryGrowsWrongFalsely : Prop := historyGrowsRow.holds Tryz.pinned (OpenSpec.ofChange historyGrowsWrong)

/-- 'bucketlinelaw23.HistoryLost': WHATEVER THE INPUT: true; the input reads as it did. -/
def historyLostSpec : ChangeSpec := { name := "historyLost", fn := fun _ => fun
  | [d1, d2, d3] => { results := [.lit (.bool true)], args := [d1, d2, d3] }
  | _ => none }
def historyLostRow : OpenClaim := { program := "ythdcnknjjbdefaagreatdoor", sum := "384bd7f5b2356f8f4888e3fe89c6d0c4ec43d44a90e0a3528218e009b95da562", func := "bucketline/bucketlinelaw23.HistoryLost", spec := "historyLost", inPlace := ["maps.clone"], unfollowed := true, recurses := true, named := ["unicode/utf8.first", "unicode/utf8.acceptRanges"], apart := false, laid := [("unicode/utf8.acceptRanges", laid_unicode_utf8_acceptRanges), ("unicode/utf8.first", laid_unicode_utf8_first)] }
def HistoryLostSaid : Prop := historyLostRow.holds Tryz.pinned (OpenSpec.ofChange historyLostSpec)

/-- ITS FALSE NEIGHBOUR: 'it returns false'. Refute it at one input. -/
def historyLostWrong : ChangeSpec := { name := "historyLost", fn := fun _ => fun
  | [d1, d2, d3] => { results := [.lit (.bool false)], args := [d1, d2, d3] }
  | _ => none }
def HistoryLostWrongFalsely : Prop := historyLostRow.holds Tryz.pinned (OpenSpec.ofChange historyLostWrong)

/- THE SECOND FORM. 'bulk': how many values and letters a reading holds, each counted each time it is reached (what is shared counts as often as it is met; a slice's spare places count too). A statement '..UptoSaid' is the law's where the arguments, and the package variables that the reading takes, are together of bulk at most 1048576: NARROWER than '..Said'. Prove '..Said' where nothing that the law and all that it calls make is longer than what came in: it says more and counts as full. Else prove '..UptoSaid'. A law counts once. -/
mutual
def uptoBulk {H : Type} : DataW H → Nat
  | .lit (.string bytes) => bytes.length + 1
  | .lit _ => 1
  | .nil => 1
  | .ptr d => uptoBulk d + 1
  | .slice elems spare => uptoBulkAll elems + uptoBulkAll spare + 1
  | .agg parts => uptoBulkAll parts + 1
  | .iface _ d => uptoBulk d + 1
  | .map entries => uptoBulkEntries entries + 1
  | .held _ => 1
def uptoBulkAll {H : Type} : List (DataW H) → Nat
  | [] => 0
  | d :: r => uptoBulk d + uptoBulkAll r
def uptoBulkEntries {H : Type} : List (Lit × DataW H) → Nat
  | [] => 0
  | x :: r => uptoBulkEntry x + uptoBulkEntries r
def uptoBulkEntry {H : Type} : Lit × DataW H → Nat
  | (.string bytes, d) => bytes.length + uptoBulk d + 1
  | (_, d) => uptoBulk d + 1
 end
def uptoSmall : (H : Type) → List (DataW H) → Bool := fun _ ds => decide (uptoBulkAll ds ≤ 1048576)
def OpenSpec.upto (s : _root_.Go.ChangeSpec) : _root_.Go.OpenSpec := { _root_.Go.OpenSpec.ofChange s with cond := some uptoSmall }

/-- 'bucketlinelaw23.HistoryPlaces', WHERE WHAT IT READS IS OF BULK AT MOST 1048576: true; the input reads as it did. -/
def historyPlacesUptoRow : OpenClaim := { program := "ythdcnknjjbdefaagreatdoor", sum := "384bd7f5b2356f8f4888e3fe89c6d0c4ec43d44a90e0a3528218e009b95da562", func := "bucketline/bucketlinelaw23.HistoryPlaces", spec := "historyPlaces", inPlace := ["maps.clone"], unfollowed := true, recurses := true, named := ["unicode/utf8.first", "unicode/utf8.acceptRanges"], apart := false, laid := [("unicode/utf8.acceptRanges", laid_unicode_utf8_acceptRanges), ("unicode/utf8.first", laid_unicode_utf8_first)], narrowed := true }
def HistoryPlacesUptoSaid : Prop := historyPlacesUptoRow.holds Tryz.pinned (OpenSpec.upto historyPlacesSpec)

/-- 'bucketlinelaw23.HistoryTells', WHERE WHAT IT READS IS OF BULK AT MOST 1048576: true; the input reads as it did. -/
def historyTellsUptoRow : OpenClaim := { program := "ythdcnknjjbdefaagreatdoor", sum := "384bd7f5b2356f8f4888e3fe89c6d0c4ec43d44a90e0a3528218e009b95da562", func := "bucketline/bucketlinelaw23.HistoryTells", spec := "historyTells", inPlace := ["maps.clone"], unfollowed := true, recurses := true, named := ["unicode/utf8.first", "unicode/utf8.acceptRanges"], apart := false, laid := [("unicode/utf8.acceptRanges", laid_unicode_utf8_acceptRanges), ("unicode/utf8.first", laid_unicode_utf8_first)], narrowed := true }
def HistoryTellsUptoSaid : Prop := historyTellsUptoRow.holds Tryz.pinned (OpenSpec.upto historyTellsSpec)

/-- 'bucketlinelaw23.HistoryGrows', WHERE WHAT IT READS IS OF BULK AT MOST 1048576: true; the input reads as it did. -/
def historyGrowsUptoRow : OpenClaim := { program := "ythdcnknjjbdefaagreatdoor", sum := "384bd7f5b2356f8f4888e3fe89c6d0c4ec43d44a90e0a3528218e009b95da562", func := "bucketline/bucketlinelaw23.HistoryGrows", spec := "historyGrows", inPlace := ["maps.clone"], unfollowed := true, recurses := true, named := ["unicode/utf8.first", "unicode/utf8.acceptRanges"], apart := false, laid := [("unicode/utf8.acceptRanges", laid_unicode_utf8_acceptRanges), ("unicode/utf8.first", laid_unicode_utf8_first)], narrowed := true }
def HistoryGrowsUptoSaid : Prop := historyGrowsUptoRow.holds Tryz.pinned (OpenSpec.upto historyGrowsSpec)

/-- 'bucketlinelaw23.HistoryLost', WHERE WHAT IT READS IS OF BULK AT MOST 1048576: true; the input reads as it did. -/
def historyLostUptoRow : OpenClaim := { program := "ythdcnknjjbdefaagreatdoor", sum := "384bd7f5b2356f8f4888e3fe89c6d0c4ec43d44a90e0a3528218e009b95da562", func := "bucketline/bucketlinelaw23.HistoryLost", spec := "historyLost", inPlace := ["maps.clone"], unfollowed := true, recurses := true, named := ["unicode/utf8.first", "unicode/utf8.acceptRanges"], apart := false, laid := [("unicode/utf8.acceptRanges", laid_unicode_utf8_acceptRanges), ("unicode/utf8.first", laid_unicode_utf8_first)], narrowed := true }
def HistoryLostUptoSaid : Prop := historyLostUptoRow.holds Tryz.pinned (OpenSpec.upto historyLostSpec)

end Rows
end Go.Proofs.YthdcnknjjbdefaaGreatDoor
