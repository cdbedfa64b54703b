/-
  NARROWER THAN 'FOR EVERY INPUT', by the rows' own cells (each row's printed sentence says how): SnapshotPuts: laid · SnapshotGoes: laid · SnapshotUnlike: laid · SnapshotKeeps: laid.
  DERIVED. THE GIVEN ROWS OF THIS SEAT. 4 by the template 'for every input the law returns true; each argument reads behind the call as it read before'; 0 by the template 'total and deterministic' (their statements: YthebmbhdlkldiaaGreatDoorTotals.lean).
  GIVEN WITH THE SEED: the statements are not yours to turn. If you find one false, say at which input.
  Laid BY PROGRAM, IN A SANDBOX (cutbox-rows.mjs): the forced cells as the released guide's own fill.sh prints them over the translation 7c5a96d7b7a8562a… (all of the seat's roots in one cut). By AI agents, Wed Nov 11 2026. No macro, syntax, notation, axiom, sorry.
-/
import Derived.Test.YthebmbhdlkldiaaGreatDoorChecked
import GoSem.PinnedTables
import GoSem.Claim
import GoSem.ClaimJoined
import GoSem.ClaimMapViews
import Derived.JoinedTies
import Derived.KernelRfl
namespace Go.Proofs.YthebmbhdlkldiaaGreatDoor
/- THE CELL 'sum', in the pinned program and in every row, IS THE sha256 OF THE DUMP (.gsa) THAT YthebmbhdlkldiaaGreatDoorProg.lean LOADS. Nothing in Lean hashes anything: it is a label: what it is worth is what the hold of that sum in a sandbox is worth. -/
noncomputable def Tryz.pinned : Pinned := { name := "ythebmbhdlkldiaagreatdoor", sum := "7c5a96d7b7a8562acf2a1bb965646e83edab3c2fa27e17facc060487eb466e18", checked := Tryz.checked }
namespace Rows
def none {H : Type} : Left H := { results := [], args := [] }

/- WHAT THE LISTED PACKAGE-LEVEL VARIABLES READ AS WHEN THE CALL BEGINS. Each datum BY PROGRAM (the guide's laid-datum.mjs) off the statement by which the dump's own 'gosem.cut.vars' lays the variable. In a bare row this is a premise. The card (YthebmbhdlkldiaaGreatDoorCards.lean) ties it to the program's text. -/
def laid_unicode_utf8_acceptRanges {H : Type} : DataW H := .agg [.agg [.lit (.int .u8 128), .lit (.int .u8 191)], .agg [.lit (.int .u8 160), .lit (.int .u8 191)], .agg [.lit (.int .u8 128), .lit (.int .u8 159)], .agg [.lit (.int .u8 144), .lit (.int .u8 191)], .agg [.lit (.int .u8 128), .lit (.int .u8 143)], .agg [.lit (.int .u8 0), .lit (.int .u8 0)], .agg [.lit (.int .u8 0), .lit (.int .u8 0)], .agg [.lit (.int .u8 0), .lit (.int .u8 0)], .agg [.lit (.int .u8 0), .lit (.int .u8 0)], .agg [.lit (.int .u8 0), .lit (.int .u8 0)], .agg [.lit (.int .u8 0), .lit (.int .u8 0)], .agg [.lit (.int .u8 0), .lit (.int .u8 0)], .agg [.lit (.int .u8 0), .lit (.int .u8 0)], .agg [.lit (.int .u8 0), .lit (.int .u8 0)], .agg [.lit (.int .u8 0), .lit (.int .u8 0)], .agg [.lit (.int .u8 0), .lit (.int .u8 0)]]
/-- One of Go's own tables, pinned by name: the form's constant. -/
def laid_unicode_utf8_first : DataW Unit := Go.Pinned.utf8First

/-- 'bucketlinelaw16.SnapshotPuts': WHATEVER THE INPUT: true; the input reads as it did. -/
def snapshotPutsSpec : ChangeSpec := { name := "snapshotPuts", fn := fun _ => fun
  | [d] => { results := [.lit (.bool true)], args := [d] }
  | _ => none }
def snapshotPutsRow : OpenClaim := { program := "ythebmbhdlkldiaagreatdoor", sum := "7c5a96d7b7a8562acf2a1bb965646e83edab3c2fa27e17facc060487eb466e18", func := "bucketline/bucketlinelaw16.SnapshotPuts", spec := "snapshotPuts", inPlace := ["internal/abi.NoEscape"], unfollowed := true, recurses := true, named := ["unicode/utf8.first", "unicode/utf8.acceptRanges"], apart := false, laid := [("unicode/utf8.acceptRanges", laid_unicode_utf8_acceptRanges), ("unicode/utf8.first", laid_unicode_utf8_first)] }
def SnapshotPutsSaid : Prop := snapshotPutsRow.holds Tryz.pinned (OpenSpec.ofChange snapshotPutsSpec)

/-- ITS FALSE NEIGHBOUR: 'it returns false'. Refute it at one input. -/
def snapshotPutsWrong : ChangeSpec := { name := "snapshotPuts", fn := fun _ => fun
  | [d] => { results := [.lit (.bool false)], args := [d] }
  | _ => none }
def SnapshotPutsWrongFalsely : Prop := snapshotPutsRow.holds Tryz.pinned (OpenSpec.ofChange snapshotPutsWrong)

/-- 'bucketlinelaw16.SnapshotGoes': WHATEVER THE INPUT: true; the input reads as it did. -/
def snapshotGoesSpec : ChangeSpec := { name := "snapshotGoes", fn := fun _ => fun
  | [d1, d2] => { results := [.lit (.bool true)], args := [d1, d2] }
  | _ => none }
def snapshotGoesRow : OpenClaim := { program := "ythebmbhdlkldiaagreatdoor", sum := "7c5a96d7b7a8562acf2a1bb965646e83edab3c2fa27e17facc060487eb466e18", func := "bucketline/bucketlinelaw16.SnapshotGoes", spec := "snapshotGoes", inPlace := ["internal/abi.NoEscape"], unfollowed := true, recurses := true, named := ["unicode/utf8.first", "unicode/utf8.acceptRanges"], apart := false, laid := [("unicode/utf8.acceptRanges", laid_unicode_utf8_acceptRanges), ("unicode/utf8.first", laid_unicode_utf8_first)] }
def SnapshotGoesSaid : Prop := snapshotGoesRow.holds Tryz.pinned (OpenSpec.ofChange snapshotGoesSpec)

/-- ITS FALSE NEIGHBOUR: 'it returns false'. Refute it at one input. -/
def snapshotGoesWrong : ChangeSpec := { name := "snapshotGoes", fn := fun _ => fun
  | [d1, d2] => { results := [.lit (.bool false)], args := [d1, d2] }
  | _ => none }
def SnapshotGoesWrongFalsely : Prop := snapshotGoesRow.holds Tryz.pinned (OpenSpec.ofChange snapshotGoesWrong)

/-- 'bucketlinelaw16.SnapshotUnlike': WHATEVER THE INPUT: true; the input reads as it did. -/
def snapshotUnlikeSpec : ChangeSpec := { name := "snapshotUnlike", fn := fun _ => fun
  | [d1, d2] => { results := [.lit (.bool true)], args := [d1, d2] }
  | _ => none }
def snapshotUnlikeRow : OpenClaim := { program := "ythebmbhdlkldiaagreatdoor", sum := "7c5a96d7b7a8562acf2a1bb965646e83edab3c2fa27e17facc060487eb466e18", func := "bucketline/bucketlinelaw16.SnapshotUnlike", spec := "snapshotUnlike", inPlace := ["internal/abi.NoEscape"], unfollowed := true, recurses := true, named := ["unicode/utf8.first", "unicode/utf8.acceptRanges"], apart := false, laid := [("unicode/utf8.acceptRanges", laid_unicode_utf8_acceptRanges), ("unicode/utf8.first", laid_unicode_utf8_first)] }
def SnapshotUnlikeSaid : Prop := snapshotUnlikeRow.holds Tryz.pinned (OpenSpec.ofChange snapshotUnlikeSpec)

/-- ITS FALSE NEIGHBOUR: 'it returns false'. Refute it at one input. -/
def snapshotUnlikeWrong : ChangeSpec := { name := "snapshotUnlike", fn := fun _ => fun
  | [d1, d2] => { results := [.lit (.bool false)], args := [d1, d2] }
  | _ => none }
def SnapshotUnlikeWrongFalsely : Prop := snapshotUnlikeRow.holds Tryz.pinned (OpenSpec.ofChange snapshotUnlikeWrong)

/-- 'bucketlinelaw16.SnapshotKeeps': WHATEVER THE INPUT: true; the input reads as it did. -/
def snapshotKeepsSpec : ChangeSpec := { name := "snapshotKeeps", fn := fun _ => fun
  | [d1, d2, d3, d4] => { results := [.lit (.bool true)], args := [d1, d2, d3, d4] }
  | _ => none }
def snapshotKeepsRow : OpenClaim := { program := "ythebmbhdlkldiaagreatdoor", sum := "7c5a96d7b7a8562acf2a1bb965646e83edab3c2fa27e17facc060487eb466e18", func := "bucketline/bucketlinelaw16.SnapshotKeeps", spec := "snapshotKeeps", inPlace := ["internal/abi.NoEscape"], unfollowed := true, recurses := true, named := ["unicode/utf8.first", "unicode/utf8.acceptRanges"], apart := false, laid := [("unicode/utf8.acceptRanges", laid_unicode_utf8_acceptRanges), ("unicode/utf8.first", laid_unicode_utf8_first)] }
def SnapshotKeepsSaid : Prop := snapshotKeepsRow.holds Tryz.pinned (OpenSpec.ofChange snapshotKeepsSpec)

/-- ITS FALSE NEIGHBOUR: 'it returns false'. Refute it at one input. -/
def snapshotKeepsWrong : ChangeSpec := { name := "snapshotKeeps", fn := fun _ => fun
  | [d1, d2, d3, d4] => { results := [.lit (.bool false)], args := [d1, d2, d3, d4] }
  | _ => none }
def SnapshotKeepsWrongFalsely : Prop := snapshotKeepsRow.holds Tryz.pinned (OpenSpec.ofChange snapshotKeepsWrong)

/- THE SECOND FORM. 'bulk': how many values and letters a reading holds, each counted each time it is reached (what is shared counts as often as it is met; a slice's spare places count too). A statement '..UptoSaid' is the law's where the arguments, and the package variables that the reading takes, are together of bulk at most 1048576: NARROWER than '..Said'. Prove '..Said' where nothing that the law and all that it calls make is longer than what came in: it says more and counts as full. Else prove '..UptoSaid'. A law counts once. -/
mutual
def uptoBulk {H : Type} : DataW H → Nat
  | .lit (.string bytes) => bytes.length + 1
  | .lit _ => 1
  | .nil => 1
  | .ptr d => uptoBulk d + 1
  | .slice elems spare => uptoBulkAll elems + uptoBulkAll spare + 1
  | .agg parts => uptoBulkAll parts + 1
  | .iface _ d => uptoBulk d + 1
  | .map entries => uptoBulkEntries entries + 1
  | .held _ => 1
def uptoBulkAll {H : Type} : List (DataW H) → Nat
  | [] => 0
  | d :: r => uptoBulk d + uptoBulkAll r
def uptoBulkEntries {H : Type} : List (Lit × DataW H) → Nat
  | [] => 0
  | x :: r => uptoBulkEntry x + uptoBulkEntries r
def uptoBulkEntry {H : Type} : Lit × DataW H → Nat
  | (.string bytes, d) => bytes.length + uptoBulk d + 1
  | (_, d) => uptoBulk d + 1
 end
def uptoSmall : (H : Type) → List (DataW H) → Bool := fun _ ds => decide (uptoBulkAll ds ≤ 1048576)
def OpenSpec.upto (s : _root_.Go.ChangeSpec) : _root_.Go.OpenSpec := { _root_.Go.OpenSpec.ofChange s with cond := some uptoSmall }

/-- 'bucketlinelaw16.SnapshotPuts', WHERE WHAT IT READS IS OF BULK AT MOST 1048576: true; the input reads as it did. -/
def snapshotPutsUptoRow : OpenClaim := { program := "ythebmbhdlkldiaagreatdoor", sum := "7c5a96d7b7a8562acf2a1bb965646e83edab3c2fa27e17facc060487eb466e18", func := "bucketline/bucketlinelaw16.SnapshotPuts", spec := "snapshotPuts", inPlace := ["internal/abi.NoEscape"], unfollowed := true, recurses := true, named := ["unicode/utf8.first", "unicode/utf8.acceptRanges"], apart := false, laid := [("unicode/utf8.acceptRanges", laid_unicode_utf8_acceptRanges), ("unicode/utf8.first", laid_unicode_utf8_first)], narrowed := true }
def SnapshotPutsUptoSaid : Prop := snapshotPutsUptoRow.holds Tryz.pinned (OpenSpec.upto snapshotPutsSpec)

/-- 'bucketlinelaw16.SnapshotGoes', WHERE WHAT IT READS IS OF BULK AT MOST 1048576: true; the input reads as it did. -/
def snapshotGoesUptoRow : OpenClaim := { program := "ythebmbhdlkldiaagreatdoor", sum := "7c5a96d7b7a8562acf2a1bb965646e83edab3c2fa27e17facc060487eb466e18", func := "bucketline/bucketlinelaw16.SnapshotGoes", spec := "snapshotGoes", inPlace := ["internal/abi.NoEscape"], unfollowed := true, recurses := true, named := ["unicode/utf8.first", "unicode/utf8.acceptRanges"], apart := false, laid := [("unicode/utf8.acceptRanges", laid_unicode_utf8_acceptRanges), ("unicode/utf8.first", laid_unicode_utf8_first)], narrowed := true }
def SnapshotGoesUptoSaid : Prop := snapshotGoesUptoRow.holds Tryz.pinned (OpenSpec.upto snapshotGoesSpec)

/-- 'bucketlinelaw16.SnapshotUnlike', WHERE WHAT IT READS IS OF BULK AT MOST 1048576: true; the input reads as it did. -/
def snapshotUnlikeUptoRow : OpenClaim := { program := "ythebmbhdlkldiaagreatdoor", sum := "7c5a96d7b7a8562acf2a1bb965646e83edab3c2fa27e17facc060487eb466e18", func := "bucketline/bucketlinelaw16.SnapshotUnlike", spec := "snapshotUnlike", inPlace := ["internal/abi.NoEscape"], unfollowed := true, recurses := true, named := ["unicode/utf8.first", "unicode/utf8.acceptRanges"], apart := false, laid := [("unicode/utf8.acceptRanges", laid_unicode_utf8_acceptRanges), ("unicode/utf8.first", laid_unicode_utf8_first)], narrowed := true }
def SnapshotUnlikeUptoSaid : Prop := snapshotUnlikeUptoRow.holds Tryz.pinned (OpenSpec.upto snapshotUnlikeSpec)

/-- 'bucketlinelaw16.SnapshotKeeps', WHERE WHAT IT READS IS OF BULK AT MOST 1048576: true; the input reads as it did. -/
def snapshotKeepsUptoRow : OpenClaim := { program := "ythebmbhdlkldiaagreatdoor", sum := "7c5a96d7b7a8562acf2a1bb965646e83edab3c2fa27e17facc060487eb466e18", func := "bucketline/bucketlinelaw16.SnapshotKeeps", spec := "snapshotKeeps", inPlace := ["internal/abi.NoEscape"], unfollowed := true, recurses := true, named := ["unicode/utf8.first", "unicode/utf8.acceptRanges"], apart := false, laid := [("unicode/utf8.acceptRanges", laid_unicode_utf8_acceptRanges), ("unicode/utf8.first", laid_unicode_utf8_first)], narrowed := true }
def SnapshotKeepsUptoSaid : Prop := snapshotKeepsUptoRow.holds Tryz.pinned (OpenSpec.upto snapshotKeepsSpec)

end Rows
end Go.Proofs.YthebmbhdlkldiaaGreatDoor
