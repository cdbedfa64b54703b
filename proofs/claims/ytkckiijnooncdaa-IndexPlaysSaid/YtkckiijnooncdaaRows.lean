/-
  No cell of these rows narrows 'for every input' (looked for: loops, veiled, ifaces, maps, wideKeys, modest, calm, conditions, laid).
  DERIVED. THE GIVEN ROWS OF THIS SEAT. 4 by the template 'for every input the law returns true; each argument reads behind the call as it read before'; 0 by the template 'total and deterministic' (their statements: YtkckiijnooncdaaTotals.lean).
  GIVEN WITH THE SEED: the statements are not yours to turn. If you find one false, say at which input.
  Laid BY PROGRAM, IN A SANDBOX (cutbox-rows.mjs): the forced cells as the released guide's own fill.sh prints them over the translation c563eb079f27b14d… (all of the seat's roots in one cut). By AI agents, Wed Nov 11 2026. No macro, syntax, notation, axiom, sorry.
-/
import Derived.Test.YtkckiijnooncdaaChecked
import GoSem.Claim
import GoSem.ClaimJoined
import GoSem.ClaimMapViews
import Derived.JoinedTies
import Derived.KernelRfl
namespace Go.Proofs.Ytkckiijnooncdaa
/- THE CELL 'sum', in the pinned program and in every row, IS THE sha256 OF THE DUMP (.gsa) THAT YtkckiijnooncdaaProg.lean LOADS. Nothing in Lean hashes anything: it is a label: what it is worth is what the hold of that sum in a sandbox is worth. -/
noncomputable def Try.pinned : Pinned := { name := "ytkckiijnooncdaa", sum := "c563eb079f27b14df9ec4ee44c1408c81193e5f29fe162c93a4eddd349feebc7", checked := Try.checked }
namespace Rows
def none {H : Type} : Left H := { results := [], args := [] }

/-- 'bucketlinelaw13.IndexCuts': WHATEVER THE INPUT: true; the input reads as it did. -/
def indexCutsSpec : ChangeSpec := { name := "indexCuts", fn := fun _ => fun
  | [d1, d2, d3] => { results := [.lit (.bool true)], args := [d1, d2, d3] }
  | _ => none }
def indexCutsRow : OpenClaim := { program := "ytkckiijnooncdaa", sum := "c563eb079f27b14df9ec4ee44c1408c81193e5f29fe162c93a4eddd349feebc7", func := "bucketline/bucketlinelaw13.IndexCuts", spec := "indexCuts", apart := false }
def IndexCutsSaid : Prop := indexCutsRow.holds Try.pinned (OpenSpec.ofChange indexCutsSpec)

/-- ITS FALSE NEIGHBOUR: 'it returns false'. Refute it at one input. -/
def indexCutsWrong : ChangeSpec := { name := "indexCuts", fn := fun _ => fun
  | [d1, d2, d3] => { results := [.lit (.bool false)], args := [d1, d2, d3] }
  | _ => none }
def IndexCutsWrongFalsely : Prop := indexCutsRow.holds Try.pinned (OpenSpec.ofChange indexCutsWrong)

/-- 'bucketlinelaw13.IndexApart': WHATEVER THE INPUT: true; the input reads as it did. -/
def indexApartSpec : ChangeSpec := { name := "indexApart", fn := fun _ => fun
  | [d1, d2] => { results := [.lit (.bool true)], args := [d1, d2] }
  | _ => none }
def indexApartRow : OpenClaim := { program := "ytkckiijnooncdaa", sum := "c563eb079f27b14df9ec4ee44c1408c81193e5f29fe162c93a4eddd349feebc7", func := "bucketline/bucketlinelaw13.IndexApart", spec := "indexApart", unfollowed := true, recurses := true, apart := false }
def IndexApartSaid : Prop := indexApartRow.holds Try.pinned (OpenSpec.ofChange indexApartSpec)

/-- ITS FALSE NEIGHBOUR: 'it returns false'. Refute it at one input. -/
def indexApartWrong : ChangeSpec := { name := "indexApart", fn := fun _ => fun
  | [d1, d2] => { results := [.lit (.bool false)], args := [d1, d2] }
  | _ => none }
def IndexApartWrongFalsely : Prop := indexApartRow.holds Try.pinned (OpenSpec.ofChange indexApartWrong)

/-- 'bucketlinelaw13.IndexPlaces': WHATEVER THE INPUT: true; the input reads as it did. -/
def indexPlacesSpec : ChangeSpec := { name := "indexPlaces", fn := fun _ => fun
  | [d] => { results := [.lit (.bool true)], args := [d] }
  | _ => none }
def indexPlacesRow : OpenClaim := { program := "ytkckiijnooncdaa", sum := "c563eb079f27b14df9ec4ee44c1408c81193e5f29fe162c93a4eddd349feebc7", func := "bucketline/bucketlinelaw13.IndexPlaces", spec := "indexPlaces", unfollowed := true, recurses := true, apart := false }
def IndexPlacesSaid : Prop := indexPlacesRow.holds Try.pinned (OpenSpec.ofChange indexPlacesSpec)

/-- ITS FALSE NEIGHBOUR: 'it returns false'. Refute it at one input. -/
def indexPlacesWrong : ChangeSpec := { name := "indexPlaces", fn := fun _ => fun
  | [d] => { results := [.lit (.bool false)], args := [d] }
  | _ => none }
def IndexPlacesWrongFalsely : Prop := indexPlacesRow.holds Try.pinned (OpenSpec.ofChange indexPlacesWrong)

/-- 'bucketlinelaw13.IndexPlays': WHATEVER THE INPUT: true; the input reads as it did. -/
def indexPlaysSpec : ChangeSpec := { name := "indexPlays", fn := fun _ => fun
  | [d] => { results := [.lit (.bool true)], args := [d] }
  | _ => none }
def indexPlaysRow : OpenClaim := { program := "ytkckiijnooncdaa", sum := "c563eb079f27b14df9ec4ee44c1408c81193e5f29fe162c93a4eddd349feebc7", func := "bucketline/bucketlinelaw13.IndexPlays", spec := "indexPlays", unfollowed := true, recurses := true, apart := false }
def IndexPlaysSaid : Prop := indexPlaysRow.holds Try.pinned (OpenSpec.ofChange indexPlaysSpec)

/-- ITS FALSE NEIGHBOUR: 'it returns false'. Refute it at one input. -/
def indexPlaysWrong : ChangeSpec := { name := "indexPlays", fn := fun _ => fun
  | [d] => { results := [.lit (.bool false)], args := [d] }
  | _ => none }
def IndexPlaysWrongFalsely : Prop := indexPlaysRow.holds Try.pinned (OpenSpec.ofChange indexPlaysWrong)

/- THE SECOND FORM. 'bulk': how many values and letters a reading holds, each counted each time it is reached (what is shared counts as often as it is met; a slice's spare places count too). A statement '..UptoSaid' is the law's where the arguments, and the package variables that the reading takes, are together of bulk at most 1048576: NARROWER than '..Said'. Prove '..Said' where nothing that the law and all that it calls make is longer than what came in: it says more and counts as full. Else prove '..UptoSaid'. A law counts once. -/
mutual
def uptoBulk {H : Type} : DataW H → Nat
  | .lit (.string bytes) => bytes.length + 1
  | .lit _ => 1
  | .nil => 1
  | .ptr d => uptoBulk d + 1
  | .slice elems spare => uptoBulkAll elems + uptoBulkAll spare + 1
  | .agg parts => uptoBulkAll parts + 1
  | .iface _ d => uptoBulk d + 1
  | .map entries => uptoBulkEntries entries + 1
  | .held _ => 1
def uptoBulkAll {H : Type} : List (DataW H) → Nat
  | [] => 0
  | d :: r => uptoBulk d + uptoBulkAll r
def uptoBulkEntries {H : Type} : List (Lit × DataW H) → Nat
  | [] => 0
  | x :: r => uptoBulkEntry x + uptoBulkEntries r
def uptoBulkEntry {H : Type} : Lit × DataW H → Nat
  | (.string bytes, d) => bytes.length + uptoBulk d + 1
  | (_, d) => uptoBulk d + 1
 end
def uptoSmall : (H : Type) → List (DataW H) → Bool := fun _ ds => decide (uptoBulkAll ds ≤ 1048576)
def OpenSpec.upto (s : _root_.Go.ChangeSpec) : _root_.Go.OpenSpec := { _root_.Go.OpenSpec.ofChange s with cond := some uptoSmall }

/-- 'bucketlinelaw13.IndexCuts', WHERE WHAT IT READS IS OF BULK AT MOST 1048576: true; the input reads as it did. -/
def indexCutsUptoRow : OpenClaim := { program := "ytkckiijnooncdaa", sum := "c563eb079f27b14df9ec4ee44c1408c81193e5f29fe162c93a4eddd349feebc7", func := "bucketline/bucketlinelaw13.IndexCuts", spec := "indexCuts", apart := false, narrowed := true }
def IndexCutsUptoSaid : Prop := indexCutsUptoRow.holds Try.pinned (OpenSpec.upto indexCutsSpec)

/-- 'bucketlinelaw13.IndexApart', WHERE WHAT IT READS IS OF BULK AT MOST 1048576: true; the input reads as it did. -/
def indexApartUptoRow : OpenClaim := { program := "ytkckiijnooncdaa", sum := "c563eb079f27b14df9ec4ee44c1408c81193e5f29fe162c93a4eddd349feebc7", func := "bucketline/bucketlinelaw13.IndexApart", spec := "indexApart", unfollowed := true, recurses := true, apart := false, narrowed := true }
def IndexApartUptoSaid : Prop := indexApartUptoRow.holds Try.pinned (OpenSpec.upto indexApartSpec)

/-- 'bucketlinelaw13.IndexPlaces', WHERE WHAT IT READS IS OF BULK AT MOST 1048576: true; the input reads as it did. -/
def indexPlacesUptoRow : OpenClaim := { program := "ytkckiijnooncdaa", sum := "c563eb079f27b14df9ec4ee44c1408c81193e5f29fe162c93a4eddd349feebc7", func := "bucketline/bucketlinelaw13.IndexPlaces", spec := "indexPlaces", unfollowed := true, recurses := true, apart := false, narrowed := true }
def IndexPlacesUptoSaid : Prop := indexPlacesUptoRow.holds Try.pinned (OpenSpec.upto indexPlacesSpec)

/-- 'bucketlinelaw13.IndexPlays', WHERE WHAT IT READS IS OF BULK AT MOST 1048576: true; the input reads as it did. -/
def indexPlaysUptoRow : OpenClaim := { program := "ytkckiijnooncdaa", sum := "c563eb079f27b14df9ec4ee44c1408c81193e5f29fe162c93a4eddd349feebc7", func := "bucketline/bucketlinelaw13.IndexPlays", spec := "indexPlays", unfollowed := true, recurses := true, apart := false, narrowed := true }
def IndexPlaysUptoSaid : Prop := indexPlaysUptoRow.holds Try.pinned (OpenSpec.upto indexPlaysSpec)

end Rows
end Go.Proofs.Ytkckiijnooncdaa
