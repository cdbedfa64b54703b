/- The opener of rows of rows of numbers. -/
import Derived.Test.YthdehdlbocgfaaaDoorDskS
namespace Go.Proofs.YthdehdlbocgfaaaDoor
open Go.ChangeShapes Go.WideShapes Go.ChangeAt Go.RowKit Go.Bl Go.Shelf

theorem opIntss (W : World) : Opens Tryd.prog W 36 (fun p : Value × List (Value × List Int) => [p.1]) (sliceC Tryd.prog W 22 1 (fun p : Value × List Int => [p.1]) (sliceC Tryd.prog W 3 1 (fun n : Int => [.int .i64 n]) (fun n => -9223372036854775808 ≤ n ∧ n ≤ 9223372036854775807))) := Opens.slice Tryd.underlying36 (by kernel_rfl) (by decide) (opInts W)
end Go.Proofs.YthdehdlbocgfaaaDoor
