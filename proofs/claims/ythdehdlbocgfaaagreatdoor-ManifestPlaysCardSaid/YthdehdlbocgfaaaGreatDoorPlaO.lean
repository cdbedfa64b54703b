/- How an act of the manifest's statements reads. No condition. -/
import Derived.Test.YthdehdlbocgfaaaGreatDoorDskS
import Derived.Test.YthdehdlbocgfaaaGreatDoorPlaJ
namespace Go.Proofs.YthdehdlbocgfaaaGreatDoor
open Go.ChangeShapes Go.WideShapes Go.ChangeAt Go.RowKit Go.Bl

theorem opAc (W : World) : Opens Tryz.prog W 35 acc (AcOk W (fun b => b < W.heap.size)) :=
  (Opens.struct Tryz.underlying35 (by kernel_rfl) (OpensFs.one (opInt W) rfl (by kernel_rfl) (OpensFs.one (opInt W) rfl (by kernel_rfl) (OpensFs.one (opInts W) rfl (by kernel_rfl) (OpensFs.one (opStr W) rfl (by kernel_rfl)
    (OpensFs.one (opInts W) rfl (by kernel_rfl) OpensFs.nil)))))).as (fun p => ⟨p.1, p.2.1, p.2.2.1.1, p.2.2.1.2, p.2.2.2.1, p.2.2.2.2.1.1, p.2.2.2.2.1.2⟩)
    (fun _ h => ⟨rfl, h.2.2.2.2.1.1, h.2.2.1.1, h.1, h.2.1, Nat.le_trans h.2.2.2.1 (by decide)⟩)
theorem opActs (W : World) : Opens Tryz.prog W 22 (fun p : Value × List Ac => [p.1]) (sliceC Tryz.prog W 35 5 acc (AcOk W (fun b => b < W.heap.size))) := Opens.slice Tryz.underlying22 (by kernel_rfl) (by decide) (opAc W)
end Go.Proofs.YthdehdlbocgfaaaGreatDoor
