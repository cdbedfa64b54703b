/- How an act of the disk's statements reads. No condition. -/
import Derived.Test.YtiphnobefigibaaDoorDskS
import Derived.Test.YtiphnobefigibaaDoorDskJ
namespace Go.Proofs.YtiphnobefigibaaDoor
open Go.ChangeShapes Go.WideShapes Go.ChangeAt Go.RowKit Go.Bl

theorem opAc (W : World) : Opens Tryd.prog W 44 acc (AcOk W (fun b => b < W.heap.size)) :=
  (Opens.struct Tryd.underlying44 (by kernel_rfl) (OpensFs.one (opInt W) rfl (by kernel_rfl) (OpensFs.one (opStr W) rfl (by kernel_rfl) (OpensFs.one (opStr W) rfl (by kernel_rfl)
    (OpensFs.one (opInts W) rfl (by kernel_rfl) OpensFs.nil))))).as (fun p => ⟨p.1, p.2.1, p.2.2.1, p.2.2.2.1.1, p.2.2.2.1.2⟩)
    (fun _ h => ⟨rfl, h.2.2.2.1.1, h.1, Nat.le_trans h.2.1 (by decide), Nat.le_trans h.2.2.1 (by decide)⟩)
theorem opActs (W : World) : Opens Tryd.prog W 36 (fun p : Value × List Ac => [p.1]) (sliceC Tryd.prog W 44 4 acc (AcOk W (fun b => b < W.heap.size))) := Opens.slice Tryd.underlying36 (by kernel_rfl) (by decide) (opAc W)
end Go.Proofs.YtiphnobefigibaaDoor
