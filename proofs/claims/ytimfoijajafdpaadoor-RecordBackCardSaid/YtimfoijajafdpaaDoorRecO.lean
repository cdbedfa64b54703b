/- How an entry reads. No condition. -/
import Derived.Test.YtimfoijajafdpaaDoorRecS
import Derived.Test.YtimfoijajafdpaaDoorRecI
namespace Go.Proofs.YtimfoijajafdpaaDoor
open Go.ChangeShapes Go.WideShapes Go.ChangeAt Go.RowKit Go.Bl

theorem opEv (W : World) : Opens Tryd.prog W 55 evc (fun e => e.kind.size ≤ 140737488351232 ∧ e.data.size ≤ 140737488351232) :=
  (Opens.struct Tryd.underlying55 (by kernel_rfl) (OpensFs.one (opStr W) rfl (by kernel_rfl) (OpensFs.one (opStr W) rfl (by kernel_rfl) OpensFs.nil))).as (fun p => ⟨p.1, p.2.1⟩) (fun _ h => ⟨rfl, h.1, h.2.1⟩)
theorem opEvs (W : World) : Opens Tryd.prog W 25 (fun p : Value × List Ev => [p.1]) (sliceC Tryd.prog W 55 2 evc (fun e => e.kind.size ≤ 140737488351232 ∧ e.data.size ≤ 140737488351232)) := Opens.slice Tryd.underlying25 (by kernel_rfl) (by decide) (opEv W)
theorem opEntry (W : World) : Opens Tryd.prog W 29 entc (EntOk W (fun b => b < W.heap.size)) :=
  (Opens.struct Tryd.underlying29 (by kernel_rfl) (OpensFs.one (opInt W) rfl (by kernel_rfl) (OpensFs.one (opInt W) rfl (by kernel_rfl)
    (OpensFs.cons (k := 5) (Opens.struct Tryd.underlying27 (by kernel_rfl) (OpensFs.one (opStr W) rfl (by kernel_rfl) (OpensFs.one (opInt W) rfl (by kernel_rfl) (OpensFs.one (opInt W) rfl (by kernel_rfl) (OpensFs.one (opInt W) rfl (by kernel_rfl)
      (OpensFs.one (opEvs W) rfl (by kernel_rfl) OpensFs.nil)))))) rfl (by kernel_rfl) OpensFs.nil)))).as
    (fun p => ⟨p.1, p.2.1, p.2.2.1.1, p.2.2.1.2.1, p.2.2.1.2.2.1, p.2.2.1.2.2.2.1, p.2.2.1.2.2.2.2.1.1, p.2.2.1.2.2.2.2.1.2⟩)
    (fun _ h => ⟨rfl, h.2.2.1.2.2.2.2.1.1, fun e he => ⟨Nat.le_trans (h.2.2.1.2.2.2.2.1.2.1 e he).1 (by decide), Nat.le_trans (h.2.2.1.2.2.2.2.1.2.1 e he).2 (by decide)⟩, Nat.le_trans h.2.2.1.1 (by decide), h.1⟩)
theorem opEntries (W : World) : Opens Tryd.prog W 24 (fun p : Value × List Ent => [p.1]) (sliceC Tryd.prog W 29 7 entc (EntOk W (fun b => b < W.heap.size))) := Opens.slice Tryd.underlying24 (by kernel_rfl) (by decide) (opEntry W)
def batc (a : Ent) : List Value := [.string a.stream, .int .i64 a.expect, .int .i64 a.session, .int .i64 a.seq, a.evv]
theorem opBatch (W : World) : Opens Tryd.prog W 27 batc (fun a => EntOk W (fun b => b < W.heap.size) a ∧ a.pos = 0 ∧ a.epoch = 0) :=
  (Opens.struct Tryd.underlying27 (by kernel_rfl) (OpensFs.one (opStr W) rfl (by kernel_rfl) (OpensFs.one (opInt W) rfl (by kernel_rfl) (OpensFs.one (opInt W) rfl (by kernel_rfl) (OpensFs.one (opInt W) rfl (by kernel_rfl)
      (OpensFs.one (opEvs W) rfl (by kernel_rfl) OpensFs.nil)))))).as
    (fun p => ⟨0, 0, p.1, p.2.1, p.2.2.1, p.2.2.2.1, p.2.2.2.2.1.1, p.2.2.2.2.1.2⟩)
    (fun _ h => ⟨rfl, ⟨h.2.2.2.2.1.1, fun e he => ⟨Nat.le_trans (h.2.2.2.2.1.2.1 e he).1 (by decide), Nat.le_trans (h.2.2.2.2.1.2.1 e he).2 (by decide)⟩, Nat.le_trans h.1 (by decide), (show (-9223372036854775808 : Int) ≤ 0 by decide), (show (0 : Int) ≤ 9223372036854775807 by decide)⟩, rfl, rfl⟩)
end Go.Proofs.YtimfoijajafdpaaDoor
