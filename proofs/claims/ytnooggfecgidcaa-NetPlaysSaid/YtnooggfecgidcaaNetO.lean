/- What the statements' arguments read as: texts, numbers, acts. -/
import Derived.Test.YtnooggfecgidcaaNetE
import Derived.Test.YtnooggfecgidcaaNetG
namespace Go.Proofs.Ytnooggfecgidcaa
open Go.ChangeShapes Go.WideShapes Go.ChangeAt Go.RowKit Go.Bl

theorem opStrs (W : World) : Opens Try.prog W 36 (fun p : Value × List ByteArray => [p.1]) (sliceC Try.prog W 9 1 strc (fun s => s.size ≤ 140737488351232)) := Opens.slice Try.underlying36 (by kernel_rfl) (by decide) (opStr W)
theorem opInts (W : World) : Opens Try.prog W 37 (fun p : Value × List Int => [p.1]) (sliceC Try.prog W 3 1 intc i64) := Opens.slice Try.underlying37 (by kernel_rfl) (by decide) (opInt W)
theorem opAc (W : World) : Opens Try.prog W 46 acc AcOk :=
  (Opens.struct Try.underlying46 (by kernel_rfl) (OpensFs.one (opInt W) rfl (by kernel_rfl) (OpensFs.one (opInt W) rfl (by kernel_rfl) (OpensFs.one (opInt W) rfl (by kernel_rfl)
    (OpensFs.one (opInt W) rfl (by kernel_rfl) (OpensFs.one (opStr W) rfl (by kernel_rfl) OpensFs.nil)))))).as (fun p => ⟨p.1, p.2.1, p.2.2.1, p.2.2.2.1, p.2.2.2.2.1⟩)
    (fun _ h => ⟨rfl, h.1, h.2.1, h.2.2.1, h.2.2.2.1, Nat.le_trans h.2.2.2.2.1 (by decide)⟩)
theorem opActs (W : World) : Opens Try.prog W 43 (fun p : Value × List Ac => [p.1]) (sliceC Try.prog W 46 5 acc AcOk) := Opens.slice Try.underlying43 (by kernel_rfl) (by decide) (opAc W)
end Go.Proofs.Ytnooggfecgidcaa
