/- The library contracts on sorted keys of maps, laid at the numbers of this translation. No condition. -/
import Derived.Ground.SlgnProg
import Derived.Shelf.SlicesE.Clone
import Derived.Test.YtkckiijnooncdaaProg
namespace Go.Proofs
open Go.Shelf
def Try.sclone26_ren : Go.Shelf.Ren := ⟨fun | 41 => 26 | n => n, fun | 22 => 50 | 23 => 52 | 4 => 4 | n => n, fun | n => n⟩
theorem Try.sclone26 : Go.Proofs.SlLaysE0.n41 Try.prog Try.sclone26_ren := {
  mixed := by kernel_rfl
  f41 := ⟨Try.f26.name, by decide, Try.func26.trans (congrArg some (by kernel_rfl))⟩
  t4 := Try.underlying4
  a4 := Try.isAgg4
  z4 := Try.sizeOf4
  v4 := Try.zeroValue4
  t22 := Try.underlying50
  a22 := Try.isAgg50
  z22 := Try.sizeOf50
  v22 := Try.zeroValue50 }
end Go.Proofs
