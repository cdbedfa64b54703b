/- The library contracts on sorted keys of maps, laid at the numbers of this translation. No condition. -/
import Derived.Ground.SlgnProg
import Derived.Shelf.SlicesE.Clone
import Derived.Shelf.SlicesE.Delete
import Derived.Test.YtoegdpcfhmjnaaaDoorProg
namespace Go.Proofs
open Go.Shelf
def Tryd.sclone19_ren : Go.Shelf.Ren := ⟨fun | 41 => 19 | n => n, fun | 22 => 22 | 23 => 3 | 4 => 4 | n => n, fun | n => n⟩
theorem Tryd.sclone19 : Go.Proofs.SlLaysE0.n41 Tryd.prog Tryd.sclone19_ren := {
  mixed := by kernel_rfl
  f41 := ⟨Tryd.f19.name, by decide, Tryd.func19.trans (congrArg some (by kernel_rfl))⟩
  t4 := Tryd.underlying4
  a4 := Tryd.isAgg4
  z4 := Tryd.sizeOf4
  v4 := Tryd.zeroValue4
  t22 := Tryd.underlying22
  a22 := Tryd.isAgg22
  z22 := Tryd.sizeOf22
  v22 := Tryd.zeroValue22 }
def Tryd.delete54_ren : Go.Shelf.Ren := ⟨fun | 45 => 54 | n => n, fun | 22 => 22 | 23 => 3 | 3 => 3 | 4 => 4 | 0 => 0 | n => n, fun | n => n⟩
theorem Tryd.delete54 : Go.Proofs.SlLaysE.n45 Tryd.prog Tryd.delete54_ren := {
  mixed := by kernel_rfl
  f45 := ⟨Tryd.f54.name, by decide, Tryd.func54.trans (congrArg some (by kernel_rfl))⟩
  t0 := Tryd.underlying0
  a0 := Tryd.isAgg0
  z0 := Tryd.sizeOf0
  v0 := Tryd.zeroValue0
  t3 := Tryd.underlying3
  a3 := Tryd.isAgg3
  z3 := Tryd.sizeOf3
  v3 := Tryd.zeroValue3
  t4 := Tryd.underlying4
  a4 := Tryd.isAgg4
  z4 := Tryd.sizeOf4
  v4 := Tryd.zeroValue4
  t22 := Tryd.underlying22
  a22 := Tryd.isAgg22
  z22 := Tryd.sizeOf22
  v22 := Tryd.zeroValue22
  a23 := Tryd.isAgg3
  z23 := Tryd.sizeOf3 }
end Go.Proofs
