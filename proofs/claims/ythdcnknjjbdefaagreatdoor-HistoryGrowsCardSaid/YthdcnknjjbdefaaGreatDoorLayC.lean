/- The library contracts on sorted keys of maps, laid at the numbers of this translation. No condition. -/
import Derived.Ground.SlgnProg
import Derived.Ground.SlmcProg
import Derived.Shelf.SlMaps.Clone
import Derived.Shelf.SlicesE.Clone
import Derived.Shelf.SlicesE.Equal
import Derived.Test.YthdcnknjjbdefaaGreatDoorProg
namespace Go.Proofs
open Go.Shelf
def Tryz.sclone72_ren : Go.Shelf.Ren := ⟨fun | 41 => 72 | n => n, fun | 22 => 131 | 23 => 134 | 4 => 4 | n => n, fun | n => n⟩
theorem Tryz.sclone72 : Go.Proofs.SlLaysE0.n41 Tryz.prog Tryz.sclone72_ren := {
  mixed := by kernel_rfl
  f41 := ⟨Tryz.f72.name, by decide, Tryz.func72.trans (congrArg some (by kernel_rfl))⟩
  t4 := Tryz.underlying4
  a4 := Tryz.isAgg4
  z4 := Tryz.sizeOf4
  v4 := Tryz.zeroValue4
  t22 := Tryz.underlying131
  a22 := Tryz.isAgg131
  z22 := Tryz.sizeOf131
  v22 := Tryz.zeroValue131 }
def Tryz.clone73_ren : Go.Shelf.Ren := ⟨fun | 5 => 73 | 7 => 82 | n => n, fun | 23 => 136 | 25 => 3 | 3 => 140 | 4 => 4 | 20 => 20 | n => n, fun | n => n⟩
theorem Tryz.clone73 : Go.Proofs.SlLaysW.n5 Tryz.prog Tryz.clone73_ren := {
  mixed := by kernel_rfl
  f5 := ⟨Tryz.f73.name, by decide, Tryz.func73.trans (congrArg some (by kernel_rfl))⟩
  f7 := Tryz.func82.trans (congrArg some (by kernel_rfl))
  t4 := Tryz.underlying4
  a4 := Tryz.isAgg4
  z4 := Tryz.sizeOf4
  v4 := Tryz.zeroValue4
  t20 := Tryz.underlying20
  a20 := Tryz.isAgg20
  z20 := Tryz.sizeOf20
  v20 := Tryz.zeroValue20
  t23 := Tryz.underlying136
  a23 := Tryz.isAgg136
  z23 := Tryz.sizeOf136
  v23 := Tryz.zeroValue136 }
end Go.Proofs
