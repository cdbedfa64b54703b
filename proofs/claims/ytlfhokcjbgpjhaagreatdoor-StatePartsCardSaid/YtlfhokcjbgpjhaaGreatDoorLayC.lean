/- The library contracts on sorted keys of maps, laid at the numbers of this translation. No condition. -/
import Derived.Ground.SlgnProg
import Derived.Ground.SlmcProg
import Derived.Shelf.SlMaps.Clone
import Derived.Shelf.SlicesE.Clone
import Derived.Test.YtlfhokcjbgpjhaaGreatDoorProg
namespace Go.Proofs
open Go.Shelf
def Tryz.sclone76_ren : Go.Shelf.Ren := ⟨fun | 41 => 76 | n => n, fun | 22 => 135 | 23 => 138 | 4 => 4 | n => n, fun | n => n⟩
theorem Tryz.sclone76 : Go.Proofs.SlLaysE0.n41 Tryz.prog Tryz.sclone76_ren := {
  mixed := by kernel_rfl
  f41 := ⟨Tryz.f76.name, by decide, Tryz.func76.trans (congrArg some (by kernel_rfl))⟩
  t4 := Tryz.underlying4
  a4 := Tryz.isAgg4
  z4 := Tryz.sizeOf4
  v4 := Tryz.zeroValue4
  t22 := Tryz.underlying135
  a22 := Tryz.isAgg135
  z22 := Tryz.sizeOf135
  v22 := Tryz.zeroValue135 }
def Tryz.clone77_ren : Go.Shelf.Ren := ⟨fun | 5 => 77 | 7 => 92 | n => n, fun | 23 => 119 | 25 => 3 | 3 => 122 | 4 => 4 | 20 => 20 | n => n, fun | n => n⟩
theorem Tryz.clone77 : Go.Proofs.SlLaysW.n5 Tryz.prog Tryz.clone77_ren := {
  mixed := by kernel_rfl
  f5 := ⟨Tryz.f77.name, by decide, Tryz.func77.trans (congrArg some (by kernel_rfl))⟩
  f7 := Tryz.func92.trans (congrArg some (by kernel_rfl))
  t4 := Tryz.underlying4
  a4 := Tryz.isAgg4
  z4 := Tryz.sizeOf4
  v4 := Tryz.zeroValue4
  t20 := Tryz.underlying20
  a20 := Tryz.isAgg20
  z20 := Tryz.sizeOf20
  v20 := Tryz.zeroValue20
  t23 := Tryz.underlying119
  a23 := Tryz.isAgg119
  z23 := Tryz.sizeOf119
  v23 := Tryz.zeroValue119 }
end Go.Proofs
