/- The library contracts on sorted keys of maps, laid at the numbers of this translation. No condition. -/
import Derived.Ground.SlsfProg
import Derived.Shelf.SlSortCmp.Insertion
import Derived.Test.YthdcnknjjbdefaaGreatDoorProg
namespace Go.Proofs
open Go.Shelf
def Tryz.insort67_ren : Go.Shelf.Ren := ⟨fun | 20 => 67 | n => n, fun | 24 => 3 | 22 => 43 | 3 => 3 | 25 => 63 | 4 => 4 | 0 => 0 | n => n, fun | n => n⟩
theorem Tryz.insort67 : Go.Proofs.SlLaysF.n20 Tryz.prog Tryz.insort67_ren := {
  mixed := by kernel_rfl
  f20 := ⟨Tryz.f67.name, by decide, Tryz.func67.trans (congrArg some (by kernel_rfl))⟩
  t0 := Tryz.underlying0
  a0 := Tryz.isAgg0
  z0 := Tryz.sizeOf0
  v0 := Tryz.zeroValue0
  t3 := Tryz.underlying3
  a3 := Tryz.isAgg3
  z3 := Tryz.sizeOf3
  v3 := Tryz.zeroValue3
  t4 := Tryz.underlying4
  a4 := Tryz.isAgg4
  z4 := Tryz.sizeOf4
  v4 := Tryz.zeroValue4
  t22 := Tryz.underlying43
  a22 := Tryz.isAgg43
  z22 := Tryz.sizeOf43
  v22 := Tryz.zeroValue43
  a24 := Tryz.isAgg3
  z24 := Tryz.sizeOf3
  t25 := Tryz.underlying63
  a25 := Tryz.isAgg63
  z25 := Tryz.sizeOf63
  v25 := Tryz.zeroValue63 }
end Go.Proofs
