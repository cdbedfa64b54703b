/- The library contracts on sorted keys of maps, laid at the numbers of this translation. No condition. -/
import Derived.Ground.SlgnProg
import Derived.Ground.SlmcProg
import Derived.Shelf.SlMaps.Clone
import Derived.Shelf.SlicesE.Clone
import Derived.Test.YtlfhokcjbgpjhaaDoorProg
namespace Go.Proofs
open Go.Shelf
def Tryd.sclone39_ren : Go.Shelf.Ren := ⟨fun | 41 => 39 | n => n, fun | 22 => 87 | 23 => 89 | 4 => 4 | n => n, fun | n => n⟩
theorem Tryd.sclone39 : Go.Proofs.SlLaysE0.n41 Tryd.prog Tryd.sclone39_ren := {
  mixed := by kernel_rfl
  f41 := ⟨Tryd.f39.name, by decide, Tryd.func39.trans (congrArg some (by kernel_rfl))⟩
  t4 := Tryd.underlying4
  a4 := Tryd.isAgg4
  z4 := Tryd.sizeOf4
  v4 := Tryd.zeroValue4
  t22 := Tryd.underlying87
  a22 := Tryd.isAgg87
  z22 := Tryd.sizeOf87
  v22 := Tryd.zeroValue87 }
def Tryd.clone40_ren : Go.Shelf.Ren := ⟨fun | 5 => 40 | 7 => 52 | n => n, fun | 23 => 74 | 25 => 3 | 3 => 77 | 4 => 4 | 20 => 20 | n => n, fun | n => n⟩
theorem Tryd.clone40 : Go.Proofs.SlLaysW.n5 Tryd.prog Tryd.clone40_ren := {
  mixed := by kernel_rfl
  f5 := ⟨Tryd.f40.name, by decide, Tryd.func40.trans (congrArg some (by kernel_rfl))⟩
  f7 := Tryd.func52.trans (congrArg some (by kernel_rfl))
  t4 := Tryd.underlying4
  a4 := Tryd.isAgg4
  z4 := Tryd.sizeOf4
  v4 := Tryd.zeroValue4
  t20 := Tryd.underlying20
  a20 := Tryd.isAgg20
  z20 := Tryd.sizeOf20
  v20 := Tryd.zeroValue20
  t23 := Tryd.underlying74
  a23 := Tryd.isAgg74
  z23 := Tryd.sizeOf74
  v23 := Tryd.zeroValue74 }
end Go.Proofs
