/- The tables of utf8 as the rows list them; a world that holds them. No condition. -/
import Derived.Test.YtoegdpcfhmjnaaaDoorRows
import Derived.Test.YtoegdpcfhmjnaaaDoorTie
import Derived.Test.YtoegdpcfhmjnaaaDoorCards
import Derived.Test.YtoegdpcfhmjnaaaDoorTxtA
import Derived.Test.YtoegdpcfhmjnaaaDoorBlV
import Derived.Lib.LaidIn
import Derived.Lib.LaidU8T
import Derived.Deep.DeepWitnessRowRef
import Derived.SevenTiedAt
namespace Go.Proofs.YtoegdpcfhmjnaaaDoor
open Go.ChangeShapes Go.WideShapes Go.ChangeAt Go.RowKit Go.Bl Go.Shelf

theorem own : ownKnob Tryd.prog.godebug = none := by kernel_rfl
theorem laidOut : laidOutB Tryd.prog = true := by kernel_rfl
theorem opStr (W : World) : Opens Tryd.prog W 9 (fun s : ByteArray => [.string s]) (fun s => s.size ≤ 140737488351232) := Opens.string Tryd.underlying9
theorem opInt (W : World) : Opens Tryd.prog W 3 (fun n : Int => [.int .i64 n]) (fun n => -9223372036854775808 ≤ n ∧ n ≤ 9223372036854775807) := Opens.int Tryd.underlying3
theorem opInts (W : World) : Opens Tryd.prog W 22 (fun p : Value × List Int => [p.1]) (sliceC Tryd.prog W 3 1 (fun n : Int => [.int .i64 n]) (fun n => -9223372036854775808 ≤ n ∧ n ≤ 9223372036854775807)) := Opens.slice Tryd.underlying22 (by kernel_rfl) (by decide) (opInt W)
theorem eAccept : (Rows.laid_unicode_utf8_acceptRanges : DataW Unit) = Lib.acceptData := by kernel_rfl
theorem eFirst : Rows.laid_unicode_utf8_first = Lib.firstData := by kernel_rfl
theorem tabs_of_laid {W : World} (h : laidMetH Tryd.prog [("unicode/utf8.acceptRanges", Rows.laid_unicode_utf8_acceptRanges), ("unicode/utf8.first", Rows.laid_unicode_utf8_first)] W) : Tabs W := by
  rw [eAccept, eFirst] at h
  have h3 := Lib.laidMet.reads h (.tail _ (.head _))
  have h4 := Lib.laidMet.reads h (.head _)
  exact utf8Tabs_of_readsT (ρ := Tryd.lays197_ren) ⟨Tryd.lays197.t5, Tryd.lays197.t119, Tryd.lays197.t138, Tryd.lays197.t139⟩ ⟨by kernel_rfl, by kernel_rfl, by kernel_rfl, by kernel_rfl, by kernel_rfl, by kernel_rfl, by kernel_rfl⟩ h3 h4

/-- The settled world, the two tables holding what their initialisers lay. -/
noncomputable def laidWorld (os : Os) : World :=
  let w0 := World.holding Tryd.prog os ⟨#[], #[], []⟩
  let put (h : Array Obj) (g : Nat) (cs : Array Value) : Array Obj := h.modify g fun
    | .cells _ t frozen => .cells cs t frozen
    | o => o
  let h1 := put w0.heap (Tryd.lays197_ren.g 3) (Lib.firstTab.map fun z => Value.int .u8 z).toArray
  let h2 := put h1 (Tryd.lays197_ren.g 4) ((List.range 16).flatMap fun i => [Value.int .u8 (Lib.accLo i), Value.int .u8 (Lib.accHi i)]).toArray
  { w0 with heap := h2 }
theorem laid_met (os : Os) (args : Array Value) : laidMet Tryd.prog [("unicode/utf8.acceptRanges", Rows.laid_unicode_utf8_acceptRanges), ("unicode/utf8.first", Rows.laid_unicode_utf8_first)] ((laidWorld os).forCall (fun _ _ => 0) ⟨#[], args, []⟩).memory := by
  rw [eAccept, eFirst]
  exact (LaidIn.of_run (l := [("unicode/utf8.acceptRanges", Lib.acceptData), ("unicode/utf8.first", Lib.firstData)]) [Tryd.lays197_ren.g 4, Tryd.lays197_ren.g 3] 8 (by kernel_rfl) (by kernel_rfl) (by kernel_rfl) (by kernel_rfl)).met
end Go.Proofs.YtoegdpcfhmjnaaaDoor
