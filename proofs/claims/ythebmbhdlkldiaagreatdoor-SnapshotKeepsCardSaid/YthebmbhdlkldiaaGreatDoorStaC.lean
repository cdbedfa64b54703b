/- The state: Applied, Version, Pos, Read, Streams, Look, Clone. Under the stated premises on sizes. -/
import Derived.Test.YthebmbhdlkldiaaGreatDoorStaA
import Derived.Test.YthebmbhdlkldiaaGreatDoorIdxH
import Derived.Deep.RegionHeld3
import Derived.Deep.DrawnRows
namespace Go.Proofs.YthebmbhdlkldiaaGreatDoor
open Go.RowKit Go.Bl
attribute [local go_sem ↓] Go.wp_at_zero Go.wp_at_succ

section
variable (w : World) (p : Nat) (s : St) (F W : Nat → Prop) (h : StAt w p s F W)
include h
theorem applied_any : Calls Tryz.prog 17 #[.pointer (some ⟨p, 0, none⟩)] w fun e w' => e = .returned (.int .i64 s.ap) ∧ w = w' := by
  obtain ⟨px, pt, FX, FT, GT, h⟩ := h
  have c2 := h.c2
  clear h
  go_enter Tryz.func17, Tryz.ntmps17
  go_wp2
  go_ret
  exact ⟨rfl, rfl⟩
end

end Go.Proofs.YthebmbhdlkldiaaGreatDoor
