/- Texts and numbers of either sign as bytes: num.PutText, num.PutInt; event.bytes. Under the stated premises on sizes. -/
import Derived.Test.YthebmbhdlkldiaaGreatDoorCodP
import Derived.Deep.RegionHeld3
namespace Go.Proofs.YthebmbhdlkldiaaGreatDoor
open Go.RowKit Go.Bl
attribute [local go_sem ↓] Go.wp_at_zero Go.wp_at_succ

theorem put_in (w : World) (n : Int) (h0 : 0 ≤ n) (h1 : n ≤ 1099511627776) : Calls Tryz.prog 35 #[.int .i64 n] w fun e w' => e = .returned (.string (Bl (numL n.toNat))) ∧ Below w.heap.size w w' :=
  put_any w n n.toNat (by unfold holdI gmax gmin; omega)
theorem putText_any (w : World) (s : ByteArray) (hs : s.size ≤ 1000000000) : Calls Tryz.prog 36 #[.string s] w fun e w' => e = .returned (.string (Bl (txtL (Lb s)))) ∧ Below w.heap.size w w' := by
  have hl := numL_len (n := s.size) (by omega)
  have hc := put_in w (s.size : Int) (by omega) (by omega)
  rw [show ((s.size : Int).toNat) = s.size by omega] at hc
  have hnov : ¬ 9223372036854775807 < (Bl (numL s.size)).size + s.size := by rw [Bl_size]; omega
  have HC := Lib.hid hc
  clear hc hl
  go_enter Tryz.func36, Tryz.ntmps36
  go_wp2_with fail
  refine HC.out.mono ?_
  rintro e w1 ⟨rfl, hB⟩
  go_wp2_with fail
  go_ret
  refine ⟨?_, hB⟩
  unfold txtL
  rw [Bl_append]
  rfl
set_option maxRecDepth 8000 in
set_option maxHeartbeats 1000000 in
theorem ebytes_any (w : World) (e : Ev) (h1 : e.kind.size ≤ 100000) (h2 : e.data.size ≤ 100000) : Calls Tryz.prog 89 #[.agg #[.string e.kind, .string e.data]] w fun x w' => x = .returned (.string (Bl (evbL e))) ∧ Below w.heap.size w w' := by
  have hB0 : Below w.heap.size w (w.alloc (.cells #[.string e.kind, .string e.data] 77)) := (Below.refl _ w).alloc (Nat.le_refl _) _
  have hblk := heap_alloc_new w (.cells #[.string e.kind, .string e.data] 77)
  have hl1 := txtL_len (l := Lb e.kind) (by rw [Lb_len]; omega)
  have hl2 := txtL_len (l := Lb e.data) (by rw [Lb_len]; omega)
  rw [Lb_len] at hl1 hl2
  have C1 := Lib.hid (fun W => putText_any W e.kind (by omega))
  have C2 := Lib.hid (fun W => putText_any W e.data (by omega))
  have hE : Bl (evbL e) = Bl (txtL (Lb e.kind)) ++ Bl (txtL (Lb e.data)) := by unfold evbL; rw [Bl_append]
  rw [hE]
  obtain ⟨x, hx⟩ : ∃ x, Bl (txtL (Lb e.kind)) = x := ⟨_, rfl⟩
  obtain ⟨y, hy⟩ : ∃ y, Bl (txtL (Lb e.data)) = y := ⟨_, rfl⟩
  have hnov : ¬ 9223372036854775807 < x.size + y.size := by rw [← hx, ← hy, Bl_size, Bl_size]; omega
  rw [hx] at C1 ⊢
  rw [hy] at C2 ⊢
  have HB := Lib.hid hB0
  clear hE hx hy hl1 hl2 hB0
  go_enter Tryz.func89, Tryz.ntmps89
  go_upto_region 1 with (fail)
  obtain ⟨b, hb⟩ : ∃ b, w.heap.size = b := ⟨_, rfl⟩
  rw [hb] at HB hblk ⊢
  generalize w.alloc (.cells #[.string e.kind, .string e.data] 77) = w1 at HB hblk ⊢
  have c0 : w1.cell? ⟨b, 0, none⟩ = some (.string e.kind) := cell_of_row w1 b 0 _ _ _ hblk
  have c1 : w1.cell? ⟨b, 1, none⟩ = some (.string e.data) := cell_of_row w1 b 1 _ _ _ hblk
  have HA := Lib.hid (show Below w1.heap.size w1 w1.drew from ⟨rfl, rfl, rfl, Nat.le_refl _, fun _ _ => rfl⟩)
  clear hblk
  go_region_held3 (fun x => x.cell? ⟨b, 0, none⟩ = some (.string e.kind) ∧ x.cell? ⟨b, 1, none⟩ = some (.string e.data))
    (first | exact ⟨by assumption, by assumption⟩ | go_keep)
    (first
      | (go_at_call 36
         with_reducible refine (C1.out _).mono ?_
         rintro e w2 ⟨rfl, hB2⟩
         have c0 := (hB2.cell (p := ⟨b, 0, none⟩) (World.block_lt_of_cell? _ _ c0)).trans c0
         have c1 := (hB2.cell (p := ⟨b, 1, none⟩) (World.block_lt_of_cell? _ _ c1)).trans c1
         have HA := Lib.hid (HA.out.trans (hB2.mono HA.out.size))
         clear hB2
        )
      | (go_at_call 36
         with_reducible refine (C2.out _).mono ?_
         rintro e w2 ⟨rfl, hB2⟩
         have c0 := (hB2.cell (p := ⟨b, 0, none⟩) (World.block_lt_of_cell? _ _ c0)).trans c0
         have c1 := (hB2.cell (p := ⟨b, 1, none⟩) (World.block_lt_of_cell? _ _ c1)).trans c1
         have HA := Lib.hid (HA.out.trans (hB2.mono HA.out.size))
         clear hB2
        ))
  go_wp2_with fail
  go_ret
  exact ⟨rfl, by rw [hb]; exact HB.out.trans (HA.out.mono (by have := HB.out.size; omega))⟩
end Go.Proofs.YthebmbhdlkldiaaGreatDoor
