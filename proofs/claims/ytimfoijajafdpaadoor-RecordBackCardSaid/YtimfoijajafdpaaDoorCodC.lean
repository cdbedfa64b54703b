/- Entries as bytes: record.Put. Under the tables that utf8 lays. -/
import Derived.Test.YtimfoijajafdpaaDoorCodB
namespace Go.Proofs.YtimfoijajafdpaaDoor
open Go.RowKit Go.Bl
attribute [local go_sem ↓] Go.wp_at_zero Go.wp_at_succ

set_option maxRecDepth 10000 in
set_option maxHeartbeats 4000000 in
theorem rPut_any (w : World) (hT : Tabs w) (G : Nat → Prop) (a : Ent) (h : BatchOk w G a) :
    Calls Tryd.prog 19 #[.agg #[.int .i64 a.pos, .int .i64 a.epoch, .string a.stream, .int .i64 a.expect, .int .i64 a.session, .int .i64 a.seq, a.evv]] w fun x w' => x = .returned (.string (Bl (entP a))) ∧ Below w.heap.size w w' := by
  obtain ⟨A, c, hv, hA1, hA2⟩ := h.1.shape
  unfold maxLen at hA2
  have hB0 : Below w.heap.size w (w.alloc (.cells #[.int .i64 a.pos, .int .i64 a.epoch, .string a.stream, .int .i64 a.expect, .int .i64 a.session, .int .i64 a.seq, .slice A a.evs.length c] 29)) := (Below.refl _ w).alloc (Nat.le_refl _) _
  have hblk := heap_alloc_new w (.cells #[.int .i64 a.pos, .int .i64 a.epoch, .string a.stream, .int .i64 a.expect, .int .i64 a.session, .int .i64 a.seq, .slice A a.evs.length c] 29)
  have hf := fun (wz : World) (hz : Below w.heap.size w wz) => right_any wz (hT.fresh hz) G a (h.fresh hz)
  have hp := fun (wz : World) (hz : Below w.heap.size w wz) => putBatch_any wz (hT.fresh hz) G a (h.fresh hz)
  rw [hv] at hf hp ⊢
  have HF := Lib.hid hf
  have HP := Lib.hid hp
  have HB := Lib.hid hB0
  clear hv hf hp hT hB0 h
  go_enter Tryd.func19, Tryd.ntmps19
  go_upto_region 1 with (fail)
  obtain ⟨b, hb⟩ : ∃ b, w.heap.size = b := ⟨_, rfl⟩
  rw [hb] at hblk
  have HBB := Lib.hid hb
  generalize w.alloc (.cells #[.int .i64 a.pos, .int .i64 a.epoch, .string a.stream, .int .i64 a.expect, .int .i64 a.session, .int .i64 a.seq, .slice A a.evs.length c] 29) = w1 at HB hblk ⊢
  rw [hb]
  clear hb
  have c0 : w1.cell? ⟨b, 0, none⟩ = some (.int .i64 a.pos) := cell_of_row w1 b 0 _ _ _ hblk
  have c1 : w1.cell? ⟨b, 1, none⟩ = some (.int .i64 a.epoch) := cell_of_row w1 b 1 _ _ _ hblk
  have c2 : w1.cell? ⟨b, 2, none⟩ = some (.string a.stream) := cell_of_row w1 b 2 _ _ _ hblk
  have c3 : w1.cell? ⟨b, 3, none⟩ = some (.int .i64 a.expect) := cell_of_row w1 b 3 _ _ _ hblk
  have c4 : w1.cell? ⟨b, 4, none⟩ = some (.int .i64 a.session) := cell_of_row w1 b 4 _ _ _ hblk
  have c5 : w1.cell? ⟨b, 5, none⟩ = some (.int .i64 a.seq) := cell_of_row w1 b 5 _ _ _ hblk
  have c6 : w1.cell? ⟨b, 6, none⟩ = some (.slice A a.evs.length c) := cell_of_row w1 b 6 _ _ _ hblk
  clear hblk
  go_wp2_with fail
  refine (HF.out w1 HB.out).mono ?_
  rintro x w2 ⟨rfl, hB2⟩
  have c0 := (hB2.cell (p := ⟨b, 0, none⟩) (World.block_lt_of_cell? _ _ c0)).trans c0
  have c1 := (hB2.cell (p := ⟨b, 1, none⟩) (World.block_lt_of_cell? _ _ c1)).trans c1
  have c2 := (hB2.cell (p := ⟨b, 2, none⟩) (World.block_lt_of_cell? _ _ c2)).trans c2
  have c3 := (hB2.cell (p := ⟨b, 3, none⟩) (World.block_lt_of_cell? _ _ c3)).trans c3
  have c4 := (hB2.cell (p := ⟨b, 4, none⟩) (World.block_lt_of_cell? _ _ c4)).trans c4
  have c5 := (hB2.cell (p := ⟨b, 5, none⟩) (World.block_lt_of_cell? _ _ c5)).trans c5
  have c6 := (hB2.cell (p := ⟨b, 6, none⟩) (World.block_lt_of_cell? _ _ c6)).trans c6
  have HB2 := Lib.hid (HB.out.trans (hB2.mono HB.out.size))
  clear hB2 HF
  cases hz : rightB a
  · have hR : Hid (entP a = []) := Lib.hid (by unfold entP; rw [hz]; rfl)
    clear hz
    go_wp2_with fail
    go_ret
    rw [hR.out]
    exact ⟨rfl, HB2.out⟩
  obtain ⟨h1, h2, h3⟩ := right_fits hz
  have hbp : batP a = batL a := if_pos h3
  rw [hbp] at HP
  have hbl := batL_len h3
  have e1 := numL_len (n := a.pos.toNat) (by omega)
  have e2 := numL_len (n := a.epoch.toNat) (by omega)
  have C1 := Lib.hid (fun W => put_in W a.pos (by omega) (by omega))
  have C2 := Lib.hid (fun W => put_in W a.epoch (by omega) (by omega))
  have hH : Bl (entP a) = Bl (numL a.pos.toNat) ++ Bl (numL a.epoch.toNat) ++ Bl (batL a) := by
    unfold entP entL; rw [hz]; simp only [Bl_append, if_true, ByteArray.append_assoc]
  obtain ⟨x1, hx1⟩ : ∃ x, Bl (numL a.pos.toNat) = x := ⟨_, rfl⟩
  obtain ⟨x2, hx2⟩ : ∃ x, Bl (numL a.epoch.toNat) = x := ⟨_, rfl⟩
  obtain ⟨x3, hx3⟩ : ∃ x, Bl (batL a) = x := ⟨_, rfl⟩
  rw [hx1, hx2, hx3] at hH
  rw [hx1] at C1
  rw [hx2] at C2
  rw [hx3] at HP
  have n1 : ¬ 9223372036854775807 < x1.size + x2.size := by rw [← hx1, ← hx2, Bl_size, Bl_size]; omega
  have n2 : ¬ 9223372036854775807 < x1.size + x2.size + x3.size := by rw [← hx1, ← hx2, ← hx3, Bl_size, Bl_size, Bl_size]; omega
  have HH := Lib.hid hH
  clear hx1 hx2 hx3 hH e1 e2 hbl h1 h2 h3 hz hbp
  go_upto_region 3 with (fail)
  have HA := Lib.hid (show Below w2.heap.size w2 w2.drew from ⟨rfl, rfl, rfl, Nat.le_refl _, fun _ _ => rfl⟩)
  go_region_held3 (fun x => x.cell? ⟨b, 0, none⟩ = some (.int .i64 a.pos) ∧ x.cell? ⟨b, 1, none⟩ = some (.int .i64 a.epoch) ∧ x.cell? ⟨b, 2, none⟩ = some (.string a.stream) ∧ x.cell? ⟨b, 3, none⟩ = some (.int .i64 a.expect) ∧ x.cell? ⟨b, 4, none⟩ = some (.int .i64 a.session) ∧ x.cell? ⟨b, 5, none⟩ = some (.int .i64 a.seq) ∧ x.cell? ⟨b, 6, none⟩ = some (.slice A a.evs.length c))
    (first | exact ⟨c0, c1, c2, c3, c4, c5, c6⟩ | go_keep)
    (first
      | (go_at_call 33
         with_reducible refine (C1.out _).mono ?_
         rintro e w2 ⟨rfl, hB2⟩
         have c0 := (hB2.cell (p := ⟨b, 0, none⟩) (World.block_lt_of_cell? _ _ c0)).trans c0
         have c1 := (hB2.cell (p := ⟨b, 1, none⟩) (World.block_lt_of_cell? _ _ c1)).trans c1
         have c2 := (hB2.cell (p := ⟨b, 2, none⟩) (World.block_lt_of_cell? _ _ c2)).trans c2
         have c3 := (hB2.cell (p := ⟨b, 3, none⟩) (World.block_lt_of_cell? _ _ c3)).trans c3
         have c4 := (hB2.cell (p := ⟨b, 4, none⟩) (World.block_lt_of_cell? _ _ c4)).trans c4
         have c5 := (hB2.cell (p := ⟨b, 5, none⟩) (World.block_lt_of_cell? _ _ c5)).trans c5
         have c6 := (hB2.cell (p := ⟨b, 6, none⟩) (World.block_lt_of_cell? _ _ c6)).trans c6
         have HA := Lib.hid (HA.out.trans (hB2.mono HA.out.size))
         clear hB2
        )
      | (go_at_call 33
         with_reducible refine (C2.out _).mono ?_
         rintro e w2 ⟨rfl, hB2⟩
         have c0 := (hB2.cell (p := ⟨b, 0, none⟩) (World.block_lt_of_cell? _ _ c0)).trans c0
         have c1 := (hB2.cell (p := ⟨b, 1, none⟩) (World.block_lt_of_cell? _ _ c1)).trans c1
         have c2 := (hB2.cell (p := ⟨b, 2, none⟩) (World.block_lt_of_cell? _ _ c2)).trans c2
         have c3 := (hB2.cell (p := ⟨b, 3, none⟩) (World.block_lt_of_cell? _ _ c3)).trans c3
         have c4 := (hB2.cell (p := ⟨b, 4, none⟩) (World.block_lt_of_cell? _ _ c4)).trans c4
         have c5 := (hB2.cell (p := ⟨b, 5, none⟩) (World.block_lt_of_cell? _ _ c5)).trans c5
         have c6 := (hB2.cell (p := ⟨b, 6, none⟩) (World.block_lt_of_cell? _ _ c6)).trans c6
         have HA := Lib.hid (HA.out.trans (hB2.mono HA.out.size))
         clear hB2
        )
      | (go_at_call 34
         refine (HP.out _ (HB2.out.trans (HA.out.mono HB2.out.size))).mono ?_
         rintro e w2 ⟨rfl, hB2⟩
         have c0 := (hB2.cell (p := ⟨b, 0, none⟩) (World.block_lt_of_cell? _ _ c0)).trans c0
         have c1 := (hB2.cell (p := ⟨b, 1, none⟩) (World.block_lt_of_cell? _ _ c1)).trans c1
         have c2 := (hB2.cell (p := ⟨b, 2, none⟩) (World.block_lt_of_cell? _ _ c2)).trans c2
         have c3 := (hB2.cell (p := ⟨b, 3, none⟩) (World.block_lt_of_cell? _ _ c3)).trans c3
         have c4 := (hB2.cell (p := ⟨b, 4, none⟩) (World.block_lt_of_cell? _ _ c4)).trans c4
         have c5 := (hB2.cell (p := ⟨b, 5, none⟩) (World.block_lt_of_cell? _ _ c5)).trans c5
         have c6 := (hB2.cell (p := ⟨b, 6, none⟩) (World.block_lt_of_cell? _ _ c6)).trans c6
         have HA := Lib.hid (HA.out.trans (hB2.mono HA.out.size))
         clear hB2
        ))
  go_wp2_with fail
  go_ret
  rw [HH.out]
  exact ⟨rfl, HB2.out.trans (HA.out.mono HB2.out.size)⟩
end Go.Proofs.YtimfoijajafdpaaDoor
