/- The document's bytes of texts, numbers, events, batches (bucketlineref2, bucketlineref5). Under the stated premises on sizes. -/
import Derived.Test.YtimfoijajafdpaaDoorCodB
import Derived.Test.YtimfoijajafdpaaDoorNumR
import Derived.Test.YtimfoijajafdpaaDoorRecR
namespace Go.Proofs.YtimfoijajafdpaaDoor
open Go.RowKit Go.Bl
attribute [local go_sem ↓] Go.wp_at_zero Go.wp_at_succ

theorem dput_in (w : World) (n : Int) (h0 : 0 ≤ n) (h1 : n ≤ 1099511627776) : Calls Tryd.prog 35 #[.int .i64 n] w fun e w' => e = .returned (.string (Bl (numL n.toNat))) ∧ Below w.heap.size w w' :=
  rput_any w n n.toNat (by unfold gmax gmin; omega)
theorem dputText_any (w : World) (s : ByteArray) (hs : s.size ≤ 1000000000) : Calls Tryd.prog 58 #[.string s] w fun e w' => e = .returned (.string (Bl (txtL (Lb s)))) ∧ Below w.heap.size w w' := by
  have hl := numL_len (n := s.size) (by omega)
  have hc := dput_in w (s.size : Int) (by omega) (by omega)
  rw [show ((s.size : Int).toNat) = s.size by omega] at hc
  have hnov : ¬ 9223372036854775807 < (Bl (numL s.size)).size + s.size := by rw [Bl_size]; omega
  have HC := Lib.hid hc
  clear hc hl
  go_enter Tryd.func58, Tryd.ntmps58
  go_wp2_with fail
  refine HC.out.mono ?_
  rintro e w1 ⟨rfl, hB⟩
  go_wp2_with fail
  go_ret
  refine ⟨?_, hB⟩
  unfold txtL
  rw [Bl_append]
  rfl
set_option maxRecDepth 8000 in
theorem dputInt_any (w : World) (n : Int) (h1 : -1 ≤ n) (h2 : n ≤ 274877906944) : Calls Tryd.prog 59 #[.int .i64 n] w fun e w' => e = .returned (.string (Bl (numL (zig n)))) ∧ Below w.heap.size w w' := by
  have hmx := @run_gmax Tryd.prog
  have hmn := @run_gmin Tryd.prog
  have hz := zig_le h1 h2
  have hc := dput_in w (zig n : Int) (by omega) (by omega)
  rw [Int.toNat_natCast] at hc
  have hg : gmax (-549755813888) (gmin n 549755813888) = n := by unfold gmax gmin; omega
  by_cases h0 : n = -1
  · subst h0
    rw [show ((zig (-1) : Nat) : Int) = 1 by decide] at hc
    have HC := Lib.hid hc
    clear hc
    go_enter Tryd.func59, Tryd.ntmps59
    go_wp2_with fail
    refine HC.out.mono ?_
    rintro e w1 ⟨rfl, hB⟩
    go_wp2_with fail
    go_ret
    exact ⟨rfl, hB⟩
  · have hzn : (zig n : Int) = 2 * n := by unfold zig; rw [if_pos (by omega)]; omega
    rw [hzn] at hc
    have hd : decide (0 ≤ n) = true := by simp; omega
    have HC := Lib.hid hc
    clear hc hzn hz
    go_enter Tryd.func59, Tryd.ntmps59
    go_wp2_with fail
    refine HC.out.mono ?_
    rintro e w1 ⟨rfl, hB⟩
    go_wp2_with fail
    go_ret
    exact ⟨rfl, hB⟩
set_option maxRecDepth 8000 in
set_option maxHeartbeats 1000000 in
theorem debytes_any (w : World) (e : Ev) (h1 : e.kind.size ≤ 100000) (h2 : e.data.size ≤ 100000) : Calls Tryd.prog 60 #[.agg #[.string e.kind, .string e.data]] w fun x w' => x = .returned (.string (Bl (evbL e))) ∧ Below w.heap.size w w' := by
  have hB0 : Below w.heap.size w (w.alloc (.cells #[.string e.kind, .string e.data] 55)) := (Below.refl _ w).alloc (Nat.le_refl _) _
  have hblk := heap_alloc_new w (.cells #[.string e.kind, .string e.data] 55)
  have hl1 := txtL_len (l := Lb e.kind) (by rw [Lb_len]; omega)
  have hl2 := txtL_len (l := Lb e.data) (by rw [Lb_len]; omega)
  rw [Lb_len] at hl1 hl2
  have C1 := Lib.hid (fun W => dputText_any W e.kind (by omega))
  have C2 := Lib.hid (fun W => dputText_any W e.data (by omega))
  have hE : Bl (evbL e) = Bl (txtL (Lb e.kind)) ++ Bl (txtL (Lb e.data)) := by unfold evbL; rw [Bl_append]
  rw [hE]
  obtain ⟨x, hx⟩ : ∃ x, Bl (txtL (Lb e.kind)) = x := ⟨_, rfl⟩
  obtain ⟨y, hy⟩ : ∃ y, Bl (txtL (Lb e.data)) = y := ⟨_, rfl⟩
  have hnov : ¬ 9223372036854775807 < x.size + y.size := by rw [← hx, ← hy, Bl_size, Bl_size]; omega
  rw [hx] at C1 ⊢
  rw [hy] at C2 ⊢
  have HB := Lib.hid hB0
  clear hE hx hy hl1 hl2 hB0
  go_enter Tryd.func60, Tryd.ntmps60
  go_upto_region 1 with (fail)
  obtain ⟨b, hb⟩ : ∃ b, w.heap.size = b := ⟨_, rfl⟩
  rw [hb] at HB hblk ⊢
  generalize w.alloc (.cells #[.string e.kind, .string e.data] 55) = w1 at HB hblk ⊢
  have c0 : w1.cell? ⟨b, 0, none⟩ = some (.string e.kind) := cell_of_row w1 b 0 _ _ _ hblk
  have c1 : w1.cell? ⟨b, 1, none⟩ = some (.string e.data) := cell_of_row w1 b 1 _ _ _ hblk
  have HA := Lib.hid (show Below w1.heap.size w1 w1.drew from ⟨rfl, rfl, rfl, Nat.le_refl _, fun _ _ => rfl⟩)
  clear hblk
  go_region_held3 (fun x => x.cell? ⟨b, 0, none⟩ = some (.string e.kind) ∧ x.cell? ⟨b, 1, none⟩ = some (.string e.data))
    (first | exact ⟨by assumption, by assumption⟩ | go_keep)
    (first
      | (go_at_call 58
         with_reducible refine (C1.out _).mono ?_
         rintro e w2 ⟨rfl, hB2⟩
         have c0 := (hB2.cell (p := ⟨b, 0, none⟩) (World.block_lt_of_cell? _ _ c0)).trans c0
         have c1 := (hB2.cell (p := ⟨b, 1, none⟩) (World.block_lt_of_cell? _ _ c1)).trans c1
         have HA := Lib.hid (HA.out.trans (hB2.mono HA.out.size))
         clear hB2
        )
      | (go_at_call 58
         with_reducible refine (C2.out _).mono ?_
         rintro e w2 ⟨rfl, hB2⟩
         have c0 := (hB2.cell (p := ⟨b, 0, none⟩) (World.block_lt_of_cell? _ _ c0)).trans c0
         have c1 := (hB2.cell (p := ⟨b, 1, none⟩) (World.block_lt_of_cell? _ _ c1)).trans c1
         have HA := Lib.hid (HA.out.trans (hB2.mono HA.out.size))
         clear hB2
        ))
  go_wp2_with fail
  go_ret
  exact ⟨rfl, by rw [hb]; exact HB.out.trans (HA.out.mono (by have := HB.out.size; omega))⟩

/-- What is asked here. -/
theorem BatchSm.sl {w : World} {G : Nat → Prop} {a : Ent} (h : BatchSm w G a) : Sl w G 2 evc a.evv a.evs := h.1
set_option maxRecDepth 10000 in
set_option maxHeartbeats 4000000 in
theorem dputBatch_any (w : World) (G : Nat → Prop) (a : Ent) (h : BatchSm w G a) :
    Calls Tryd.prog 36 #[.agg #[.string a.stream, .int .i64 a.expect, .int .i64 a.session, .int .i64 a.seq, a.evv]] w fun x w' => x = .returned (.string (Bl (batP a))) ∧ Below w.heap.size w w' := by
  obtain ⟨A, c, hv, hA1, hA2⟩ := h.1.shape
  unfold maxLen at hA2
  have hB0 : Below w.heap.size w (w.alloc (.cells #[.string a.stream, .int .i64 a.expect, .int .i64 a.session, .int .i64 a.seq, .slice A a.evs.length c] 27)) := (Below.refl _ w).alloc (Nat.le_refl _) _
  have hblk := heap_alloc_new w (.cells #[.string a.stream, .int .i64 a.expect, .int .i64 a.session, .int .i64 a.seq, .slice A a.evs.length c] 27)
  have hf := fun (wz : World) (hz : Below w.heap.size w wz) => rfits_any wz G a (h.fresh hz)
  have hS := h.1
  rw [hv] at hf hS ⊢
  have HF := Lib.hid hf
  have HS := Lib.hid hS
  have HB := Lib.hid hB0
  clear hv hf hS hB0 h
  go_enter Tryd.func36, Tryd.ntmps36
  go_upto_region 1 with (fail)
  obtain ⟨b, hb⟩ : ∃ b, w.heap.size = b := ⟨_, rfl⟩
  rw [hb] at hblk
  have HBB := Lib.hid hb
  generalize w.alloc (.cells #[.string a.stream, .int .i64 a.expect, .int .i64 a.session, .int .i64 a.seq, .slice A a.evs.length c] 27) = w1 at HB hblk ⊢
  rw [hb]
  clear hb
  have c0 : w1.cell? ⟨b, 0, none⟩ = some (.string a.stream) := cell_of_row w1 b 0 _ _ _ hblk
  have c1 : w1.cell? ⟨b, 1, none⟩ = some (.int .i64 a.expect) := cell_of_row w1 b 1 _ _ _ hblk
  have c2 : w1.cell? ⟨b, 2, none⟩ = some (.int .i64 a.session) := cell_of_row w1 b 2 _ _ _ hblk
  have c3 : w1.cell? ⟨b, 3, none⟩ = some (.int .i64 a.seq) := cell_of_row w1 b 3 _ _ _ hblk
  have c4 : w1.cell? ⟨b, 4, none⟩ = some (.slice A a.evs.length c) := cell_of_row w1 b 4 _ _ _ hblk
  clear hblk
  go_wp2_with fail
  refine (HF.out w1 HB.out).mono ?_
  rintro x w2 ⟨rfl, hB2⟩
  have c0 := (hB2.cell (p := ⟨b, 0, none⟩) (World.block_lt_of_cell? _ _ c0)).trans c0
  have c1 := (hB2.cell (p := ⟨b, 1, none⟩) (World.block_lt_of_cell? _ _ c1)).trans c1
  have c2 := (hB2.cell (p := ⟨b, 2, none⟩) (World.block_lt_of_cell? _ _ c2)).trans c2
  have c3 := (hB2.cell (p := ⟨b, 3, none⟩) (World.block_lt_of_cell? _ _ c3)).trans c3
  have c4 := (hB2.cell (p := ⟨b, 4, none⟩) (World.block_lt_of_cell? _ _ c4)).trans c4
  have HB2 := Lib.hid (HB.out.trans (hB2.mono HB.out.size))
  clear hB2 HF
  by_cases hz : ¬ fitsI a = 0
  · have dz : (fitsI a != 0) = true := by simp [hz]
    have hR : Hid (batP a = []) := Lib.hid (if_neg hz)
    clear hz
    go_wp2_with fail
    go_ret
    rw [hR.out]
    exact ⟨rfl, HB2.out⟩
  have hz : fitsI a = 0 := Decidable.not_not.1 hz
  have dz : (fitsI a != 0) = false := by simp [hz]
  have hR : batP a = batH a ++ a.evs.flatMap evbL := by rw [← batL_eq]; exact if_pos hz
  have hlen := batL_len hz
  rw [batL_eq] at hlen
  obtain ⟨h1, ⟨h2, h2'⟩, h3, h4, h5, h6, h7⟩ := fits_zero hz
  have e1 := name_size h1
  have e2 := txtL_len (l := Lb a.stream) (by rw [Lb_len]; omega)
  rw [Lb_len] at e2
  have e3 := numL_len (n := zig a.expect) (by have := zig_le h2 h2'; omega)
  have e4 := numL_len (n := a.session.toNat) (by omega)
  have e5 := numL_len (n := a.seq.toNat) (by omega)
  have e6 := numL_len (n := a.evs.length) (by omega)
  have C1 := Lib.hid (fun W => dputText_any W a.stream (by omega))
  have C2 := Lib.hid (fun W => dputInt_any W a.expect h2 h2')
  have C3 := Lib.hid (fun W => dput_in W a.session (by omega) (by omega))
  have C4 := Lib.hid (fun W => dput_in W a.seq (by omega) (by omega))
  have C5 := Lib.hid (fun W => dput_in W (a.evs.length : Int) (by omega) (by omega))
  rw [Int.toNat_natCast] at C5
  have hH : Bl (batH a) = Bl (txtL (Lb a.stream)) ++ Bl (numL (zig a.expect)) ++ Bl (numL a.session.toNat) ++ Bl (numL a.seq.toNat) ++ Bl (numL a.evs.length) := by
    unfold batH; simp only [Bl_append]
  obtain ⟨x1, hx1⟩ : ∃ x, Bl (txtL (Lb a.stream)) = x := ⟨_, rfl⟩
  obtain ⟨x2, hx2⟩ : ∃ x, Bl (numL (zig a.expect)) = x := ⟨_, rfl⟩
  obtain ⟨x3, hx3⟩ : ∃ x, Bl (numL a.session.toNat) = x := ⟨_, rfl⟩
  obtain ⟨x4, hx4⟩ : ∃ x, Bl (numL a.seq.toNat) = x := ⟨_, rfl⟩
  obtain ⟨x5, hx5⟩ : ∃ x, Bl (numL a.evs.length) = x := ⟨_, rfl⟩
  rw [hx1, hx2, hx3, hx4, hx5] at hH
  rw [hx1] at C1
  rw [hx2] at C2
  rw [hx3] at C3
  rw [hx4] at C4
  rw [hx5] at C5
  have n1 : ¬ 9223372036854775807 < x1.size + x2.size := by rw [← hx1, ← hx2, Bl_size, Bl_size]; omega
  have n2 : ¬ 9223372036854775807 < x1.size + x2.size + x3.size := by rw [← hx1, ← hx2, ← hx3, Bl_size, Bl_size, Bl_size]; omega
  have n3 : ¬ 9223372036854775807 < x1.size + x2.size + x3.size + x4.size := by rw [← hx1, ← hx2, ← hx3, ← hx4, Bl_size, Bl_size, Bl_size, Bl_size]; omega
  have n4 : ¬ 9223372036854775807 < x1.size + x2.size + x3.size + x4.size + x5.size := by rw [← hx1, ← hx2, ← hx3, ← hx4, ← hx5, Bl_size, Bl_size, Bl_size, Bl_size, Bl_size]; omega
  have HR := Lib.hid hR
  have HH := Lib.hid hH
  have HLEN := Lib.hid hlen
  have H7 := Lib.hid h7
  clear hx1 hx2 hx3 hx4 hx5 hH e1 e2 e3 e4 e5 e6 hR hlen h7 h1 h2 h2' h3 h4 h5 h6 hz
  go_upto_region 3 with (fail)
  have HA := Lib.hid (show Below w2.heap.size w2 w2.drew from ⟨rfl, rfl, rfl, Nat.le_refl _, fun _ _ => rfl⟩)
  go_cut [3] (fun s3 wx => s3 = .string (Bl (batH a)) ∧ Below w.heap.size w wx ∧ wx.cell? ⟨b, 4, none⟩ = some (.slice A a.evs.length c))
  case first =>
    go_region_held3 (fun x => x.cell? ⟨b, 0, none⟩ = some (.string a.stream) ∧ x.cell? ⟨b, 1, none⟩ = some (.int .i64 a.expect) ∧ x.cell? ⟨b, 2, none⟩ = some (.int .i64 a.session) ∧ x.cell? ⟨b, 3, none⟩ = some (.int .i64 a.seq) ∧ x.cell? ⟨b, 4, none⟩ = some (.slice A a.evs.length c))
      (first | exact ⟨c0, c1, c2, c3, c4⟩ | go_keep)
      (first
        | (go_at_call 58
           with_reducible refine (C1.out _).mono ?_
           rintro e w2 ⟨rfl, hB2⟩
           have c0 := (hB2.cell (p := ⟨b, 0, none⟩) (World.block_lt_of_cell? _ _ c0)).trans c0
           have c1 := (hB2.cell (p := ⟨b, 1, none⟩) (World.block_lt_of_cell? _ _ c1)).trans c1
           have c2 := (hB2.cell (p := ⟨b, 2, none⟩) (World.block_lt_of_cell? _ _ c2)).trans c2
           have c3 := (hB2.cell (p := ⟨b, 3, none⟩) (World.block_lt_of_cell? _ _ c3)).trans c3
           have c4 := (hB2.cell (p := ⟨b, 4, none⟩) (World.block_lt_of_cell? _ _ c4)).trans c4
           have HA := Lib.hid (HA.out.trans (hB2.mono HA.out.size))
           clear hB2
          )
        | (go_at_call 59
           with_reducible refine (C2.out _).mono ?_
           rintro e w2 ⟨rfl, hB2⟩
           have c0 := (hB2.cell (p := ⟨b, 0, none⟩) (World.block_lt_of_cell? _ _ c0)).trans c0
           have c1 := (hB2.cell (p := ⟨b, 1, none⟩) (World.block_lt_of_cell? _ _ c1)).trans c1
           have c2 := (hB2.cell (p := ⟨b, 2, none⟩) (World.block_lt_of_cell? _ _ c2)).trans c2
           have c3 := (hB2.cell (p := ⟨b, 3, none⟩) (World.block_lt_of_cell? _ _ c3)).trans c3
           have c4 := (hB2.cell (p := ⟨b, 4, none⟩) (World.block_lt_of_cell? _ _ c4)).trans c4
           have HA := Lib.hid (HA.out.trans (hB2.mono HA.out.size))
           clear hB2
          )
        | (go_at_call 35
           with_reducible refine (C3.out _).mono ?_
           rintro e w2 ⟨rfl, hB2⟩
           have c0 := (hB2.cell (p := ⟨b, 0, none⟩) (World.block_lt_of_cell? _ _ c0)).trans c0
           have c1 := (hB2.cell (p := ⟨b, 1, none⟩) (World.block_lt_of_cell? _ _ c1)).trans c1
           have c2 := (hB2.cell (p := ⟨b, 2, none⟩) (World.block_lt_of_cell? _ _ c2)).trans c2
           have c3 := (hB2.cell (p := ⟨b, 3, none⟩) (World.block_lt_of_cell? _ _ c3)).trans c3
           have c4 := (hB2.cell (p := ⟨b, 4, none⟩) (World.block_lt_of_cell? _ _ c4)).trans c4
           have HA := Lib.hid (HA.out.trans (hB2.mono HA.out.size))
           clear hB2
          )
        | (go_at_call 35
           with_reducible refine (C4.out _).mono ?_
           rintro e w2 ⟨rfl, hB2⟩
           have c0 := (hB2.cell (p := ⟨b, 0, none⟩) (World.block_lt_of_cell? _ _ c0)).trans c0
           have c1 := (hB2.cell (p := ⟨b, 1, none⟩) (World.block_lt_of_cell? _ _ c1)).trans c1
           have c2 := (hB2.cell (p := ⟨b, 2, none⟩) (World.block_lt_of_cell? _ _ c2)).trans c2
           have c3 := (hB2.cell (p := ⟨b, 3, none⟩) (World.block_lt_of_cell? _ _ c3)).trans c3
           have c4 := (hB2.cell (p := ⟨b, 4, none⟩) (World.block_lt_of_cell? _ _ c4)).trans c4
           have HA := Lib.hid (HA.out.trans (hB2.mono HA.out.size))
           clear hB2
          )
        | (go_at_call 35
           with_reducible refine (C5.out _).mono ?_
           rintro e w2 ⟨rfl, hB2⟩
           have c0 := (hB2.cell (p := ⟨b, 0, none⟩) (World.block_lt_of_cell? _ _ c0)).trans c0
           have c1 := (hB2.cell (p := ⟨b, 1, none⟩) (World.block_lt_of_cell? _ _ c1)).trans c1
           have c2 := (hB2.cell (p := ⟨b, 2, none⟩) (World.block_lt_of_cell? _ _ c2)).trans c2
           have c3 := (hB2.cell (p := ⟨b, 3, none⟩) (World.block_lt_of_cell? _ _ c3)).trans c3
           have c4 := (hB2.cell (p := ⟨b, 4, none⟩) (World.block_lt_of_cell? _ _ c4)).trans c4
           have HA := Lib.hid (HA.out.trans (hB2.mono HA.out.size))
           clear hB2
          ))
    go_wp2_with fail
    go_meet
    exact ⟨by rw [HH.out], HB2.out.trans (HA.out.mono HB2.out.size), c4⟩
  case rest =>
    obtain ⟨rfl, hB6, c4⟩ := hcut
    have HB6 := Lib.hid hB6
    have hbl := World.block_lt_of_cell? _ _ c4
    have HC4 := Lib.hid c4
    clear hB6 c0 c1 c2 c3 n1 n2 n3 n4 C1 C2 C3 C4 C5 HA HH c4
    go_wp2_with fail
    go_loopw [3, 4] (fun s i wr => ∃ k : Nat, k ≤ a.evs.length ∧ i = .int .i64 k ∧ s = .string (Bl (batH a ++ (a.evs.take k).flatMap evbL)) ∧ Below wc.heap.size wc wr) (fun _ i _ => a.evs.length - (Go.RowKit.intOf i).toNat)
    case atStart => exact ⟨0, Nat.zero_le _, rfl, by rw [List.take_zero]; simp, Below.refl _ _⟩
    case round =>
      obtain ⟨k, hk, rfl, rfl, hB7⟩ := hrel
      have c4 := (hB7.cell (p := ⟨b, 4, none⟩) hbl).trans HC4.out
      have HB7 := Lib.hid hB7
      clear hB7
      by_cases hlt : k < a.evs.length
      · have d0 : decide ((k : Int) < (a.evs.length : Int)) = true := by simp; omega
        obtain ⟨q, o, rfl, _, _, hxx⟩ := (HS.out.fresh (HB6.out.trans (HB7.out.mono HB6.out.size))).cell_ hlt
        have x0 := hxx 0 _ rfl
        have x1 := hxx 1 _ rfl
        simp only [Nat.add_zero] at x0
        have hr := rightE_sizes (H7.out a.evs[k] (List.getElem_mem hlt))
        have hts := flat_succ evbL a.evs hlt
        have hle : (batH a ++ (a.evs.take k).flatMap evbL).length + (evbL a.evs[k]).length ≤ 3000 := by
          have h1 := HLEN.out
          have h2 : (a.evs.flatMap evbL) = (a.evs.take (k + 1)).flatMap evbL ++ (a.evs.drop (k + 1)).flatMap evbL := by rw [← List.flatMap_append, List.take_append_drop]
          rw [h2, hts] at h1
          simp only [List.length_append] at h1 ⊢
          omega
        obtain ⟨S, hS⟩ : ∃ S, Bl (batH a ++ (a.evs.take k).flatMap evbL) = S := ⟨_, rfl⟩
        obtain ⟨Z, hZ⟩ : ∃ Z, Bl (evbL a.evs[k]) = Z := ⟨_, rfl⟩
        have hnov : ¬ 9223372036854775807 < S.size + Z.size := by rw [← hS, ← hZ, Bl_size, Bl_size]; omega
        have hc := debytes_any wr a.evs[k] (by omega) (by omega)
        have hSZ : S ++ Z = Bl (batH a ++ (a.evs.take (k + 1)).flatMap evbL) := by rw [← hS, ← hZ, hts, ← Bl_append, List.append_assoc]
        rw [hS]
        rw [hZ] at hc
        have HC := Lib.hid hc
        have HSZ := Lib.hid hSZ
        clear hxx hc hts hle hS hZ hSZ
        go_wp2_with fail
        refine HC.out.mono ?_
        rintro e w4 ⟨rfl, hB4⟩
        have HB4 := Lib.hid hB4
        clear hB4 x0 x1
        go_wp2_with fail
        go_roundw
        case rel => exact ⟨k + 1, hlt, by go_num, by rw [HSZ.out], HB7.out.trans (HB4.out.mono HB7.out.size)⟩
        case measure => simp [Go.RowKit.intOf]; omega
      · have hkd : k = a.evs.length := by omega
        subst hkd
        have d0 : decide ((a.evs.length : Int) < (a.evs.length : Int)) = false := by simp
        rw [List.take_length]
        go_wp2_with fail
        go_ret
        rw [HR.out]
        exact ⟨rfl, HB6.out.trans (HB7.out.mono HB6.out.size)⟩
end Go.Proofs.YtimfoijajafdpaaDoor
