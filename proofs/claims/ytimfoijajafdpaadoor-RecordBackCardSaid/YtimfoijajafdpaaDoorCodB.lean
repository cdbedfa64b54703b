/- Batches as bytes: event.PutBatch. Under the tables that utf8 lays. -/
import Derived.Test.YtimfoijajafdpaaDoorCodA
import Derived.Test.YtimfoijajafdpaaDoorBldA
namespace Go.Proofs.YtimfoijajafdpaaDoor
open Go.RowKit Go.Bl
attribute [local go_sem ↓] Go.wp_at_zero Go.wp_at_succ

theorem flat_succ {α : Type} (f : α → List UInt8) (l : List α) {k : Nat} (h : k < l.length) : (l.take (k + 1)).flatMap f = (l.take k).flatMap f ++ f l[k] := by
  rw [List.take_succ_eq_append_getElem h, List.flatMap_append, List.flatMap_cons, List.flatMap_nil, List.append_nil]
def batP (a : Ent) : List UInt8 := if fitsI a = 0 then batL a else []
/-- What stands ahead of the events. -/
def batH (a : Ent) : List UInt8 := txtL (Lb a.stream) ++ numL (zig a.expect) ++ numL a.session.toNat ++ numL a.seq.toNat ++ numL a.evs.length
theorem batL_eq (a : Ent) : batL a = batH a ++ a.evs.flatMap evbL := by
  unfold batL batH
  simp only [List.append_assoc]
theorem batH_len {a : Ent} (h : fitsI a = 0) : (batH a).length ≤ 200 := by
  obtain ⟨h1, ⟨h2, h2'⟩, h3, h4, h5, h6, h7⟩ := fits_zero h
  have e1 := name_size h1
  have e2 := txtL_len (l := Lb a.stream) (by rw [Lb_len]; omega)
  rw [Lb_len] at e2
  have e3 := numL_len (n := zig a.expect) (by have := zig_le h2 h2'; omega)
  have e4 := numL_len (n := a.session.toNat) (by omega)
  have e5 := numL_len (n := a.seq.toNat) (by omega)
  have e6 := numL_len (n := a.evs.length) (by omega)
  unfold batH
  simp only [List.length_append]
  omega
set_option maxRecDepth 10000 in
set_option maxHeartbeats 4000000 in
theorem putBatch_any (w : World) (hT : Tabs w) (G : Nat → Prop) (a : Ent) (h : BatchOk w G a) :
    Calls Tryd.prog 34 #[.agg #[.string a.stream, .int .i64 a.expect, .int .i64 a.session, .int .i64 a.seq, a.evv]] w fun x w' => x = .returned (.string (Bl (batP a))) ∧ Below w.heap.size w w' := by
  obtain ⟨A, c, hv, hA1, hA2⟩ := h.1.shape
  unfold maxLen at hA2
  have hB0 : Below w.heap.size w (w.alloc (.cells #[.string a.stream, .int .i64 a.expect, .int .i64 a.session, .int .i64 a.seq, .slice A a.evs.length c] 27)) := (Below.refl _ w).alloc (Nat.le_refl _) _
  have hblk := heap_alloc_new w (.cells #[.string a.stream, .int .i64 a.expect, .int .i64 a.session, .int .i64 a.seq, .slice A a.evs.length c] 27)
  have hf := fun (wz : World) (hz : Below w.heap.size w wz) => fits_any wz (hT.fresh hz) G a (h.fresh hz)
  have hS := h.1
  rw [hv] at hf hS ⊢
  have HF := Lib.hid hf
  have HS := Lib.hid hS
  have HT := Lib.hid hT
  have HB := Lib.hid hB0
  clear hv hf hS hT hB0 h
  go_enter Tryd.func34, Tryd.ntmps34
  go_upto_region 1 with (fail)
  obtain ⟨b, hb⟩ : ∃ b, w.heap.size = b := ⟨_, rfl⟩
  rw [hb] at hblk
  have HBB := Lib.hid hb
  generalize w.alloc (.cells #[.string a.stream, .int .i64 a.expect, .int .i64 a.session, .int .i64 a.seq, .slice A a.evs.length c] 27) = w1 at HB hblk ⊢
  rw [hb]
  clear hb
  have c0 : w1.cell? ⟨b, 0, none⟩ = some (.string a.stream) := cell_of_row w1 b 0 _ _ _ hblk
  have c1 : w1.cell? ⟨b, 1, none⟩ = some (.int .i64 a.expect) := cell_of_row w1 b 1 _ _ _ hblk
  have c2 : w1.cell? ⟨b, 2, none⟩ = some (.int .i64 a.session) := cell_of_row w1 b 2 _ _ _ hblk
  have c3 : w1.cell? ⟨b, 3, none⟩ = some (.int .i64 a.seq) := cell_of_row w1 b 3 _ _ _ hblk
  have c4 : w1.cell? ⟨b, 4, none⟩ = some (.slice A a.evs.length c) := cell_of_row w1 b 4 _ _ _ hblk
  clear hblk
  go_wp2_with fail
  refine (HF.out w1 HB.out).mono ?_
  rintro x w2 ⟨rfl, hB2⟩
  have c0 := (hB2.cell (p := ⟨b, 0, none⟩) (World.block_lt_of_cell? _ _ c0)).trans c0
  have c1 := (hB2.cell (p := ⟨b, 1, none⟩) (World.block_lt_of_cell? _ _ c1)).trans c1
  have c2 := (hB2.cell (p := ⟨b, 2, none⟩) (World.block_lt_of_cell? _ _ c2)).trans c2
  have c3 := (hB2.cell (p := ⟨b, 3, none⟩) (World.block_lt_of_cell? _ _ c3)).trans c3
  have c4 := (hB2.cell (p := ⟨b, 4, none⟩) (World.block_lt_of_cell? _ _ c4)).trans c4
  have HB2 := Lib.hid (HB.out.trans (hB2.mono HB.out.size))
  clear hB2 HF
  by_cases hz : ¬ fitsI a = 0
  · have dz : (fitsI a != 0) = true := by simp [hz]
    have hR : Hid (batP a = []) := Lib.hid (if_neg hz)
    clear hz
    go_wp2_with fail
    go_ret
    rw [hR.out]
    exact ⟨rfl, HB2.out⟩
  have hz : fitsI a = 0 := Decidable.not_not.1 hz
  have dz : (fitsI a != 0) = false := by simp [hz]
  have hR : batP a = batH a ++ a.evs.flatMap evbL := by rw [← batL_eq]; exact if_pos hz
  have hlen := batL_len hz
  rw [batL_eq] at hlen
  obtain ⟨h1, ⟨h2, h2'⟩, h3, h4, h5, h6, h7⟩ := fits_zero hz
  have e1 := name_size h1
  have e2 := txtL_len (l := Lb a.stream) (by rw [Lb_len]; omega)
  rw [Lb_len] at e2
  have e3 := numL_len (n := zig a.expect) (by have := zig_le h2 h2'; omega)
  have e4 := numL_len (n := a.session.toNat) (by omega)
  have e5 := numL_len (n := a.seq.toNat) (by omega)
  have e6 := numL_len (n := a.evs.length) (by omega)
  have C1 := Lib.hid (fun W => putText_any W a.stream (by omega))
  have C2 := Lib.hid (fun W => putInt_any W a.expect h2 h2')
  have C3 := Lib.hid (fun W => put_in W a.session (by omega) (by omega))
  have C4 := Lib.hid (fun W => put_in W a.seq (by omega) (by omega))
  have C5 := Lib.hid (fun W => put_in W (a.evs.length : Int) (by omega) (by omega))
  rw [Int.toNat_natCast] at C5
  have hH : Bl (batH a) = Bl (txtL (Lb a.stream)) ++ Bl (numL (zig a.expect)) ++ Bl (numL a.session.toNat) ++ Bl (numL a.seq.toNat) ++ Bl (numL a.evs.length) := by
    unfold batH; simp only [Bl_append]
  obtain ⟨x1, hx1⟩ : ∃ x, Bl (txtL (Lb a.stream)) = x := ⟨_, rfl⟩
  obtain ⟨x2, hx2⟩ : ∃ x, Bl (numL (zig a.expect)) = x := ⟨_, rfl⟩
  obtain ⟨x3, hx3⟩ : ∃ x, Bl (numL a.session.toNat) = x := ⟨_, rfl⟩
  obtain ⟨x4, hx4⟩ : ∃ x, Bl (numL a.seq.toNat) = x := ⟨_, rfl⟩
  obtain ⟨x5, hx5⟩ : ∃ x, Bl (numL a.evs.length) = x := ⟨_, rfl⟩
  rw [hx1, hx2, hx3, hx4, hx5] at hH
  rw [hx1] at C1
  rw [hx2] at C2
  rw [hx3] at C3
  rw [hx4] at C4
  rw [hx5] at C5
  have n1 : ¬ 9223372036854775807 < x1.size + x2.size := by rw [← hx1, ← hx2, Bl_size, Bl_size]; omega
  have n2 : ¬ 9223372036854775807 < x1.size + x2.size + x3.size := by rw [← hx1, ← hx2, ← hx3, Bl_size, Bl_size, Bl_size]; omega
  have n3 : ¬ 9223372036854775807 < x1.size + x2.size + x3.size + x4.size := by rw [← hx1, ← hx2, ← hx3, ← hx4, Bl_size, Bl_size, Bl_size, Bl_size]; omega
  have n4 : ¬ 9223372036854775807 < x1.size + x2.size + x3.size + x4.size + x5.size := by rw [← hx1, ← hx2, ← hx3, ← hx4, ← hx5, Bl_size, Bl_size, Bl_size, Bl_size, Bl_size]; omega
  have nH := batH_len hz
  have hLH : Lb (x1 ++ x2 ++ x3 ++ x4 ++ x5) = batH a := by rw [← hH, Lb_Bl]
  have nS : (x1 ++ x2 ++ x3 ++ x4 ++ x5).size ≤ 200 := by rw [← Lb_len, hLH]; exact nH
  have HR := Lib.hid hR
  have HLH := Lib.hid hLH
  have HLEN := Lib.hid hlen
  have H7 := Lib.hid h7
  have HN := Lib.hid h6
  clear hx1 hx2 hx3 hx4 hx5 hH e1 e2 e3 e4 e5 e6 nH hR hLH hlen h7 h1 h2 h2' h3 h4 h5 h6 hz
  go_upto_region 4 with (fail)
  have hBk := bld_new w2
  have hBd : Below w2.heap.size w2 (w2.alloc (.cells #[.pointer none, .slice none 0 0] 67)) := (Below.refl _ w2).alloc (Nat.le_refl _) _
  have hszB : w2.heap.size ≤ (w2.alloc (.cells #[.pointer none, .slice none 0 0] 67)).heap.size := hBd.size
  generalize w2.alloc (.cells #[.pointer none, .slice none 0 0] 67) = w3 at hBk hBd hszB ⊢
  have hbB := World.block_lt_of_cell? _ _ c0
  simp only at hbB
  have hB2 := hBd
  have c0 := (hB2.cell (p := ⟨b, 0, none⟩) (World.block_lt_of_cell? _ _ c0)).trans c0
  have c1 := (hB2.cell (p := ⟨b, 1, none⟩) (World.block_lt_of_cell? _ _ c1)).trans c1
  have c2 := (hB2.cell (p := ⟨b, 2, none⟩) (World.block_lt_of_cell? _ _ c2)).trans c2
  have c3 := (hB2.cell (p := ⟨b, 3, none⟩) (World.block_lt_of_cell? _ _ c3)).trans c3
  have c4 := (hB2.cell (p := ⟨b, 4, none⟩) (World.block_lt_of_cell? _ _ c4)).trans c4
  have HD := Lib.hid (hBk.fresh (show Below w3.heap.size w3 w3.drew from ⟨rfl, rfl, rfl, Nat.le_refl _, fun _ _ => rfl⟩))
  have HB3 := Lib.hid (HB2.out.trans (hBd.mono HB2.out.size))
  have HA := Lib.hid (show Below w3.heap.size w3 w3.drew from ⟨rfl, rfl, rfl, Nat.le_refl _, fun _ _ => rfl⟩)
  have HSZ := Lib.hid hszB
  obtain ⟨B, hBe⟩ : ∃ B, w2.heap.size = B := ⟨_, rfl⟩
  rw [hBe] at HD HSZ hbB ⊢
  have HBE := Lib.hid hBe
  clear hBk hBd hB2 hszB hBe
  have HC4 := Lib.hid c4
  go_cut [] (fun wx => Bld wx B B (batH a) ∧ Below w.heap.size w wx ∧ wx.cell? ⟨b, 4, none⟩ = some (.slice A a.evs.length c) ∧ B ≤ wx.heap.size)
  case first =>
    go_region_held3 (fun x => x.cell? ⟨b, 0, none⟩ = some (.string a.stream) ∧ x.cell? ⟨b, 1, none⟩ = some (.int .i64 a.expect) ∧ x.cell? ⟨b, 2, none⟩ = some (.int .i64 a.session) ∧ x.cell? ⟨b, 3, none⟩ = some (.int .i64 a.seq) ∧ x.cell? ⟨b, 4, none⟩ = some (.slice A a.evs.length c))
      (first | exact ⟨c0, c1, c2, c3, c4⟩ | go_keep)
      (first
        | (go_at_call 55
           with_reducible refine (C1.out _).mono ?_
           rintro e w2 ⟨rfl, hB2⟩
           have c0 := (hB2.cell (p := ⟨b, 0, none⟩) (World.block_lt_of_cell? _ _ c0)).trans c0
           have c1 := (hB2.cell (p := ⟨b, 1, none⟩) (World.block_lt_of_cell? _ _ c1)).trans c1
           have c2 := (hB2.cell (p := ⟨b, 2, none⟩) (World.block_lt_of_cell? _ _ c2)).trans c2
           have c3 := (hB2.cell (p := ⟨b, 3, none⟩) (World.block_lt_of_cell? _ _ c3)).trans c3
           have c4 := (hB2.cell (p := ⟨b, 4, none⟩) (World.block_lt_of_cell? _ _ c4)).trans c4
           have HD := Lib.hid (HD.out.fresh hB2)
           have HA := Lib.hid (HA.out.trans (hB2.mono HA.out.size))
           clear hB2
          )
        | (go_at_call 56
           with_reducible refine (C2.out _).mono ?_
           rintro e w2 ⟨rfl, hB2⟩
           have c0 := (hB2.cell (p := ⟨b, 0, none⟩) (World.block_lt_of_cell? _ _ c0)).trans c0
           have c1 := (hB2.cell (p := ⟨b, 1, none⟩) (World.block_lt_of_cell? _ _ c1)).trans c1
           have c2 := (hB2.cell (p := ⟨b, 2, none⟩) (World.block_lt_of_cell? _ _ c2)).trans c2
           have c3 := (hB2.cell (p := ⟨b, 3, none⟩) (World.block_lt_of_cell? _ _ c3)).trans c3
           have c4 := (hB2.cell (p := ⟨b, 4, none⟩) (World.block_lt_of_cell? _ _ c4)).trans c4
           have HD := Lib.hid (HD.out.fresh hB2)
           have HA := Lib.hid (HA.out.trans (hB2.mono HA.out.size))
           clear hB2
          )
        | (go_at_call 33
           with_reducible refine (C3.out _).mono ?_
           rintro e w2 ⟨rfl, hB2⟩
           have c0 := (hB2.cell (p := ⟨b, 0, none⟩) (World.block_lt_of_cell? _ _ c0)).trans c0
           have c1 := (hB2.cell (p := ⟨b, 1, none⟩) (World.block_lt_of_cell? _ _ c1)).trans c1
           have c2 := (hB2.cell (p := ⟨b, 2, none⟩) (World.block_lt_of_cell? _ _ c2)).trans c2
           have c3 := (hB2.cell (p := ⟨b, 3, none⟩) (World.block_lt_of_cell? _ _ c3)).trans c3
           have c4 := (hB2.cell (p := ⟨b, 4, none⟩) (World.block_lt_of_cell? _ _ c4)).trans c4
           have HD := Lib.hid (HD.out.fresh hB2)
           have HA := Lib.hid (HA.out.trans (hB2.mono HA.out.size))
           clear hB2
          )
        | (go_at_call 33
           with_reducible refine (C4.out _).mono ?_
           rintro e w2 ⟨rfl, hB2⟩
           have c0 := (hB2.cell (p := ⟨b, 0, none⟩) (World.block_lt_of_cell? _ _ c0)).trans c0
           have c1 := (hB2.cell (p := ⟨b, 1, none⟩) (World.block_lt_of_cell? _ _ c1)).trans c1
           have c2 := (hB2.cell (p := ⟨b, 2, none⟩) (World.block_lt_of_cell? _ _ c2)).trans c2
           have c3 := (hB2.cell (p := ⟨b, 3, none⟩) (World.block_lt_of_cell? _ _ c3)).trans c3
           have c4 := (hB2.cell (p := ⟨b, 4, none⟩) (World.block_lt_of_cell? _ _ c4)).trans c4
           have HD := Lib.hid (HD.out.fresh hB2)
           have HA := Lib.hid (HA.out.trans (hB2.mono HA.out.size))
           clear hB2
          )
        | (go_at_call 33
           with_reducible refine (C5.out _).mono ?_
           rintro e w2 ⟨rfl, hB2⟩
           have c0 := (hB2.cell (p := ⟨b, 0, none⟩) (World.block_lt_of_cell? _ _ c0)).trans c0
           have c1 := (hB2.cell (p := ⟨b, 1, none⟩) (World.block_lt_of_cell? _ _ c1)).trans c1
           have c2 := (hB2.cell (p := ⟨b, 2, none⟩) (World.block_lt_of_cell? _ _ c2)).trans c2
           have c3 := (hB2.cell (p := ⟨b, 3, none⟩) (World.block_lt_of_cell? _ _ c3)).trans c3
           have c4 := (hB2.cell (p := ⟨b, 4, none⟩) (World.block_lt_of_cell? _ _ c4)).trans c4
           have HD := Lib.hid (HD.out.fresh hB2)
           have HA := Lib.hid (HA.out.trans (hB2.mono HA.out.size))
           clear hB2
          )
        | (go_at_call 39
           refine (bld_write HD.out (x1 ++ x2 ++ x3 ++ x4 ++ x5) (by simp only [List.length_nil]; omega) (Nat.le_trans HSZ.out HA.out.size)).mono ?_
           rintro e w5 ⟨rfl, hD5, hB5⟩
           have HD5 := Lib.hid hD5
           have HB5 := Lib.hid hB5
           have d4 := (hB5.cell (p := ⟨b, 4, none⟩) hbB).trans c4
           have d0 := (hB5.cell (p := ⟨b, 0, none⟩) hbB).trans c0
           have d1 := (hB5.cell (p := ⟨b, 1, none⟩) hbB).trans c1
           have d2 := (hB5.cell (p := ⟨b, 2, none⟩) hbB).trans c2
           have d3 := (hB5.cell (p := ⟨b, 3, none⟩) hbB).trans c3
           clear hD5 hB5))
    go_wp2_with fail
    go_meet
    have hD6 := HD5.out
    rw [HLH.out, List.nil_append] at hD6
    have hwB : w.heap.size ≤ B := by have := HB2.out.size; have := HBE.out; omega
    have hs5 := HB5.out.size
    exact ⟨hD6, (HB3.out.trans (HA.out.mono HB3.out.size)).trans (HB5.out.mono hwB), d4, by have := HSZ.out; have := HA.out.size; omega⟩
  case rest =>
    obtain ⟨hD, hB6, c4, hs6⟩ := hcut
    have HD6 := Lib.hid hD
    have HB6 := Lib.hid hB6
    clear hD hB6 c0 c1 c2 c3 n1 n2 n3 n4 nS C1 C2 C3 C4 C5 HD HA HLH HC4
    go_wp2_with fail
    go_loopw [5, 33] (fun _ i wr => ∃ k : Nat, k ≤ a.evs.length ∧ i = .int .i64 k ∧ Bld wr B B (batH a ++ (a.evs.take k).flatMap evbL) ∧ Below w.heap.size w wr ∧ B ≤ wr.heap.size) (fun _ i _ => a.evs.length - (intOf i).toNat)
    case atStart => exact ⟨0, Nat.zero_le _, rfl, by rw [List.take_zero]; simpa using HD6.out, HB6.out, hs6⟩
    case round =>
      obtain ⟨k, hk, rfl, hD7, hB7, hs7⟩ := hrel
      have HD7 := Lib.hid hD7
      have HB7 := Lib.hid hB7
      clear hD7 hB7
      by_cases hlt : k < a.evs.length
      · have d0 : decide ((k : Int) < (a.evs.length : Int)) = true := by simp; omega
        obtain ⟨q, o, rfl, _, _, hxx⟩ := (HS.out.fresh HB7.out).cell_ hlt
        have x0 := hxx 0 _ rfl
        have x1 := hxx 1 _ rfl
        simp only [Nat.add_zero] at x0
        have hr := rightE_sizes (H7.out a.evs[k] (List.getElem_mem hlt))
        clear hxx
        go_wp2_with fail
        refine (ebytes_any _ a.evs[k] (by omega) (by omega)).mono ?_
        rintro e w4 ⟨rfl, hB4⟩
        have hb4 : Below wr.heap.size wr w4 := ((Below.refl _ wr).alloc (Nat.le_refl _) _).trans (hB4.mono (by simp))
        have HB4 := Lib.hid hb4
        have HD4 := Lib.hid (HD7.out.fresh hb4)
        have hts : (a.evs.take (k + 1)).flatMap evbL = (a.evs.take k).flatMap evbL ++ evbL a.evs[k] := flat_succ _ _ hlt
        have hle : (batH a ++ (a.evs.take k).flatMap evbL).length + (evbL a.evs[k]).length ≤ 3000 := by
          have h1 := HLEN.out
          have h2 : (a.evs.flatMap evbL) = (a.evs.take (k + 1)).flatMap evbL ++ (a.evs.drop (k + 1)).flatMap evbL := by rw [← List.flatMap_append, List.take_append_drop]
          rw [h2, hts] at h1
          simp only [List.length_append] at h1 ⊢
          omega
        have HTS := Lib.hid hts
        clear hb4 hB4 hts
        go_wp2_with fail
        refine (bld_write HD4.out (Bl (evbL a.evs[k])) (by rw [Bl_size]; omega) (Nat.le_trans hs7 HB4.out.size)).mono ?_
        rintro e w5 ⟨rfl, hD5, hB5⟩
        have HD5 := Lib.hid hD5
        have HB5 := Lib.hid hB5
        clear hD5 hB5 x0 x1
        go_wp2_with fail
        go_roundw
        case rel =>
          have hwB : w.heap.size ≤ B := by have := HB2.out.size; have := HBE.out; omega
          refine ⟨k + 1, hlt, by go_num, ?_, (HB7.out.trans (HB4.out.mono HB7.out.size)).trans (HB5.out.mono hwB), by have := HB4.out.size; have := HB5.out.size; omega⟩
          have := HD5.out
          rw [Lb_Bl, List.append_assoc] at this
          rw [HTS.out]
          exact this
        case measure => simp [intOf]; omega
      · have hkd : k = a.evs.length := by omega
        subst hkd
        have d0 : decide ((a.evs.length : Int) < (a.evs.length : Int)) = false := by simp
        have hD8 := HD7.out
        rw [List.take_length] at hD8
        have HD8 := Lib.hid hD8
        clear hD8
        go_wp2_with fail
        refine (bld_string HD8.out hs7).mono ?_
        rintro e w5 ⟨rfl, _, hB5⟩
        have hwB : w.heap.size ≤ B := by have := HB2.out.size; have := HBE.out; omega
        have HB5 := Lib.hid (HB7.out.trans (hB5.mono hwB))
        clear hB5
        go_wp2_with fail
        go_ret
        rw [HR.out]
        exact ⟨rfl, HB5.out⟩
end Go.Proofs.YtimfoijajafdpaaDoor
