/- The document's bytes of entries and rows (bucketlineref6). Under the stated premises on sizes. -/
import Derived.Test.YtimfoijajafdpaaDoorCodR
import Derived.Test.YtimfoijajafdpaaDoorCodD
import Derived.Test.YtimfoijajafdpaaDoorBlU
namespace Go.Proofs.YtimfoijajafdpaaDoor
open Go.RowKit Go.Bl
attribute [local go_sem ↓] Go.wp_at_zero Go.wp_at_succ

set_option maxRecDepth 10000 in
set_option maxHeartbeats 4000000 in
theorem drPut_any (w : World) (G : Nat → Prop) (a : Ent) (h : BatchSm w G a) :
    Calls Tryd.prog 20 #[.agg #[.int .i64 a.pos, .int .i64 a.epoch, .string a.stream, .int .i64 a.expect, .int .i64 a.session, .int .i64 a.seq, a.evv]] w fun x w' => x = .returned (.string (Bl (entP a))) ∧ Below w.heap.size w w' := by
  obtain ⟨A, c, hv, hA1, hA2⟩ := h.1.shape
  unfold maxLen at hA2
  have hB0 : Below w.heap.size w (w.alloc (.cells #[.int .i64 a.pos, .int .i64 a.epoch, .string a.stream, .int .i64 a.expect, .int .i64 a.session, .int .i64 a.seq, .slice A a.evs.length c] 29)) := (Below.refl _ w).alloc (Nat.le_refl _) _
  have hblk := heap_alloc_new w (.cells #[.int .i64 a.pos, .int .i64 a.epoch, .string a.stream, .int .i64 a.expect, .int .i64 a.session, .int .i64 a.seq, .slice A a.evs.length c] 29)
  have hf := fun (wz : World) (hz : Below w.heap.size w wz) => rright_any wz G a (h.fresh hz)
  have hp := fun (wz : World) (hz : Below w.heap.size w wz) => dputBatch_any wz G a (h.fresh hz)
  rw [hv] at hf hp ⊢
  have HF := Lib.hid hf
  have HP := Lib.hid hp
  have HB := Lib.hid hB0
  clear hv hf hp hB0 h
  go_enter Tryd.func20, Tryd.ntmps20
  go_upto_region 1 with (fail)
  obtain ⟨b, hb⟩ : ∃ b, w.heap.size = b := ⟨_, rfl⟩
  rw [hb] at hblk
  have HBB := Lib.hid hb
  generalize w.alloc (.cells #[.int .i64 a.pos, .int .i64 a.epoch, .string a.stream, .int .i64 a.expect, .int .i64 a.session, .int .i64 a.seq, .slice A a.evs.length c] 29) = w1 at HB hblk ⊢
  rw [hb]
  clear hb
  have c0 : w1.cell? ⟨b, 0, none⟩ = some (.int .i64 a.pos) := cell_of_row w1 b 0 _ _ _ hblk
  have c1 : w1.cell? ⟨b, 1, none⟩ = some (.int .i64 a.epoch) := cell_of_row w1 b 1 _ _ _ hblk
  have c2 : w1.cell? ⟨b, 2, none⟩ = some (.string a.stream) := cell_of_row w1 b 2 _ _ _ hblk
  have c3 : w1.cell? ⟨b, 3, none⟩ = some (.int .i64 a.expect) := cell_of_row w1 b 3 _ _ _ hblk
  have c4 : w1.cell? ⟨b, 4, none⟩ = some (.int .i64 a.session) := cell_of_row w1 b 4 _ _ _ hblk
  have c5 : w1.cell? ⟨b, 5, none⟩ = some (.int .i64 a.seq) := cell_of_row w1 b 5 _ _ _ hblk
  have c6 : w1.cell? ⟨b, 6, none⟩ = some (.slice A a.evs.length c) := cell_of_row w1 b 6 _ _ _ hblk
  clear hblk
  go_wp2_with fail
  refine (HF.out w1 HB.out).mono ?_
  rintro x w2 ⟨rfl, hB2⟩
  have c0 := (hB2.cell (p := ⟨b, 0, none⟩) (World.block_lt_of_cell? _ _ c0)).trans c0
  have c1 := (hB2.cell (p := ⟨b, 1, none⟩) (World.block_lt_of_cell? _ _ c1)).trans c1
  have c2 := (hB2.cell (p := ⟨b, 2, none⟩) (World.block_lt_of_cell? _ _ c2)).trans c2
  have c3 := (hB2.cell (p := ⟨b, 3, none⟩) (World.block_lt_of_cell? _ _ c3)).trans c3
  have c4 := (hB2.cell (p := ⟨b, 4, none⟩) (World.block_lt_of_cell? _ _ c4)).trans c4
  have c5 := (hB2.cell (p := ⟨b, 5, none⟩) (World.block_lt_of_cell? _ _ c5)).trans c5
  have c6 := (hB2.cell (p := ⟨b, 6, none⟩) (World.block_lt_of_cell? _ _ c6)).trans c6
  have HB2 := Lib.hid (HB.out.trans (hB2.mono HB.out.size))
  clear hB2 HF
  cases hz : rightB a
  · have hR : Hid (entP a = []) := Lib.hid (by unfold entP; rw [hz]; rfl)
    clear hz
    go_wp2_with fail
    go_ret
    rw [hR.out]
    exact ⟨rfl, HB2.out⟩
  obtain ⟨h1, h2, h3⟩ := right_fits hz
  have hbp : batP a = batL a := if_pos h3
  rw [hbp] at HP
  have hbl := batL_len h3
  have e1 := numL_len (n := a.pos.toNat) (by omega)
  have e2 := numL_len (n := a.epoch.toNat) (by omega)
  have C1 := Lib.hid (fun W => dput_in W a.pos (by omega) (by omega))
  have C2 := Lib.hid (fun W => dput_in W a.epoch (by omega) (by omega))
  have hH : Bl (entP a) = Bl (numL a.pos.toNat) ++ Bl (numL a.epoch.toNat) ++ Bl (batL a) := by
    unfold entP entL; rw [hz]; simp only [Bl_append, if_true, ByteArray.append_assoc]
  obtain ⟨x1, hx1⟩ : ∃ x, Bl (numL a.pos.toNat) = x := ⟨_, rfl⟩
  obtain ⟨x2, hx2⟩ : ∃ x, Bl (numL a.epoch.toNat) = x := ⟨_, rfl⟩
  obtain ⟨x3, hx3⟩ : ∃ x, Bl (batL a) = x := ⟨_, rfl⟩
  rw [hx1, hx2, hx3] at hH
  rw [hx1] at C1
  rw [hx2] at C2
  rw [hx3] at HP
  have n1 : ¬ 9223372036854775807 < x1.size + x2.size := by rw [← hx1, ← hx2, Bl_size, Bl_size]; omega
  have n2 : ¬ 9223372036854775807 < x1.size + x2.size + x3.size := by rw [← hx1, ← hx2, ← hx3, Bl_size, Bl_size, Bl_size]; omega
  have HH := Lib.hid hH
  clear hx1 hx2 hx3 hH e1 e2 hbl h1 h2 h3 hz hbp
  go_upto_region 4 with (fail)
  have HA := Lib.hid (show Below w2.heap.size w2 w2.drew from ⟨rfl, rfl, rfl, Nat.le_refl _, fun _ _ => rfl⟩)
  go_region_held3 (fun x => x.cell? ⟨b, 0, none⟩ = some (.int .i64 a.pos) ∧ x.cell? ⟨b, 1, none⟩ = some (.int .i64 a.epoch) ∧ x.cell? ⟨b, 2, none⟩ = some (.string a.stream) ∧ x.cell? ⟨b, 3, none⟩ = some (.int .i64 a.expect) ∧ x.cell? ⟨b, 4, none⟩ = some (.int .i64 a.session) ∧ x.cell? ⟨b, 5, none⟩ = some (.int .i64 a.seq) ∧ x.cell? ⟨b, 6, none⟩ = some (.slice A a.evs.length c))
    (first | exact ⟨c0, c1, c2, c3, c4, c5, c6⟩ | go_keep)
    (first
      | (go_at_call 35
         with_reducible refine (C1.out _).mono ?_
         rintro e w2 ⟨rfl, hB2⟩
         have c0 := (hB2.cell (p := ⟨b, 0, none⟩) (World.block_lt_of_cell? _ _ c0)).trans c0
         have c1 := (hB2.cell (p := ⟨b, 1, none⟩) (World.block_lt_of_cell? _ _ c1)).trans c1
         have c2 := (hB2.cell (p := ⟨b, 2, none⟩) (World.block_lt_of_cell? _ _ c2)).trans c2
         have c3 := (hB2.cell (p := ⟨b, 3, none⟩) (World.block_lt_of_cell? _ _ c3)).trans c3
         have c4 := (hB2.cell (p := ⟨b, 4, none⟩) (World.block_lt_of_cell? _ _ c4)).trans c4
         have c5 := (hB2.cell (p := ⟨b, 5, none⟩) (World.block_lt_of_cell? _ _ c5)).trans c5
         have c6 := (hB2.cell (p := ⟨b, 6, none⟩) (World.block_lt_of_cell? _ _ c6)).trans c6
         have HA := Lib.hid (HA.out.trans (hB2.mono HA.out.size))
         clear hB2
        )
      | (go_at_call 35
         with_reducible refine (C2.out _).mono ?_
         rintro e w2 ⟨rfl, hB2⟩
         have c0 := (hB2.cell (p := ⟨b, 0, none⟩) (World.block_lt_of_cell? _ _ c0)).trans c0
         have c1 := (hB2.cell (p := ⟨b, 1, none⟩) (World.block_lt_of_cell? _ _ c1)).trans c1
         have c2 := (hB2.cell (p := ⟨b, 2, none⟩) (World.block_lt_of_cell? _ _ c2)).trans c2
         have c3 := (hB2.cell (p := ⟨b, 3, none⟩) (World.block_lt_of_cell? _ _ c3)).trans c3
         have c4 := (hB2.cell (p := ⟨b, 4, none⟩) (World.block_lt_of_cell? _ _ c4)).trans c4
         have c5 := (hB2.cell (p := ⟨b, 5, none⟩) (World.block_lt_of_cell? _ _ c5)).trans c5
         have c6 := (hB2.cell (p := ⟨b, 6, none⟩) (World.block_lt_of_cell? _ _ c6)).trans c6
         have HA := Lib.hid (HA.out.trans (hB2.mono HA.out.size))
         clear hB2
        )
      | (go_at_call 36
         refine (HP.out _ (HB2.out.trans (HA.out.mono HB2.out.size))).mono ?_
         rintro e w2 ⟨rfl, hB2⟩
         have c0 := (hB2.cell (p := ⟨b, 0, none⟩) (World.block_lt_of_cell? _ _ c0)).trans c0
         have c1 := (hB2.cell (p := ⟨b, 1, none⟩) (World.block_lt_of_cell? _ _ c1)).trans c1
         have c2 := (hB2.cell (p := ⟨b, 2, none⟩) (World.block_lt_of_cell? _ _ c2)).trans c2
         have c3 := (hB2.cell (p := ⟨b, 3, none⟩) (World.block_lt_of_cell? _ _ c3)).trans c3
         have c4 := (hB2.cell (p := ⟨b, 4, none⟩) (World.block_lt_of_cell? _ _ c4)).trans c4
         have c5 := (hB2.cell (p := ⟨b, 5, none⟩) (World.block_lt_of_cell? _ _ c5)).trans c5
         have c6 := (hB2.cell (p := ⟨b, 6, none⟩) (World.block_lt_of_cell? _ _ c6)).trans c6
         have HA := Lib.hid (HA.out.trans (hB2.mono HA.out.size))
         clear hB2
        ))
  go_wp2_with fail
  go_ret
  rw [HH.out]
  exact ⟨rfl, HB2.out.trans (HA.out.mono HB2.out.size)⟩

def EntsSm (w : World) (G : Nat → Prop) (v : Value) (l : List Ent) : Prop := Sl w G 7 entc v l ∧ ∀ a ∈ l, BatchSm w G a
theorem EntsSm.fresh {w w' : World} {G : Nat → Prop} {v : Value} {l : List Ent} (h : EntsSm w G v l) (hB : Below w.heap.size w w') : EntsSm w' G v l := ⟨h.1.fresh hB, fun a ha => (h.2 a ha).fresh hB⟩
theorem bl_ne {l : List UInt8} (h : 0 < l.length) : (Bl l).toList.isEmpty = false := by
  rw [ByteArray.toList_eq]
  cases l with
  | nil => simp at h
  | cons x l => rfl
set_option maxRecDepth 10000 in
set_option maxHeartbeats 4000000 in
theorem dputRow_any (w : World) (G : Nat → Prop) (v : Value) (l : List Ent) (h : EntsSm w G v l) (hl : l.length ≤ 1000) :
    Calls Tryd.prog 22 #[v] w fun x w' => x = .returned (.string (Bl (rowP l))) ∧ Below w.heap.size w w' := by
  obtain ⟨A, c, rfl, hA1, hA2⟩ := h.1.shape
  unfold maxLen at hA2
  have HS := Lib.hid h
  have C1 := Lib.hid (fun W => dput_in W (l.length : Int) (by omega) (by omega))
  rw [Int.toNat_natCast] at C1
  have hnl := numL_len (n := l.length) (by omega)
  clear h
  go_enter Tryd.func22, Tryd.ntmps22
  go_wp2_with fail
  refine (C1.out w).mono ?_
  rintro x w1 ⟨rfl, hB1⟩
  have HB1 := Lib.hid hB1
  clear hB1
  go_wp2_with fail
  go_loopw [3, 4, 5] (fun s i _ wr => ∃ k : Nat, k ≤ l.length ∧ i = .int .i64 k ∧ s = .string (Bl (numL l.length ++ (l.take k).flatMap entP)) ∧ (∀ a ∈ l.take k, rightB a = true) ∧ Below w.heap.size w wr) (fun _ i _ _ => l.length - (Go.RowKit.intOf i).toNat)
  case atStart => exact ⟨0, Nat.zero_le _, rfl, by rw [List.take_zero]; simp, by simp, HB1.out⟩
  case round =>
    obtain ⟨k, hk, rfl, rfl, hall, hB7⟩ := hrel
    have HB7 := Lib.hid hB7
    have HALL := Lib.hid hall
    clear hB7 hall
    by_cases hlt : k < l.length
    · have d0 : decide ((k : Int) < (l.length : Int)) = true := by simp; omega
      have hE := HS.out.fresh HB7.out
      obtain ⟨q, o, rfl, _, _, hxx⟩ := hE.1.cell_ hlt
      have x0 := hxx 0 _ rfl
      have x1 := hxx 1 _ rfl
      have x2 := hxx 2 _ rfl
      have x3 := hxx 3 _ rfl
      have x4 := hxx 4 _ rfl
      have x5 := hxx 5 _ rfl
      have x6 := hxx 6 _ rfl
      simp only [Nat.add_zero] at x0
      have hbk := hE.2 l[k] (List.getElem_mem hlt)
      obtain ⟨A9, c9, hv9, _, _⟩ := hbk.1.shape
      have hn := drPut_any wr G l[k] hbk
      rw [hv9] at hn x6
      cases hr : rightB l[k]
      · have he : entP l[k] = [] := by unfold entP; rw [hr]; rfl
        rw [he] at hn
        have HN := Lib.hid hn
        have hR : Hid (rowP l = []) := Lib.hid (by
          unfold rowP
          rw [show l.all rightB = false by rw [List.all_eq_false]; exact ⟨l[k], List.getElem_mem hlt, by rw [hr]; decide⟩]
          rfl)
        clear hxx hE hbk hv9 hn he
        go_wp2_with fail
        refine HN.out.mono ?_
        rintro x w4 ⟨rfl, hB4⟩
        rw [show Bl [] = ⟨#[]⟩ from rfl]
        go_wp2_with fail
        go_ret
        rw [hR.out]
        exact ⟨rfl, HB7.out.trans (hB4.mono HB7.out.size)⟩
      · have he : entP l[k] = entL l[k] := by unfold entP; rw [hr]; rfl
        have hpos := entL_pos l[k]
        have hts := flat_succ entP l hlt
        have hle : (numL l.length ++ (l.take k).flatMap entP).length + (entP l[k]).length ≤ 4000000 := by
          have h1 := flat_len entP 3100 (l.take k) (fun a _ => entP_len a)
          have h2 := entP_len l[k]
          rw [List.length_take] at h1
          have h3 : min k l.length * 3100 ≤ 1000 * 3100 := Nat.mul_le_mul_right _ (by omega)
          rw [List.length_append]
          omega
        rw [← he] at hpos
        have hne := bl_ne hpos
        obtain ⟨S, hS⟩ : ∃ S, Bl (numL l.length ++ (l.take k).flatMap entP) = S := ⟨_, rfl⟩
        obtain ⟨Z, hZ⟩ : ∃ Z, Bl (entP l[k]) = Z := ⟨_, rfl⟩
        have hnov : ¬ 9223372036854775807 < S.size + Z.size := by rw [← hS, ← hZ, Bl_size, Bl_size]; omega
        have hSZ : S ++ Z = Bl (numL l.length ++ (l.take (k + 1)).flatMap entP) := by rw [← hS, ← hZ, hts, ← Bl_append, List.append_assoc]
        rw [hS]
        rw [hZ] at hn hne
        have HN := Lib.hid hn
        have HSZ := Lib.hid hSZ
        clear hxx hE hbk hv9 hn he hts hle hS hZ hSZ hpos
        go_wp2_with fail
        refine HN.out.mono ?_
        rintro x w4 ⟨rfl, hB4⟩
        have HB4 := Lib.hid hB4
        clear hB4 x0 x1 x2 x3 x4 x5 x6
        go_wp2_with fail
        go_roundw
        case rel =>
          refine ⟨k + 1, hlt, by go_num, by rw [HSZ.out], fun e he => ?_, HB7.out.trans (HB4.out.mono HB7.out.size)⟩
          rw [List.take_succ_eq_append_getElem hlt, List.mem_append, List.mem_singleton] at he
          rcases he with he | rfl
          · exact HALL.out e he
          · exact hr
        case measure => simp [Go.RowKit.intOf]; omega
    · have hkd : k = l.length := by omega
      subst hkd
      have d0 : decide ((l.length : Int) < (l.length : Int)) = false := by simp
      have hR : Hid (rowP l = numL l.length ++ l.flatMap entP) := Lib.hid (by
        have h1 := HALL.out
        rw [List.take_length] at h1
        have h2 : l.all rightB = true := List.all_eq_true.2 h1
        unfold rowP; rw [if_pos h2, flatP l h2])
      rw [List.take_length]
      go_wp2_with fail
      go_ret
      rw [hR.out]
      exact ⟨rfl, HB7.out⟩
end Go.Proofs.YtimfoijajafdpaaDoor
