/- RecordBack. Under the tables that utf8 lays. -/
import Derived.Test.YtimfoijajafdpaaDoorCodY
import Derived.Test.YtimfoijajafdpaaDoorCodU
namespace Go.Proofs.YtimfoijajafdpaaDoor
open Go.RowKit Go.Bl
attribute [local go_sem ↓] Go.wp_at_zero Go.wp_at_succ

theorem all_succ {l : List Ent} {k : Nat} (h : k < l.length) : (l.take (k + 1)).all rightB = ((l.take k).all rightB && rightB l[k]) := by
  rw [List.take_succ_eq_append_getElem h, List.all_append]; simp
theorem EntsOk.evs {w : World} {G : Nat → Prop} {v : Value} {l : List Ent} (h : EntsOk w G v l) : RowEvs w G v l := ⟨h.1, fun a ha => (h.2 a ha).1⟩
set_option maxRecDepth 10000 in
set_option maxHeartbeats 4000000 in
theorem back_any (w : World) (hT : Tabs w) (G : Nat → Prop) (v : Value) (l : List Ent) (h : EntsOk w G v l) (more : ByteArray) (hms : more.size ≤ 140737488351232) :
    Calls Tryd.prog 7 #[v, .string more] w fun x w' => x = .returned (.bool true) ∧ Below w.heap.size w w' := by
  obtain ⟨A, c, rfl, hA1, hA2⟩ := h.1.shape
  unfold maxLen at hA2
  have HT := Lib.hid hT
  have HA := Lib.hid h
  clear hT h
  go_enter Tryd.func7, Tryd.ntmps7
  go_wp2_with fail
  refine (shown_any w HT.out).mono ?_
  rintro x w1 ⟨rfl, hB1⟩
  have HB1 := Lib.hid hB1
  clear hB1
  go_wp2_with fail
  refine (small_any w1 G _ l (HA.out.fresh HB1.out)).mono ?_
  rintro x w2 ⟨rfl, hB2⟩
  have HB2 := Lib.hid (HB1.out.trans (hB2.mono HB1.out.size))
  clear hB2
  cases hsm : smallB l
  · go_wp2_with fail
    go_ret
    exact ⟨rfl, HB2.out⟩
  have hl40 := (smallB_at hsm).1
  have HSM := Lib.hid hsm
  by_cases hm3 : 300 < more.size
  · have d1 : decide ((300 : Int) < (more.size : Int)) = true := by simp; omega
    go_wp2_with fail
    go_ret
    exact ⟨rfl, HB2.out⟩
  have d1 : decide ((300 : Int) < (more.size : Int)) = false := by simp; omega
  obtain ⟨M, hM⟩ : ∃ M, Lb more = M := ⟨_, rfl⟩
  have hMb : Bl M = more := by rw [← hM, Bl_Lb]
  have hML : M.length = more.size := by rw [← hM, Lb_len]
  have HM := Lib.hid hMb
  have HML := Lib.hid hML
  clear hsm hM hMb hML
  go_wp2_with fail
  go_loopw [7, 8, 9, 10, 11, 12] (fun rt i _ _ _ _ wr => ∃ k : Nat, k ≤ l.length ∧ i = .int .i64 k ∧ rt = .bool ((l.take k).all rightB) ∧ Below w.heap.size w wr) (fun _ i _ _ _ _ _ => l.length - (Go.RowKit.intOf i).toNat)
  case atStart => exact ⟨0, Nat.zero_le _, rfl, rfl, HB2.out⟩
  case round =>
    obtain ⟨k, hk, rfl, rfl, hB⟩ := hrel
    have HB := Lib.hid hB
    clear hB
    by_cases hlt : k < l.length
    · have d0 : decide ((k : Int) < (l.length : Int)) = true := by simp; omega
      have hE := (HA.out.fresh HB.out).ents HSM.out
      obtain ⟨q, o, rfl, _, hql, hxx⟩ := hE.1.cell_ hlt
      have x0 := hxx 0 _ rfl
      have x1 := hxx 1 _ rfl
      have x2 := hxx 2 _ rfl
      have x3 := hxx 3 _ rfl
      have x4 := hxx 4 _ rfl
      have x5 := hxx 5 _ rfl
      have x6 := hxx 6 _ rfl
      simp only [Nat.add_zero] at x0
      have hbk := hE.2 l[k] (List.getElem_mem hlt)
      obtain ⟨A9, c9, hv9, _, _⟩ := hbk.1.shape
      have hTr := HT.out.fresh HB.out
      have hp := rPut_any wr hTr G l[k] hbk
      have hg := fun (wz : World) (hz : Below wr.heap.size wr wz) => right_any wz (hTr.fresh hz) G l[k] (hbk.fresh hz)
      have hs := fun (wz : World) (hz : Below wr.heap.size wr wz) (z : Ent) (Gz : Nat → Prop) (hzz : EvsAt wz Gz z) => dsame_any wz Gz G z l[k] hzz (Sl.fresh hbk.1 hz)
      rw [hv9] at hp hg hs x6
      have HG := Lib.hid hg
      have HS := Lib.hid hs
      have HTr := Lib.hid hTr
      clear hg hs hTr hE
      cases hra : rightB l[k]
      · have he : entP l[k] = [] := by unfold entP; rw [hra]; rfl
        rw [he, show Bl [] = ⟨#[]⟩ from rfl] at hp
        rw [hra] at HG
        have HP := Lib.hid hp
        clear hp he
        cases hal : (l.take k).all rightB
        ·
          clear hxx hbk hv9
          go_wp2_with fail
          refine HP.out.mono ?_
          rintro x w2 ⟨rfl, hB2⟩
          have x0 := (hB2.cell (p := ⟨q, o + k * 7, none⟩) (World.block_lt_of_cell? _ _ x0)).trans x0
          have x1 := (hB2.cell (p := ⟨q, o + k * 7 + 1, none⟩) (World.block_lt_of_cell? _ _ x1)).trans x1
          have x2 := (hB2.cell (p := ⟨q, o + k * 7 + 2, none⟩) (World.block_lt_of_cell? _ _ x2)).trans x2
          have x3 := (hB2.cell (p := ⟨q, o + k * 7 + 3, none⟩) (World.block_lt_of_cell? _ _ x3)).trans x3
          have x4 := (hB2.cell (p := ⟨q, o + k * 7 + 4, none⟩) (World.block_lt_of_cell? _ _ x4)).trans x4
          have x5 := (hB2.cell (p := ⟨q, o + k * 7 + 5, none⟩) (World.block_lt_of_cell? _ _ x5)).trans x5
          have x6 := (hB2.cell (p := ⟨q, o + k * 7 + 6, none⟩) (World.block_lt_of_cell? _ _ x6)).trans x6
          have HB2 := Lib.hid hB2
          clear hB2
          go_wp2_with fail
          refine (HG.out w2 HB2.out).mono ?_
          rintro x w3 ⟨rfl, hB3⟩
          have HB3 := Lib.hid (HB2.out.trans (hB3.mono HB2.out.size))
          clear hB3 x0 x1 x2 x3 x4 x5 x6
          go_wp2_with fail
          go_roundw
          case rel => exact ⟨k + 1, hlt, by go_num, by rw [all_succ hlt, hra, Bool.and_false], HB.out.trans (HB3.out.mono HB.out.size)⟩
          case measure => simp [Go.RowKit.intOf]; omega
        ·
          clear hxx hbk hv9
          go_wp2_with fail
          refine HP.out.mono ?_
          rintro x w2 ⟨rfl, hB2⟩
          have x0 := (hB2.cell (p := ⟨q, o + k * 7, none⟩) (World.block_lt_of_cell? _ _ x0)).trans x0
          have x1 := (hB2.cell (p := ⟨q, o + k * 7 + 1, none⟩) (World.block_lt_of_cell? _ _ x1)).trans x1
          have x2 := (hB2.cell (p := ⟨q, o + k * 7 + 2, none⟩) (World.block_lt_of_cell? _ _ x2)).trans x2
          have x3 := (hB2.cell (p := ⟨q, o + k * 7 + 3, none⟩) (World.block_lt_of_cell? _ _ x3)).trans x3
          have x4 := (hB2.cell (p := ⟨q, o + k * 7 + 4, none⟩) (World.block_lt_of_cell? _ _ x4)).trans x4
          have x5 := (hB2.cell (p := ⟨q, o + k * 7 + 5, none⟩) (World.block_lt_of_cell? _ _ x5)).trans x5
          have x6 := (hB2.cell (p := ⟨q, o + k * 7 + 6, none⟩) (World.block_lt_of_cell? _ _ x6)).trans x6
          have HB2 := Lib.hid hB2
          clear hB2
          go_wp2_with fail
          refine (HG.out w2 HB2.out).mono ?_
          rintro x w3 ⟨rfl, hB3⟩
          have HB3 := Lib.hid (HB2.out.trans (hB3.mono HB2.out.size))
          clear hB3 x0 x1 x2 x3 x4 x5 x6
          go_wp2_with fail
          go_roundw
          case rel => exact ⟨k + 1, hlt, by go_num, by rw [all_succ hlt, hra, Bool.and_false], HB.out.trans (HB3.out.mono HB.out.size)⟩
          case measure => simp [Go.RowKit.intOf]; omega
      · have he : entP l[k] = entL l[k] := by unfold entP; rw [hra]; rfl
        rw [he] at hp
        rw [hra] at HG
        have hlen := entL_len hra
        have hne := bl_ne (entL_pos l[k])
        have hcat : Bl (entL l[k]) ++ more = Bl (entL l[k] ++ M) := by rw [Bl_append, HM.out]
        have htk := fun (wz : World) (hz : Below wr.heap.size wr wz) => rtake_ok wz (HTr.out.fresh hz) l[k] hra M (by have := HML.out; omega)
        rw [← hcat] at htk
        obtain ⟨S, hS⟩ : ∃ S, Bl (entL l[k]) = S := ⟨_, rfl⟩
        have hnov : ¬ 9223372036854775807 < S.size + more.size := by rw [← hS, Bl_size]; omega
        rw [hS] at hp hne htk
        have hne2 : S.toList.isEmpty = false := hne
        have HP := Lib.hid hp
        have HTK := Lib.hid htk
        clear hp he hcat hS hxx hbk hv9 htk
        cases hal : (l.take k).all rightB
        all_goals
          go_wp2_with fail
          refine HP.out.mono ?_
          rintro x w2 ⟨rfl, hB2⟩
          have x0 := (hB2.cell (p := ⟨q, o + k * 7, none⟩) (World.block_lt_of_cell? _ _ x0)).trans x0
          have x1 := (hB2.cell (p := ⟨q, o + k * 7 + 1, none⟩) (World.block_lt_of_cell? _ _ x1)).trans x1
          have x2 := (hB2.cell (p := ⟨q, o + k * 7 + 2, none⟩) (World.block_lt_of_cell? _ _ x2)).trans x2
          have x3 := (hB2.cell (p := ⟨q, o + k * 7 + 3, none⟩) (World.block_lt_of_cell? _ _ x3)).trans x3
          have x4 := (hB2.cell (p := ⟨q, o + k * 7 + 4, none⟩) (World.block_lt_of_cell? _ _ x4)).trans x4
          have x5 := (hB2.cell (p := ⟨q, o + k * 7 + 5, none⟩) (World.block_lt_of_cell? _ _ x5)).trans x5
          have x6 := (hB2.cell (p := ⟨q, o + k * 7 + 6, none⟩) (World.block_lt_of_cell? _ _ x6)).trans x6
          have HB2 := Lib.hid hB2
          clear hB2
          go_wp2_with fail
          refine (HG.out w2 HB2.out).mono ?_
          rintro x w3 ⟨rfl, hB3⟩
          have x0 := (hB3.cell (p := ⟨q, o + k * 7, none⟩) (World.block_lt_of_cell? _ _ x0)).trans x0
          have x1 := (hB3.cell (p := ⟨q, o + k * 7 + 1, none⟩) (World.block_lt_of_cell? _ _ x1)).trans x1
          have x2 := (hB3.cell (p := ⟨q, o + k * 7 + 2, none⟩) (World.block_lt_of_cell? _ _ x2)).trans x2
          have x3 := (hB3.cell (p := ⟨q, o + k * 7 + 3, none⟩) (World.block_lt_of_cell? _ _ x3)).trans x3
          have x4 := (hB3.cell (p := ⟨q, o + k * 7 + 4, none⟩) (World.block_lt_of_cell? _ _ x4)).trans x4
          have x5 := (hB3.cell (p := ⟨q, o + k * 7 + 5, none⟩) (World.block_lt_of_cell? _ _ x5)).trans x5
          have x6 := (hB3.cell (p := ⟨q, o + k * 7 + 6, none⟩) (World.block_lt_of_cell? _ _ x6)).trans x6
          have HB3 := Lib.hid (HB2.out.trans (hB3.mono HB2.out.size))
          clear hB3
          go_wp2_with fail
          refine (HTK.out w3 HB3.out).mono ?_
          rintro x w4 ⟨ve, rfl, hO4, hB4⟩
          rw [HM.out]
          have x0 := (hB4.cell (p := ⟨q, o + k * 7, none⟩) (World.block_lt_of_cell? _ _ x0)).trans x0
          have x1 := (hB4.cell (p := ⟨q, o + k * 7 + 1, none⟩) (World.block_lt_of_cell? _ _ x1)).trans x1
          have x2 := (hB4.cell (p := ⟨q, o + k * 7 + 2, none⟩) (World.block_lt_of_cell? _ _ x2)).trans x2
          have x3 := (hB4.cell (p := ⟨q, o + k * 7 + 3, none⟩) (World.block_lt_of_cell? _ _ x3)).trans x3
          have x4 := (hB4.cell (p := ⟨q, o + k * 7 + 4, none⟩) (World.block_lt_of_cell? _ _ x4)).trans x4
          have x5 := (hB4.cell (p := ⟨q, o + k * 7 + 5, none⟩) (World.block_lt_of_cell? _ _ x5)).trans x5
          have x6 := (hB4.cell (p := ⟨q, o + k * 7 + 6, none⟩) (World.block_lt_of_cell? _ _ x6)).trans x6
          obtain ⟨Ae, ce, rfl, _, _⟩ := hO4.shape_ rfl
          have HO4 := Lib.hid hO4
          have HB4 := Lib.hid (HB3.out.trans (hB4.mono HB3.out.size))
          clear hO4 hB4
          go_upto_region 15 with (fail)
          have hb5 : Below w4.heap.size w4 (w4.alloc (.cells #[.int .i64 l[k].pos, .int .i64 l[k].epoch, .string l[k].stream, .int .i64 l[k].expect, .int .i64 l[k].session, .int .i64 l[k].seq, .slice Ae l[k].evs.length ce] 29)) := (Below.refl _ w4).alloc (Nat.le_refl _) _
          have hn5 := heap_alloc_new w4 (.cells #[.int .i64 l[k].pos, .int .i64 l[k].epoch, .string l[k].stream, .int .i64 l[k].expect, .int .i64 l[k].session, .int .i64 l[k].seq, .slice Ae l[k].evs.length ce] 29)
          generalize w4.alloc (.cells #[.int .i64 l[k].pos, .int .i64 l[k].epoch, .string l[k].stream, .int .i64 l[k].expect, .int .i64 l[k].session, .int .i64 l[k].seq, .slice Ae l[k].evs.length ce] 29) = w5 at hb5 hn5 ⊢
          obtain ⟨g, hg⟩ : ∃ g, w4.heap.size = g := ⟨_, rfl⟩
          rw [hg] at hn5 ⊢
          have x0 := (hb5.cell (p := ⟨q, o + k * 7, none⟩) (World.block_lt_of_cell? _ _ x0)).trans x0
          have x1 := (hb5.cell (p := ⟨q, o + k * 7 + 1, none⟩) (World.block_lt_of_cell? _ _ x1)).trans x1
          have x2 := (hb5.cell (p := ⟨q, o + k * 7 + 2, none⟩) (World.block_lt_of_cell? _ _ x2)).trans x2
          have x3 := (hb5.cell (p := ⟨q, o + k * 7 + 3, none⟩) (World.block_lt_of_cell? _ _ x3)).trans x3
          have x4 := (hb5.cell (p := ⟨q, o + k * 7 + 4, none⟩) (World.block_lt_of_cell? _ _ x4)).trans x4
          have x5 := (hb5.cell (p := ⟨q, o + k * 7 + 5, none⟩) (World.block_lt_of_cell? _ _ x5)).trans x5
          have x6 := (hb5.cell (p := ⟨q, o + k * 7 + 6, none⟩) (World.block_lt_of_cell? _ _ x6)).trans x6
          have z0 : w5.cell? ⟨g, 0, none⟩ = some (.int .i64 l[k].pos) := cell_of_row w5 _ 0 _ _ _ hn5
          have z1 : w5.cell? ⟨g, 1, none⟩ = some (.int .i64 l[k].epoch) := cell_of_row w5 _ 1 _ _ _ hn5
          have z2 : w5.cell? ⟨g, 2, none⟩ = some (.string l[k].stream) := cell_of_row w5 _ 2 _ _ _ hn5
          have z3 : w5.cell? ⟨g, 3, none⟩ = some (.int .i64 l[k].expect) := cell_of_row w5 _ 3 _ _ _ hn5
          have z4 : w5.cell? ⟨g, 4, none⟩ = some (.int .i64 l[k].session) := cell_of_row w5 _ 4 _ _ _ hn5
          have z5 : w5.cell? ⟨g, 5, none⟩ = some (.int .i64 l[k].seq) := cell_of_row w5 _ 5 _ _ _ hn5
          have z6 : w5.cell? ⟨g, 6, none⟩ = some (.slice Ae l[k].evs.length ce) := cell_of_row w5 _ 6 _ _ _ hn5
          have hB5 := HB4.out.trans (hb5.mono HB4.out.size)
          have hdr : Below w5.heap.size w5 w5.drew := ⟨rfl, rfl, rfl, Nat.le_refl _, fun _ _ => rfl⟩
          have hsm := HS.out w5.drew (hB5.trans (hdr.mono hB5.size)) ⟨l[k].pos, l[k].epoch, l[k].stream, l[k].expect, l[k].session, l[k].seq, .slice Ae l[k].evs.length ce, l[k].evs⟩ _ (((HO4.out.sl elEvW.len).fresh hb5).fresh hdr)
          rw [sameEnt_at] at hsm
          have HSM5 := Lib.hid hsm
          have HB5 := Lib.hid hB5
          have hkk : k < 9223372036854775807 := by omega
          clear hb5 hn5 hg hB5 hdr hsm
          refine region_mid 5 rfl (by kernel_rfl) (by kernel_rfl) ?_
          simp only [List.take_succ_cons, List.take_zero, List.drop_succ_cons, List.drop_zero]
          change wpStill _ _ w5.drew _ _ _
          refine still_of_quiet ?_
          repeat (go_big_quiet_step (fail))
          refine wpQuiet_nil ?_
          change wpList _ _ _ _ _ w5.drew
          go_wp2_with fail
          with_reducible refine HSM5.out.mono ?_
          rintro x w6 ⟨rfl, hB6⟩
          have HB6 := Lib.hid (HB5.out.trans ((show Below w5.heap.size w5 w6 from ⟨hB6.os, hB6.tape, hB6.output, hB6.size, hB6.block⟩).mono HB5.out.size))
          clear hB6 x0 x1 x2 x3 x4 x5 x6 z0 z1 z2 z3 z4 z5 z6
          go_wp2_with fail
          unfold Go.Bl.Rest
          refine still_of_quiet ?_
          repeat (go_big_quiet_step (fail))
          refine wpQuiet_nil ?_
          go_wp2_with fail
          go_roundw
          case rel => exact ⟨k + 1, hlt, by go_num, by rw [all_succ hlt, hra, hal]; rfl, HB.out.trans (HB6.out.mono HB.out.size)⟩
          case measure => simp [Go.RowKit.intOf]; omega
    · have hkd : k = l.length := by omega
      subst hkd
      have d0 : decide ((l.length : Int) < (l.length : Int)) = false := by simp
      have hE := (HA.out.fresh HB.out).ents HSM.out
      have hrow := putRow_any wr (HT.out.fresh HB.out) G _ l hE (by omega)
      rw [List.take_length]
      cases hal : l.all rightB
      · have hrp : rowP l = [] := by unfold rowP; rw [hal]; rfl
        rw [hrp, show Bl [] = ⟨#[]⟩ from rfl] at hrow
        have HRW := Lib.hid hrow
        clear hE hrow hrp
        go_wp2_with fail
        refine HRW.out.mono ?_
        rintro x w2 ⟨rfl, hB2'⟩
        go_wp2_with fail
        go_ret
        exact ⟨rfl, HB.out.trans (hB2'.mono HB.out.size)⟩
      · have hrp : rowP l = numL l.length ++ l.flatMap entL := by unfold rowP; rw [hal]; rfl
        rw [hrp] at hrow
        have hfl := flat_len entL 3100 l (fun a ha => entL_len (List.all_eq_true.1 hal a ha))
        have hfl2 : l.length * 3100 ≤ 40 * 3100 := Nat.mul_le_mul_right _ hl40
        have hnl := numL_len (n := l.length) (by omega)
        have t1 := fun (wz : World) (hz : Below w.heap.size w wz) => takeRow_ok wz (HT.out.fresh hz) l hal hl40 M (by have := HML.out; omega)
        have t2 := fun wz => takeRow_long wz l.length hl40 (l.flatMap entL) (by omega)
        have hcat : Bl (numL l.length ++ l.flatMap entL) ++ more = Bl (numL l.length ++ (l.flatMap entL ++ M)) := by rw [← HM.out, ← Bl_append, List.append_assoc]
        rw [← hcat] at t1
        obtain ⟨S, hS⟩ : ∃ S, Bl (numL l.length ++ l.flatMap entL) = S := ⟨_, rfl⟩
        have hnov : ¬ 9223372036854775807 < S.size + more.size := by rw [← hS, Bl_size, List.length_append]; omega
        rw [hS] at hrow t1 t2
        have T1 := Lib.hid t1
        have T2 := Lib.hid t2
        have HRW := Lib.hid hrow
        have hw1 : IntKind.i64.wrap ((l.length : Int) - 1) = (l.length : Int) - 1 := IntWalk.i64_in _ (by omega)
        clear hE hrow hrp t1 t2 hcat hS hfl hfl2 hnl
        go_wp2_with fail
        refine HRW.out.mono ?_
        rintro x w3 ⟨rfl, hB3⟩
        have HB3 := Lib.hid (HB.out.trans (hB3.mono HB.out.size))
        clear hB3
        go_wp2_with fail
        refine (T1.out w3 HB3.out).mono ?_
        rintro x w4 ⟨ve, L, rfl, hL4, hB4⟩
        rw [HM.out]
        have hLl : L.length = l.length := hL4.2.1
        obtain ⟨Ae, ce, rfl, _, _⟩ := hL4.1.shape_ hLl
        have HL4 := Lib.hid hL4
        have HB4 := Lib.hid (HB3.out.trans (hB4.mono HB3.out.size))
        have HLl := Lib.hid hLl
        clear hL4 hB4 hLl
        go_wp2_with fail
        refine (T2.out w4).mono ?_
        rintro x w5 ⟨rfl, hB5⟩
        have hrow5 := (HL4.out.fresh hB5).row
        have HB5 := Lib.hid (HB4.out.trans (hB5.mono HB4.out.size))
        have hsr := dsameRow_any w5 _ G _ _ _ l hrow5.1 ((HA.out.fresh HB5.out).evs)
        rw [hrow5.2] at hsr
        have HSR := Lib.hid hsr
        clear hB5 hrow5 hsr
        go_wp2_with fail
        refine HSR.out.mono ?_
        rintro x w6 ⟨rfl, hB6⟩
        go_wp2_with fail
        go_ret
        exact ⟨rfl, HB5.out.trans (hB6.mono HB5.out.size)⟩
end Go.Proofs.YtimfoijajafdpaaDoor
