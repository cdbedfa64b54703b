/- RecordPuts. Under the tables that utf8 lays. -/
import Derived.Test.YtimfoijajafdpaaDoorRecI
import Derived.Test.YtimfoijajafdpaaDoorCodT
import Derived.Test.YtimfoijajafdpaaDoorCodQ
namespace Go.Proofs.YtimfoijajafdpaaDoor
open Go.RowKit Go.Bl
attribute [local go_sem ↓] Go.wp_at_zero Go.wp_at_succ

theorem EntOk.batch {w : World} {G : Nat → Prop} {a : Ent} (h : EntOk w G a) (hl : lightB a = true) : BatchOk w G a := by
  have := lightB_at hl
  exact ⟨h.1, h.2.1, h.2.2.1, by omega⟩
theorem EntOk.sm {w : World} {G : Nat → Prop} {a : Ent} (h : EntOk w G a) (hl : lightB a = true) : BatchSm w G a := by
  have := lightB_at hl
  exact ⟨h.1, fun e he => ⟨by have := this.2.2 e he; omega, by have := this.2.2 e he; omega⟩, by omega, by omega⟩
theorem EntsOk.sms {w : World} {G : Nat → Prop} {v : Value} {l : List Ent} (h : EntsOk w G v l) (hs : smallB l = true) : EntsSm w G v l := ⟨h.1, fun a ha => (h.2 a ha).sm ((smallB_at hs).2 a ha)⟩
set_option maxRecDepth 10000 in
set_option maxHeartbeats 4000000 in
theorem puts_any (w : World) (hT : Tabs w) (G : Nat → Prop) (a : Ent) (ha : EntOk w G a) (v : Value) (l : List Ent) (h : EntsOk w G v l) :
    Calls Tryd.prog 6 #[.agg #[.int .i64 a.pos, .int .i64 a.epoch, .string a.stream, .int .i64 a.expect, .int .i64 a.session, .int .i64 a.seq, a.evv], v] w fun x w' => x = .returned (.bool true) ∧ Below w.heap.size w w' := by
  obtain ⟨A, c, hv, hA1, hA2⟩ := ha.1.shape
  obtain ⟨B, d, rfl, hB1, hB2⟩ := h.1.shape
  unfold maxLen at hA2 hB2
  have hB0 : Below w.heap.size w (w.alloc (.cells #[.int .i64 a.pos, .int .i64 a.epoch, .string a.stream, .int .i64 a.expect, .int .i64 a.session, .int .i64 a.seq, .slice A a.evs.length c] 29)) := (Below.refl _ w).alloc (Nat.le_refl _) _
  have hblk := heap_alloc_new w (.cells #[.int .i64 a.pos, .int .i64 a.epoch, .string a.stream, .int .i64 a.expect, .int .i64 a.session, .int .i64 a.seq, .slice A a.evs.length c] 29)
  have hli := fun (wz : World) (hz : Below w.heap.size w wz) => light_any wz G a (ha.fresh hz)
  have hr1 := fun (wz : World) (hz : Below w.heap.size w wz) (hl : lightB a = true) => right_any wz (hT.fresh hz) G a ((ha.fresh hz).batch hl)
  have hr2 := fun (wz : World) (hz : Below w.heap.size w wz) (hl : lightB a = true) => rright_any wz G a ((ha.fresh hz).sm hl)
  have hp1 := fun (wz : World) (hz : Below w.heap.size w wz) (hl : lightB a = true) => rPut_any wz (hT.fresh hz) G a ((ha.fresh hz).batch hl)
  have hp2 := fun (wz : World) (hz : Below w.heap.size w wz) (hl : lightB a = true) => drPut_any wz G a ((ha.fresh hz).sm hl)
  have hs1 := fun (wz : World) (hz : Below w.heap.size w wz) (z : Ent) (hzz : EvsAt wz G z) => rsame_any wz G G a z (ha.fresh hz).1 hzz
  have hs2 := fun (wz : World) (hz : Below w.heap.size w wz) (z : Ent) (hzz : EvsAt wz G z) => dsame_any wz G G a z (ha.fresh hz).1 hzz
  rw [hv] at hli hr1 hr2 hp1 hp2 hs1 hs2 ⊢
  have HLI := Lib.hid hli
  have HR1 := Lib.hid hr1
  have HR2 := Lib.hid hr2
  have HP1 := Lib.hid hp1
  have HP2 := Lib.hid hp2
  have HS1 := Lib.hid hs1
  have HS2 := Lib.hid hs2
  have HB := Lib.hid hB0
  have HT := Lib.hid hT
  have HE := Lib.hid h
  clear hv hli hr1 hr2 hp1 hp2 hs1 hs2 hB0 hT h ha
  go_enter Tryd.func6, Tryd.ntmps6
  go_upto_region 1 with (fail)
  obtain ⟨b, hb⟩ : ∃ b, w.heap.size = b := ⟨_, rfl⟩
  rw [hb] at hblk
  generalize w.alloc (.cells #[.int .i64 a.pos, .int .i64 a.epoch, .string a.stream, .int .i64 a.expect, .int .i64 a.session, .int .i64 a.seq, .slice A a.evs.length c] 29) = w1 at HB hblk ⊢
  rw [hb]
  clear hb
  have x0 : w1.cell? ⟨b, 0, none⟩ = some (.int .i64 a.pos) := cell_of_row w1 b 0 _ _ _ hblk
  have x1 : w1.cell? ⟨b, 1, none⟩ = some (.int .i64 a.epoch) := cell_of_row w1 b 1 _ _ _ hblk
  have x2 : w1.cell? ⟨b, 2, none⟩ = some (.string a.stream) := cell_of_row w1 b 2 _ _ _ hblk
  have x3 : w1.cell? ⟨b, 3, none⟩ = some (.int .i64 a.expect) := cell_of_row w1 b 3 _ _ _ hblk
  have x4 : w1.cell? ⟨b, 4, none⟩ = some (.int .i64 a.session) := cell_of_row w1 b 4 _ _ _ hblk
  have x5 : w1.cell? ⟨b, 5, none⟩ = some (.int .i64 a.seq) := cell_of_row w1 b 5 _ _ _ hblk
  have x6 : w1.cell? ⟨b, 6, none⟩ = some (.slice A a.evs.length c) := cell_of_row w1 b 6 _ _ _ hblk
  clear hblk
  go_wp2_with fail
  refine (shown_any w1 (HT.out.fresh HB.out)).mono ?_
  rintro x w2 ⟨rfl, hB2⟩
  have x0 := (hB2.cell (p := ⟨b, 0, none⟩) (World.block_lt_of_cell? _ _ x0)).trans x0
  have x1 := (hB2.cell (p := ⟨b, 1, none⟩) (World.block_lt_of_cell? _ _ x1)).trans x1
  have x2 := (hB2.cell (p := ⟨b, 2, none⟩) (World.block_lt_of_cell? _ _ x2)).trans x2
  have x3 := (hB2.cell (p := ⟨b, 3, none⟩) (World.block_lt_of_cell? _ _ x3)).trans x3
  have x4 := (hB2.cell (p := ⟨b, 4, none⟩) (World.block_lt_of_cell? _ _ x4)).trans x4
  have x5 := (hB2.cell (p := ⟨b, 5, none⟩) (World.block_lt_of_cell? _ _ x5)).trans x5
  have x6 := (hB2.cell (p := ⟨b, 6, none⟩) (World.block_lt_of_cell? _ _ x6)).trans x6
  have HB := Lib.hid (HB.out.trans (hB2.mono HB.out.size))
  clear hB2
  go_wp2_with fail
  refine (small_any w2 G _ l (HE.out.fresh HB.out)).mono ?_
  rintro x w3 ⟨rfl, hB2⟩
  have x0 := (hB2.cell (p := ⟨b, 0, none⟩) (World.block_lt_of_cell? _ _ x0)).trans x0
  have x1 := (hB2.cell (p := ⟨b, 1, none⟩) (World.block_lt_of_cell? _ _ x1)).trans x1
  have x2 := (hB2.cell (p := ⟨b, 2, none⟩) (World.block_lt_of_cell? _ _ x2)).trans x2
  have x3 := (hB2.cell (p := ⟨b, 3, none⟩) (World.block_lt_of_cell? _ _ x3)).trans x3
  have x4 := (hB2.cell (p := ⟨b, 4, none⟩) (World.block_lt_of_cell? _ _ x4)).trans x4
  have x5 := (hB2.cell (p := ⟨b, 5, none⟩) (World.block_lt_of_cell? _ _ x5)).trans x5
  have x6 := (hB2.cell (p := ⟨b, 6, none⟩) (World.block_lt_of_cell? _ _ x6)).trans x6
  have HB := Lib.hid (HB.out.trans (hB2.mono HB.out.size))
  clear hB2
  go_wp2_with fail
  refine (HLI.out w3 HB.out).mono ?_
  rintro x w4 ⟨rfl, hB2⟩
  have x0 := (hB2.cell (p := ⟨b, 0, none⟩) (World.block_lt_of_cell? _ _ x0)).trans x0
  have x1 := (hB2.cell (p := ⟨b, 1, none⟩) (World.block_lt_of_cell? _ _ x1)).trans x1
  have x2 := (hB2.cell (p := ⟨b, 2, none⟩) (World.block_lt_of_cell? _ _ x2)).trans x2
  have x3 := (hB2.cell (p := ⟨b, 3, none⟩) (World.block_lt_of_cell? _ _ x3)).trans x3
  have x4 := (hB2.cell (p := ⟨b, 4, none⟩) (World.block_lt_of_cell? _ _ x4)).trans x4
  have x5 := (hB2.cell (p := ⟨b, 5, none⟩) (World.block_lt_of_cell? _ _ x5)).trans x5
  have x6 := (hB2.cell (p := ⟨b, 6, none⟩) (World.block_lt_of_cell? _ _ x6)).trans x6
  have HB := Lib.hid (HB.out.trans (hB2.mono HB.out.size))
  clear hB2 HLI
  cases hsm : smallB l
  · go_wp2_with fail
    go_ret
    exact ⟨rfl, HB.out⟩
  cases hlb : lightB a
  · go_wp2_with fail
    go_ret
    exact ⟨rfl, HB.out⟩
  have hl40 := (smallB_at hsm).1
  have HSM := Lib.hid hsm
  have HLB := Lib.hid hlb
  have hbl := World.block_lt_of_cell? _ _ x0
  simp only at hbl
  have HX := Lib.hid (show (w4.cell? ⟨b, 0, none⟩ = some (.int .i64 a.pos) ∧ w4.cell? ⟨b, 1, none⟩ = some (.int .i64 a.epoch) ∧ w4.cell? ⟨b, 2, none⟩ = some (.string a.stream) ∧ w4.cell? ⟨b, 3, none⟩ = some (.int .i64 a.expect) ∧ w4.cell? ⟨b, 4, none⟩ = some (.int .i64 a.session) ∧ w4.cell? ⟨b, 5, none⟩ = some (.int .i64 a.seq) ∧ w4.cell? ⟨b, 6, none⟩ = some (.slice A a.evs.length c)) from ⟨x0, x1, x2, x3, x4, x5, x6⟩)
  go_wp2_with fail
  clear x0 x1 x2 x3 x4 x5 x6 hsm hlb
  go_loopw [8] (fun i wr => ∃ k : Nat, k ≤ l.length ∧ i = .int .i64 k ∧ Below w4.heap.size w4 wr) (fun i _ => l.length - (Go.RowKit.intOf i).toNat)
  case atStart => exact ⟨0, Nat.zero_le _, rfl, Below.refl _ _⟩
  case round =>
    obtain ⟨k, hk, rfl, hB2⟩ := hrel
    obtain ⟨x0, x1, x2, x3, x4, x5, x6⟩ := HX.out
    have x0 := (hB2.cell (p := ⟨b, 0, none⟩) hbl).trans x0
    have x1 := (hB2.cell (p := ⟨b, 1, none⟩) hbl).trans x1
    have x2 := (hB2.cell (p := ⟨b, 2, none⟩) hbl).trans x2
    have x3 := (hB2.cell (p := ⟨b, 3, none⟩) hbl).trans x3
    have x4 := (hB2.cell (p := ⟨b, 4, none⟩) hbl).trans x4
    have x5 := (hB2.cell (p := ⟨b, 5, none⟩) hbl).trans x5
    have x6 := (hB2.cell (p := ⟨b, 6, none⟩) hbl).trans x6
    have HBr := Lib.hid hB2
    have HA := Lib.hid (show Below w.heap.size w wr from HB.out.trans (hB2.mono HB.out.size))
    clear hB2
    by_cases hlt : k < l.length
    · have d0 : decide ((k : Int) < (l.length : Int)) = true := by simp; omega
      have hEw := HE.out.fresh HA.out
      obtain ⟨q, o, rfl, _, hql, hyy⟩ := hEw.1.cell_ hlt
      have y0 := hyy 0 _ rfl
      have y1 := hyy 1 _ rfl
      have y2 := hyy 2 _ rfl
      have y3 := hyy 3 _ rfl
      have y4 := hyy 4 _ rfl
      have y5 := hyy 5 _ rfl
      have y6 := hyy 6 _ rfl
      simp only [Nat.add_zero] at y0
      have hz := (hEw.2 l[k] (List.getElem_mem hlt)).1
      obtain ⟨A9, c9, hv9, _, _⟩ := hz.shape
      have hs1 := fun (wz : World) (hzw : Below wr.heap.size wr wz) => HS1.out wz (HA.out.trans (hzw.mono HA.out.size)) l[k] (Sl.fresh hz hzw)
      have hs2 := fun (wz : World) (hzw : Below wr.heap.size wr wz) => HS2.out wz (HA.out.trans (hzw.mono HA.out.size)) l[k] (Sl.fresh hz hzw)
      rw [hv9] at hs1 hs2 y6
      have HC1 := Lib.hid hs1
      have HC2 := Lib.hid hs2
      have hkk : k < 9223372036854775807 := by omega
      clear hyy hEw hz hv9 hs1 hs2 hql
      go_upto_region 9 with (fail)
      have HD := Lib.hid (show Below wr.heap.size wr wr.drew from ⟨rfl, rfl, rfl, Nat.le_refl _, fun _ _ => rfl⟩)
      go_region_held3 (fun x => (x.cell? ⟨b, 0, none⟩ = some (.int .i64 a.pos) ∧ x.cell? ⟨b, 1, none⟩ = some (.int .i64 a.epoch) ∧ x.cell? ⟨b, 2, none⟩ = some (.string a.stream) ∧ x.cell? ⟨b, 3, none⟩ = some (.int .i64 a.expect) ∧ x.cell? ⟨b, 4, none⟩ = some (.int .i64 a.session) ∧ x.cell? ⟨b, 5, none⟩ = some (.int .i64 a.seq) ∧ x.cell? ⟨b, 6, none⟩ = some (.slice A a.evs.length c)) ∧
          x.cell? ⟨q, o + k * 7, none⟩ = some (.int .i64 l[k].pos) ∧ x.cell? ⟨q, o + k * 7 + 1, none⟩ = some (.int .i64 l[k].epoch) ∧ x.cell? ⟨q, o + k * 7 + 2, none⟩ = some (.string l[k].stream) ∧ x.cell? ⟨q, o + k * 7 + 3, none⟩ = some (.int .i64 l[k].expect) ∧ x.cell? ⟨q, o + k * 7 + 4, none⟩ = some (.int .i64 l[k].session) ∧ x.cell? ⟨q, o + k * 7 + 5, none⟩ = some (.int .i64 l[k].seq) ∧ x.cell? ⟨q, o + k * 7 + 6, none⟩ = some (.slice A9 l[k].evs.length c9))
        (first | exact ⟨⟨x0, x1, x2, x3, x4, x5, x6⟩, y0, y1, y2, y3, y4, y5, y6⟩ | go_keep)
        (first
          | (go_at_call 15
             refine (HC1.out _ HD.out).mono ?_
             rintro x w2 ⟨rfl, hB2⟩
             have x0 := (hB2.cell (p := ⟨b, 0, none⟩) (World.block_lt_of_cell? _ _ x0)).trans x0
             have x1 := (hB2.cell (p := ⟨b, 1, none⟩) (World.block_lt_of_cell? _ _ x1)).trans x1
             have x2 := (hB2.cell (p := ⟨b, 2, none⟩) (World.block_lt_of_cell? _ _ x2)).trans x2
             have x3 := (hB2.cell (p := ⟨b, 3, none⟩) (World.block_lt_of_cell? _ _ x3)).trans x3
             have x4 := (hB2.cell (p := ⟨b, 4, none⟩) (World.block_lt_of_cell? _ _ x4)).trans x4
             have x5 := (hB2.cell (p := ⟨b, 5, none⟩) (World.block_lt_of_cell? _ _ x5)).trans x5
             have x6 := (hB2.cell (p := ⟨b, 6, none⟩) (World.block_lt_of_cell? _ _ x6)).trans x6
             have y0 := (hB2.cell (p := ⟨q, o + k * 7, none⟩) (World.block_lt_of_cell? _ _ y0)).trans y0
             have y1 := (hB2.cell (p := ⟨q, o + k * 7 + 1, none⟩) (World.block_lt_of_cell? _ _ y1)).trans y1
             have y2 := (hB2.cell (p := ⟨q, o + k * 7 + 2, none⟩) (World.block_lt_of_cell? _ _ y2)).trans y2
             have y3 := (hB2.cell (p := ⟨q, o + k * 7 + 3, none⟩) (World.block_lt_of_cell? _ _ y3)).trans y3
             have y4 := (hB2.cell (p := ⟨q, o + k * 7 + 4, none⟩) (World.block_lt_of_cell? _ _ y4)).trans y4
             have y5 := (hB2.cell (p := ⟨q, o + k * 7 + 5, none⟩) (World.block_lt_of_cell? _ _ y5)).trans y5
             have y6 := (hB2.cell (p := ⟨q, o + k * 7 + 6, none⟩) (World.block_lt_of_cell? _ _ y6)).trans y6
             have HD := Lib.hid (HD.out.trans (hB2.mono HD.out.size))
             clear hB2)
          | (go_at_call 16
             refine (HC2.out _ HD.out).mono ?_
             rintro x w2 ⟨rfl, hB2⟩
             have x0 := (hB2.cell (p := ⟨b, 0, none⟩) (World.block_lt_of_cell? _ _ x0)).trans x0
             have x1 := (hB2.cell (p := ⟨b, 1, none⟩) (World.block_lt_of_cell? _ _ x1)).trans x1
             have x2 := (hB2.cell (p := ⟨b, 2, none⟩) (World.block_lt_of_cell? _ _ x2)).trans x2
             have x3 := (hB2.cell (p := ⟨b, 3, none⟩) (World.block_lt_of_cell? _ _ x3)).trans x3
             have x4 := (hB2.cell (p := ⟨b, 4, none⟩) (World.block_lt_of_cell? _ _ x4)).trans x4
             have x5 := (hB2.cell (p := ⟨b, 5, none⟩) (World.block_lt_of_cell? _ _ x5)).trans x5
             have x6 := (hB2.cell (p := ⟨b, 6, none⟩) (World.block_lt_of_cell? _ _ x6)).trans x6
             have y0 := (hB2.cell (p := ⟨q, o + k * 7, none⟩) (World.block_lt_of_cell? _ _ y0)).trans y0
             have y1 := (hB2.cell (p := ⟨q, o + k * 7 + 1, none⟩) (World.block_lt_of_cell? _ _ y1)).trans y1
             have y2 := (hB2.cell (p := ⟨q, o + k * 7 + 2, none⟩) (World.block_lt_of_cell? _ _ y2)).trans y2
             have y3 := (hB2.cell (p := ⟨q, o + k * 7 + 3, none⟩) (World.block_lt_of_cell? _ _ y3)).trans y3
             have y4 := (hB2.cell (p := ⟨q, o + k * 7 + 4, none⟩) (World.block_lt_of_cell? _ _ y4)).trans y4
             have y5 := (hB2.cell (p := ⟨q, o + k * 7 + 5, none⟩) (World.block_lt_of_cell? _ _ y5)).trans y5
             have y6 := (hB2.cell (p := ⟨q, o + k * 7 + 6, none⟩) (World.block_lt_of_cell? _ _ y6)).trans y6
             have HD := Lib.hid (HD.out.trans (hB2.mono HD.out.size))
             clear hB2))
      go_wp2_with fail
      go_roundw
      case rel => exact ⟨k + 1, hlt, by go_num, HBr.out.trans (HD.out.mono HBr.out.size)⟩
      case measure => simp [Go.RowKit.intOf]; omega
    · have hkd : k = l.length := by omega
      subst hkd
      have d0 : decide ((l.length : Int) < (l.length : Int)) = false := by simp
      have HD := Lib.hid (show Below wr.heap.size wr wr.drew from ⟨rfl, rfl, rfl, Nat.le_refl _, fun _ _ => rfl⟩)
      go_upto_region 11 with (fail)
      go_region_held3 (fun x => x.cell? ⟨b, 0, none⟩ = some (.int .i64 a.pos) ∧ x.cell? ⟨b, 1, none⟩ = some (.int .i64 a.epoch) ∧ x.cell? ⟨b, 2, none⟩ = some (.string a.stream) ∧ x.cell? ⟨b, 3, none⟩ = some (.int .i64 a.expect) ∧ x.cell? ⟨b, 4, none⟩ = some (.int .i64 a.session) ∧ x.cell? ⟨b, 5, none⟩ = some (.int .i64 a.seq) ∧ x.cell? ⟨b, 6, none⟩ = some (.slice A a.evs.length c))
        (first | exact ⟨x0, x1, x2, x3, x4, x5, x6⟩ | go_keep)
        (first
          | (go_at_call 17
             refine (HR1.out _ (HA.out.trans (HD.out.mono HA.out.size)) HLB.out).mono ?_
             rintro x w2 ⟨rfl, hB2⟩
             have x0 := (hB2.cell (p := ⟨b, 0, none⟩) (World.block_lt_of_cell? _ _ x0)).trans x0
             have x1 := (hB2.cell (p := ⟨b, 1, none⟩) (World.block_lt_of_cell? _ _ x1)).trans x1
             have x2 := (hB2.cell (p := ⟨b, 2, none⟩) (World.block_lt_of_cell? _ _ x2)).trans x2
             have x3 := (hB2.cell (p := ⟨b, 3, none⟩) (World.block_lt_of_cell? _ _ x3)).trans x3
             have x4 := (hB2.cell (p := ⟨b, 4, none⟩) (World.block_lt_of_cell? _ _ x4)).trans x4
             have x5 := (hB2.cell (p := ⟨b, 5, none⟩) (World.block_lt_of_cell? _ _ x5)).trans x5
             have x6 := (hB2.cell (p := ⟨b, 6, none⟩) (World.block_lt_of_cell? _ _ x6)).trans x6
             have HD := Lib.hid (HD.out.trans (hB2.mono HD.out.size))
             clear hB2)
          | (go_at_call 18
             refine (HR2.out _ (HA.out.trans (HD.out.mono HA.out.size)) HLB.out).mono ?_
             rintro x w2 ⟨rfl, hB2⟩
             have x0 := (hB2.cell (p := ⟨b, 0, none⟩) (World.block_lt_of_cell? _ _ x0)).trans x0
             have x1 := (hB2.cell (p := ⟨b, 1, none⟩) (World.block_lt_of_cell? _ _ x1)).trans x1
             have x2 := (hB2.cell (p := ⟨b, 2, none⟩) (World.block_lt_of_cell? _ _ x2)).trans x2
             have x3 := (hB2.cell (p := ⟨b, 3, none⟩) (World.block_lt_of_cell? _ _ x3)).trans x3
             have x4 := (hB2.cell (p := ⟨b, 4, none⟩) (World.block_lt_of_cell? _ _ x4)).trans x4
             have x5 := (hB2.cell (p := ⟨b, 5, none⟩) (World.block_lt_of_cell? _ _ x5)).trans x5
             have x6 := (hB2.cell (p := ⟨b, 6, none⟩) (World.block_lt_of_cell? _ _ x6)).trans x6
             have HD := Lib.hid (HD.out.trans (hB2.mono HD.out.size))
             clear hB2)
          | (go_at_call 19
             refine (HP1.out _ (HA.out.trans (HD.out.mono HA.out.size)) HLB.out).mono ?_
             rintro x w2 ⟨rfl, hB2⟩
             have x0 := (hB2.cell (p := ⟨b, 0, none⟩) (World.block_lt_of_cell? _ _ x0)).trans x0
             have x1 := (hB2.cell (p := ⟨b, 1, none⟩) (World.block_lt_of_cell? _ _ x1)).trans x1
             have x2 := (hB2.cell (p := ⟨b, 2, none⟩) (World.block_lt_of_cell? _ _ x2)).trans x2
             have x3 := (hB2.cell (p := ⟨b, 3, none⟩) (World.block_lt_of_cell? _ _ x3)).trans x3
             have x4 := (hB2.cell (p := ⟨b, 4, none⟩) (World.block_lt_of_cell? _ _ x4)).trans x4
             have x5 := (hB2.cell (p := ⟨b, 5, none⟩) (World.block_lt_of_cell? _ _ x5)).trans x5
             have x6 := (hB2.cell (p := ⟨b, 6, none⟩) (World.block_lt_of_cell? _ _ x6)).trans x6
             have HD := Lib.hid (HD.out.trans (hB2.mono HD.out.size))
             clear hB2)
          | (go_at_call 20
             refine (HP2.out _ (HA.out.trans (HD.out.mono HA.out.size)) HLB.out).mono ?_
             rintro x w2 ⟨rfl, hB2⟩
             have x0 := (hB2.cell (p := ⟨b, 0, none⟩) (World.block_lt_of_cell? _ _ x0)).trans x0
             have x1 := (hB2.cell (p := ⟨b, 1, none⟩) (World.block_lt_of_cell? _ _ x1)).trans x1
             have x2 := (hB2.cell (p := ⟨b, 2, none⟩) (World.block_lt_of_cell? _ _ x2)).trans x2
             have x3 := (hB2.cell (p := ⟨b, 3, none⟩) (World.block_lt_of_cell? _ _ x3)).trans x3
             have x4 := (hB2.cell (p := ⟨b, 4, none⟩) (World.block_lt_of_cell? _ _ x4)).trans x4
             have x5 := (hB2.cell (p := ⟨b, 5, none⟩) (World.block_lt_of_cell? _ _ x5)).trans x5
             have x6 := (hB2.cell (p := ⟨b, 6, none⟩) (World.block_lt_of_cell? _ _ x6)).trans x6
             have HD := Lib.hid (HD.out.trans (hB2.mono HD.out.size))
             clear hB2)
          | (go_at_call 21
             refine (putRow_any _ (HT.out.fresh (HA.out.trans (HD.out.mono HA.out.size))) G _ l ((HE.out.fresh (HA.out.trans (HD.out.mono HA.out.size))).ents HSM.out) (by omega)).mono ?_
             rintro x w2 ⟨rfl, hB2⟩
             have x0 := (hB2.cell (p := ⟨b, 0, none⟩) (World.block_lt_of_cell? _ _ x0)).trans x0
             have x1 := (hB2.cell (p := ⟨b, 1, none⟩) (World.block_lt_of_cell? _ _ x1)).trans x1
             have x2 := (hB2.cell (p := ⟨b, 2, none⟩) (World.block_lt_of_cell? _ _ x2)).trans x2
             have x3 := (hB2.cell (p := ⟨b, 3, none⟩) (World.block_lt_of_cell? _ _ x3)).trans x3
             have x4 := (hB2.cell (p := ⟨b, 4, none⟩) (World.block_lt_of_cell? _ _ x4)).trans x4
             have x5 := (hB2.cell (p := ⟨b, 5, none⟩) (World.block_lt_of_cell? _ _ x5)).trans x5
             have x6 := (hB2.cell (p := ⟨b, 6, none⟩) (World.block_lt_of_cell? _ _ x6)).trans x6
             have HD := Lib.hid (HD.out.trans (hB2.mono HD.out.size))
             clear hB2)
          | (go_at_call 22
             refine (dputRow_any _ G _ l ((HE.out.fresh (HA.out.trans (HD.out.mono HA.out.size))).sms HSM.out) (by omega)).mono ?_
             rintro x w2 ⟨rfl, hB2⟩
             have x0 := (hB2.cell (p := ⟨b, 0, none⟩) (World.block_lt_of_cell? _ _ x0)).trans x0
             have x1 := (hB2.cell (p := ⟨b, 1, none⟩) (World.block_lt_of_cell? _ _ x1)).trans x1
             have x2 := (hB2.cell (p := ⟨b, 2, none⟩) (World.block_lt_of_cell? _ _ x2)).trans x2
             have x3 := (hB2.cell (p := ⟨b, 3, none⟩) (World.block_lt_of_cell? _ _ x3)).trans x3
             have x4 := (hB2.cell (p := ⟨b, 4, none⟩) (World.block_lt_of_cell? _ _ x4)).trans x4
             have x5 := (hB2.cell (p := ⟨b, 5, none⟩) (World.block_lt_of_cell? _ _ x5)).trans x5
             have x6 := (hB2.cell (p := ⟨b, 6, none⟩) (World.block_lt_of_cell? _ _ x6)).trans x6
             have HD := Lib.hid (HD.out.trans (hB2.mono HD.out.size))
             clear hB2))
      go_wp2_with fail
      go_ret
      exact ⟨rfl, HA.out.trans (HD.out.mono HA.out.size)⟩
end Go.Proofs.YtimfoijajafdpaaDoor
