/- The history: a log that was played; place. Under the stated premises on sizes. -/
import Derived.Test.YthdcnknjjbdefaaGreatDoorHisC
import Derived.Test.YthdcnknjjbdefaaGreatDoorBlQ
namespace Go.Proofs.YthdcnknjjbdefaaGreatDoor.His
open Go.RowKit Go.Bl
attribute [local go_sem ↓] Go.wp_at_zero Go.wp_at_succ

set_option maxHeartbeats 4000000 in
theorem place_app (w : World) (p : Nat) (log : List Ent) (h : PlAt w p log) (_hl : log.length ≤ 1000) (o : Hop) (hk : o.kind = 1) (hp : -9223372036854775808 ≤ o.out.pos ∧ o.out.pos ≤ 9223372036854775807) (m : Int) (hm : 0 ≤ m ∧ m ≤ 2000) :
    Calls Tryz.prog 44 #[.pointer (some ⟨p, 0, none⟩), opv o, .int .i64 m] w fun e w' => e = .returned (.int .i64 (placeS log o m)) ∧ Below w.heap.size w w' := by
  have hp0 : placeS log o m = if o.out.pos ≤ m ∨ (log.length : Int) < o.out.pos ∨ appB log o = false then -1 else o.out.pos := by unfold placeS; rw [if_pos hk]
  have hov : opv o = .agg #[.int .i64 o.kind, .int .i64 o.id, .int .i64 o.start, .int .i64 o.end_, .string o.bs, .int .i64 o.bx, .int .i64 o.ses, .int .i64 o.seq, o.bev, .int .i64 o.out.code, .int .i64 o.out.pos, .int .i64 o.out.first, .int .i64 o.out.ver, .string o.stream, .int .i64 o.from_, .int .i64 o.version, o.evv] := rfl
  rw [hov]
  have hB0 : Below w.heap.size w (w.alloc (.cells #[.int .i64 o.kind, .int .i64 o.id, .int .i64 o.start, .int .i64 o.end_, .string o.bs, .int .i64 o.bx, .int .i64 o.ses, .int .i64 o.seq, o.bev, .int .i64 o.out.code, .int .i64 o.out.pos, .int .i64 o.out.first, .int .i64 o.out.ver, .string o.stream, .int .i64 o.from_, .int .i64 o.version, o.evv] 36)) := (Below.refl _ w).alloc (Nat.le_refl _) _
  have hg0 := heap_alloc_new w (.cells #[.int .i64 o.kind, .int .i64 o.id, .int .i64 o.start, .int .i64 o.end_, .string o.bs, .int .i64 o.bx, .int .i64 o.ses, .int .i64 o.seq, o.bev, .int .i64 o.out.code, .int .i64 o.out.pos, .int .i64 o.out.first, .int .i64 o.out.ver, .string o.stream, .int .i64 o.from_, .int .i64 o.version, o.evv] 36)
  obtain ⟨R, hR⟩ : ∃ R, placeS log o m = R := ⟨_, rfl⟩
  rw [hR]
  have HRR := Lib.hid (hR.symm.trans hp0)
  have H := Lib.hid h
  have d0 : (o.kind == 1) = true := by simpa using hk
  clear h hov hR hk hp0
  go_enter Tryz.func44, Tryz.ntmps44
  go_upto_region 1 with (fail)
  generalize w.alloc (.cells #[.int .i64 o.kind, .int .i64 o.id, .int .i64 o.start, .int .i64 o.end_, .string o.bs, .int .i64 o.bx, .int .i64 o.ses, .int .i64 o.seq, o.bev, .int .i64 o.out.code, .int .i64 o.out.pos, .int .i64 o.out.first, .int .i64 o.out.ver, .string o.stream, .int .i64 o.from_, .int .i64 o.version, o.evv] 36) = w0 at hB0 hg0 ⊢
  obtain ⟨g, hg⟩ : ∃ g, w.heap.size = g := ⟨_, rfl⟩
  rw [hg] at hg0 ⊢
  have HG0 := Lib.hid hg0
  have x0 : w0.cell? ⟨g, 0, none⟩ = some (.int .i64 o.kind) := cell_of_row w0 g 0 _ _ _ hg0
  have x10 : w0.cell? ⟨g, 10, none⟩ = some (.int .i64 o.out.pos) := cell_of_row w0 g 10 _ _ _ hg0
  have HP := Lib.hid (H.out.fresh hB0)
  have HB0 := Lib.hid hB0
  obtain ⟨vl, vs, vo, ps, q1, q2, q3, q4, q5, q6⟩ := HP.out
  obtain ⟨A, c, rfl, hA1, hA2⟩ := q2.shape
  unfold maxLen at hA2
  have p0 : w0.cell? ⟨p, 0, none⟩ = some (.slice A log.length c) := cell_of_row w0 p 0 _ _ _ q1
  have p2 : w0.cell? ⟨p, 2, none⟩ = some vo := cell_of_row w0 p 2 _ _ _ q1
  clear hg0 hg hB0 q3 q4 q6
  by_cases h1 : o.out.pos ≤ m
  · have HF : Hid (R = -1) := Lib.hid (by rw [HRR.out, if_pos (.inl h1)])
    have d1 : decide (o.out.pos ≤ m) = true := decide_eq_true h1
    clear h1 p0 p2 q1 q2 q5
    go_wp2_with fail
    go_quiet (fail)
    go_wp2_with fail
    go_ret
    exact ⟨by rw [HF.out]; rfl, HB0.out.trans ((show Below w0.heap.size w0 (w0.drewN _) from ⟨rfl, rfl, rfl, Nat.le_refl _, fun _ _ => rfl⟩).mono HB0.out.size)⟩
  have d1 : decide (o.out.pos ≤ m) = false := decide_eq_false h1
  by_cases h2 : (log.length : Int) < o.out.pos
  · have HF : Hid (R = -1) := Lib.hid (by rw [HRR.out, if_pos (.inr (.inl h2))])
    have d2 : decide ((log.length : Int) < o.out.pos) = true := decide_eq_true h2
    have d2' : decide (o.out.pos > (log.length : Int)) = true := decide_eq_true h2
    clear h1 h2 p2 q1 q2 q5
    go_wp2_with fail
    go_quiet (fail)
    go_wp2_with fail
    go_ret
    exact ⟨by rw [HF.out]; rfl, HB0.out.trans ((show Below w0.heap.size w0 (w0.drewN _) from ⟨rfl, rfl, rfl, Nat.le_refl _, fun _ _ => rfl⟩).mono HB0.out.size)⟩
  have d2 : decide ((log.length : Int) < o.out.pos) = false := decide_eq_false h2
  have d2' : decide (o.out.pos > (log.length : Int)) = false := decide_eq_false h2
  obtain ⟨kp, hkp⟩ : ∃ kp : Nat, o.out.pos = (kp : Int) + 1 := ⟨(o.out.pos - 1).toNat, by omega⟩
  have hkl : kp < log.length := by omega
  have hat : appB log o = (decide (outK log kp = o.out) && reqB log[kp] o) := by
    unfold appB
    rw [hkp, show ((kp : Int) + 1 - 1).toNat = kp by omega, List.getElem?_eq_getElem hkl]
  have HRA : Hid (R = if appB log o = false then -1 else o.out.pos) := Lib.hid (by
    rw [HRR.out]
    by_cases hb : appB log o = false
    · rw [if_pos (.inr (.inr hb)), if_pos hb]
    · rw [if_neg (by rintro (h | h | h) <;> first | omega | exact hb h), if_neg hb])
  rw [hat] at HRA
  obtain ⟨Bo, hBo⟩ : ∃ Bo, ocNe (outK log kp) o.out = Bo := ⟨_, rfl⟩
  have hBo2 : decide (outK log kp = o.out) = !Bo := by
    rw [← hBo]
    cases h : ocNe (outK log kp) o.out
    · exact decide_eq_true (Decidable.byContradiction fun hn => by rw [ocNe_iff.2 hn] at h; cases h)
    · exact decide_eq_false (ocNe_iff.1 h)
  rw [hBo2] at HRA
  have hlo : ((List.range log.length).map (outK log)).length = log.length := by simp
  obtain ⟨A5, c5, rfl, hc1, hc2⟩ := q5.shape
  unfold maxLen at hc2
  rw [hlo] at p2 hc1
  obtain ⟨b5, o5, rfl, _, _, hx5⟩ := q5.cell_ (i := kp) (by rw [hlo]; exact hkl)
  obtain ⟨b2, o2, rfl, _, hb2l, hx2⟩ := q2.cell_ hkl
  have hgo : ((List.range log.length).map (outK log))[kp]'(by rw [hlo]; exact hkl) = outK log kp := by simp
  rw [hgo] at hx5
  rcases hok : outK log kp with ⟨oc1, oc2, oc3, oc4⟩
  rw [hok] at hx5 hBo
  have y0 := hx5 0 _ rfl
  have y1 := hx5 1 _ rfl
  have y2 := hx5 2 _ rfl
  have y3 := hx5 3 _ rfl
  obtain ⟨ea, hea⟩ : ∃ ea, log[kp] = ea := ⟨_, rfl⟩
  rw [hea] at hx2 HRA
  have z0 := hx2 0 _ rfl
  have z1 := hx2 1 _ rfl
  have z2 := hx2 2 _ rfl
  have z3 := hx2 3 _ rfl
  have z4 := hx2 4 _ rfl
  have z5 := hx2 5 _ rfl
  have z6 := hx2 6 _ rfl
  simp only [Nat.add_zero] at y0 z0
  have hg1 := HG0.out
  have g0 : w0.cell? ⟨g, 0, none⟩ = some (.int .i64 o.kind) := cell_of_row w0 g 0 _ _ _ hg1
  have g1 : w0.cell? ⟨g, 1, none⟩ = some (.int .i64 o.id) := cell_of_row w0 g 1 _ _ _ hg1
  have g2 : w0.cell? ⟨g, 2, none⟩ = some (.int .i64 o.start) := cell_of_row w0 g 2 _ _ _ hg1
  have g3 : w0.cell? ⟨g, 3, none⟩ = some (.int .i64 o.end_) := cell_of_row w0 g 3 _ _ _ hg1
  have g4 : w0.cell? ⟨g, 4, none⟩ = some (.string o.bs) := cell_of_row w0 g 4 _ _ _ hg1
  have g5 : w0.cell? ⟨g, 5, none⟩ = some (.int .i64 o.bx) := cell_of_row w0 g 5 _ _ _ hg1
  have g6 : w0.cell? ⟨g, 6, none⟩ = some (.int .i64 o.ses) := cell_of_row w0 g 6 _ _ _ hg1
  have g7 : w0.cell? ⟨g, 7, none⟩ = some (.int .i64 o.seq) := cell_of_row w0 g 7 _ _ _ hg1
  have g8 : w0.cell? ⟨g, 8, none⟩ = some (o.bev) := cell_of_row w0 g 8 _ _ _ hg1
  have g9 : w0.cell? ⟨g, 9, none⟩ = some (.int .i64 o.out.code) := cell_of_row w0 g 9 _ _ _ hg1
  have g11 : w0.cell? ⟨g, 11, none⟩ = some (.int .i64 o.out.first) := cell_of_row w0 g 11 _ _ _ hg1
  have g12 : w0.cell? ⟨g, 12, none⟩ = some (.int .i64 o.out.ver) := cell_of_row w0 g 12 _ _ _ hg1
  have g13 : w0.cell? ⟨g, 13, none⟩ = some (.string o.stream) := cell_of_row w0 g 13 _ _ _ hg1
  have g14 : w0.cell? ⟨g, 14, none⟩ = some (.int .i64 o.from_) := cell_of_row w0 g 14 _ _ _ hg1
  have g15 : w0.cell? ⟨g, 15, none⟩ = some (.int .i64 o.version) := cell_of_row w0 g 15 _ _ _ hg1
  have g16 : w0.cell? ⟨g, 16, none⟩ = some (o.evv) := cell_of_row w0 g 16 _ _ _ hg1
  have hne := neqOc oc1 oc2 oc3 oc4 o.out.code o.out.pos o.out.first o.out.ver
  have hoe : o.out = ⟨o.out.code, o.out.pos, o.out.first, o.out.ver⟩ := rfl
  rw [hoe] at hBo
  rw [hBo] at hne
  have hreq := fun (wz : World) => request_any wz ea o
  unfold entv opv at hreq
  simp only [hkp] at hreq hne d1 d2 d2' HRA x10
  have hsub : IntKind.i64.wrap ((kp : Int) + 1 - 1) = (kp : Int) := by rw [IntKind.wrap_i64]; omega
  have hk0 : (0 : Int) ≤ (kp : Int) := by omega
  have hk1 : (kp : Int) < (log.length : Int) := by omega
  have HREQ := Lib.hid hreq
  clear hreq hg1 hx5 hx2 hgo hea hok hBo hBo2 hat h1 h2 hoe q1 q2 q5 hlo hkl HRR hp hb2l hkp
  cases Bo
  · obtain ⟨Br, hBr⟩ : ∃ Br, reqB ea o = Br := ⟨_, rfl⟩
    rw [hBr] at HRA HREQ
    have HRA := HRA.out
    rw [Bool.not_false, Bool.true_and] at HRA
    have HRA := Lib.hid HRA
    clear hBr
    go_upto_region 3 with (fail)
    refine region_mid 35 rfl (by kernel_rfl) (by kernel_rfl) ?_
    simp only [List.take_succ_cons, List.take_zero, List.drop_succ_cons, List.drop_zero]
    change wpStill _ _ w0.drew _ _ _
    refine still_of_quiet ?_
    repeat (go_big_quiet_step (fail))
    refine wpQuiet_nil ?_
    change wpList _ _ _ _ _ w0.drew
    go_wp2_with fail
    refine (HREQ.out _).mono ?_
    rintro e wz ⟨rfl, hBz⟩
    have hBz : Below w0.heap.size w0 wz := ⟨hBz.os, hBz.tape, hBz.output, hBz.size, hBz.block⟩
    have HBz := Lib.hid (HB0.out.trans (hBz.mono HB0.out.size))
    clear hBz
    go_wp2_with fail
    unfold Go.Bl.Rest
    refine still_of_quiet ?_
    repeat (go_big_quiet_step (fail))
    refine wpQuiet_nil ?_
    cases Br
    · go_wp2_with fail
      go_ret
      exact ⟨by first | rfl | (rw [HRA.out]; rfl), HBz.out⟩
    · go_wp2_with fail
      go_ret
      exact ⟨by first | rfl | (rw [HRA.out]; rfl), HBz.out⟩
  · go_wp2_with fail
    go_quiet (fail)
    go_wp2_with fail
    go_ret
    exact ⟨by first | rfl | (rw [HRA.out]; rfl), HB0.out.trans ((show Below w0.heap.size w0 (w0.drewN _) from ⟨rfl, rfl, rfl, Nat.le_refl _, fun _ _ => rfl⟩).mono HB0.out.size)⟩
end Go.Proofs.YthdcnknjjbdefaaGreatDoor.His
