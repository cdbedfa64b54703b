/- The history: the statements' op: of a log. Under the tables that utf8 lays. -/
import Derived.Test.YthdcnknjjbdefaaGreatDoorHisM
import Derived.Test.YthdcnknjjbdefaaGreatDoorBlQ
import Derived.Deep.RegionHeld3
import Derived.Deep.DeepCutAuto
namespace Go.Proofs.YthdcnknjjbdefaaGreatDoor.His
open Go.RowKit Go.Bl
attribute [local go_sem ↓] Go.wp_at_zero Go.wp_at_succ

theorem freshO_ver (s : St) (a : Ent) (h : rightB a = true) : 0 ≤ (freshO s a).ver ∧ (freshO s a).ver ≤ s.L.length + 8 := by
  have h8 := (right_nums h).2.2.2.2.2
  have hv : verS s a.stream ≤ s.L.length := by
    unfold verS
    have : (Idx.ofS s.L a.stream).length ≤ s.L.length := by unfold Idx.ofS; simpa using List.length_filter_le _ _
    omega
  have h0 : 0 ≤ verS s a.stream := by unfold verS; omega
  unfold freshO
  split
  · show 0 ≤ verS s a.stream ∧ verS s a.stream ≤ _
    omega
  · show 0 ≤ verS s a.stream + _ ∧ verS s a.stream + _ ≤ _
    omega
theorem table_ver {log : List Ent} (h : LogOk log) : ∀ k, k ≤ log.length → ∀ e ∈ (stK log k).T, 0 ≤ e.o.ver ∧ e.o.ver ≤ 8 * k
  | 0, _ => fun e he => by cases he
  | k + 1, hk => by
    have ih := table_ver h k (by omega)
    have h0 := h k (by omega)
    obtain ⟨h1, h2⟩ := apply_zero h0
    have hL := (h.len k (by omega)).1
    have ih' : ∀ e ∈ (stK log k).T, 0 ≤ e.o.ver ∧ e.o.ver ≤ 8 * ((k + 1 : Nat) : Int) := fun e he => by have := ih e he; omega
    rw [stK_succ (by omega)]
    rcases apply_next h1 h2 with ⟨o, _, _, _, e⟩ | ⟨_, _, e⟩ | ⟨_, _, _, e⟩ <;> rw [e]
    · exact ih'
    · exact ih'
    · intro x hx
      rcases List.mem_append.1 hx with hx | hx
      · exact ih' x hx
      · rw [List.mem_singleton.1 hx]
        have := freshO_ver (stK log k) log[k] h1
        show 0 ≤ (freshO _ _).ver ∧ (freshO _ _).ver ≤ _
        omega
theorem out_bound {log : List Ent} (h : LogOk log) {k : Nat} (hk : k < log.length) : (0 ≤ (outK log k).ver ∧ (outK log k).ver ≤ 8 * ((k : Int) + 1)) ∧ (1 ≤ (outK log k).pos ∧ (outK log k).pos ≤ log.length) := by
  have h0 := h k hk
  obtain ⟨h1, h2⟩ := apply_zero h0
  have hp := h.pos hk
  have hL := (h.len k (by omega)).1
  rw [outK_at hk]
  rcases apply_next h1 h2 with ⟨o, _, hf, _, e⟩ | ⟨_, _, e⟩ | ⟨_, _, _, e⟩ <;> rw [e]
  · obtain ⟨x, hx, _, _, e3⟩ := findL_mem hf
    obtain ⟨j, hj, f1, _, _, _⟩ := h.known k (by omega) x hx
    have := table_ver h k (by omega) x hx
    rw [e3] at this f1
    show (0 ≤ o.ver ∧ o.ver ≤ _) ∧ (1 ≤ o.pos ∧ o.pos ≤ _)
    omega
  · show (0 ≤ (0 : Int) ∧ (0 : Int) ≤ _) ∧ (1 ≤ log[k].pos ∧ log[k].pos ≤ _)
    omega
  · have := freshO_ver (stK log k) log[k] h1
    show (0 ≤ (freshO _ _).ver ∧ (freshO _ _).ver ≤ _) ∧ (1 ≤ (freshO _ _).pos ∧ (freshO _ _).pos ≤ _)
    rw [freshO_pos, hp]
    omega
/-- A raw op's numbers are what they may be. -/
structure RwOk (r : Rw) : Prop where
  start : -9223372036854775808 ≤ r.start ∧ r.start ≤ 9223372036854775807
  long : -9223372036854775808 ≤ r.long ∧ r.long ≤ 9223372036854775807
  at_ : -9223372036854775808 ≤ r.at_ ∧ r.at_ ≤ 9223372036854775807
  off : -9223372036854775808 ≤ r.off ∧ r.off ≤ 9223372036854775807
/-- The op as it is made first. -/
def op1 (r : Rw) (id : Int) : Hop := ⟨2, id, startP r, 0, ByteArray.empty, 0, 0, 0, .slice none 0 0, Ded.oc0, r.stream, fromP r, 0, .slice none 0 0, []⟩
theorem op1_one (r : Rw) (id : Int) : (opc (op1 r id)).toArray.all (·.oneCell') = true := by simp [opc, op1, Value.oneCell']
set_option maxRecDepth 10000 in
set_option maxHeartbeats 8000000 in
theorem op_any (w : World) (v : Value) (log : List Ent) (h : LogIn w v log) (hok : LogOk log) (hl : log.length ≤ 6) (r : Rw) (hr : RwOk r) (hrs : r.stream.size ≤ 100) (id : Int) :
    Calls Tryz.prog 11 #[v, .agg (rwc r).toArray, .int .i64 id] w fun e w' => ∃ o : Hop, e = .returned (opv o) ∧ OpIs log r id o ∧ OpOk w' (fun b => w.heap.size ≤ b ∧ b < w'.heap.size) o ∧ Below w.heap.size w w' := by
  have hmx := @run_gmax Tryz.prog
  have hmn := @run_gmin Tryz.prog
  obtain ⟨A, c, rfl, hA1, hA2⟩ := h.ents.1.shape
  unfold maxLen at hA2
  have HL := Lib.hid h
  have HOK := Lib.hid hok
  have HRW := Lib.hid hr
  obtain ⟨n, hn⟩ : ∃ n, log.length = n := ⟨_, rfl⟩
  have HN := Lib.hid hn
  rw [hn] at hA1 HL hl ⊢
  clear h hok hr hn
  have hrv : (Value.agg (rwc r).toArray) = .agg #[.int .i64 r.start, .int .i64 r.long, .int .i64 r.at_, .int .i64 r.off, .bool r.read, .string r.stream, .int .i64 r.from_] := rfl
  rw [hrv]
  clear hrv
  go_enter Tryz.func11, Tryz.ntmps11
  have hBr := (Below.refl w.heap.size w).alloc (Nat.le_refl _) (.cells #[.int .i64 r.start, .int .i64 r.long, .int .i64 r.at_, .int .i64 r.off, .bool r.read, .string r.stream, .int .i64 r.from_] 39)
  have hgr := heap_alloc_new w (.cells #[.int .i64 r.start, .int .i64 r.long, .int .i64 r.at_, .int .i64 r.off, .bool r.read, .string r.stream, .int .i64 r.from_] 39)
  obtain ⟨w1, hw1⟩ : ∃ x, w.alloc (.cells #[.int .i64 r.start, .int .i64 r.long, .int .i64 r.at_, .int .i64 r.off, .bool r.read, .string r.stream, .int .i64 r.from_] 39) = x := ⟨_, rfl⟩
  have hsz1 : w1.heap.size = w.heap.size + 1 := by rw [← hw1, World.size_alloc]
  have hB6 := (Below.refl w1.heap.size w1).alloc (Nat.le_refl _) (.cells (opc Hop.zero).toArray 36)
  have hg6 := heap_alloc_new w1 (.cells (opc Hop.zero).toArray 36)
  rw [hw1] at hBr hgr
  have HSZ1 := Lib.hid hsz1
  have HW1 := Lib.hid hw1
  clear hsz1 hw1
  go_upto_region 1 with (fail)
  rw [HW1.out]
  change Code.wp _ _ _ _ (w1.alloc (.cells (opc Hop.zero).toArray 36))
  obtain ⟨gr, hgre⟩ : ∃ g, w.heap.size = g := ⟨_, rfl⟩
  have hB2 := hBr.trans (hB6.mono hBr.size)
  have hgr2 := (hB6.block _ (Array.getElem?_eq_some_iff.1 hgr).1).trans hgr
  rw [HSZ1.out] at hg6
  rw [hgre] at hg6 hgr2 ⊢
  generalize w1.alloc (.cells (opc Hop.zero).toArray 36) = w2 at hB2 hg6 hgr2 ⊢
  have HB2 := Lib.hid hB2
  have HG6 := Lib.hid hg6
  have HGR := Lib.hid hgr2
  have HGE := Lib.hid hgre
  have HRC : Hid (∀ wz : World, Below w2.heap.size w2 wz → wz.heap[gr]? = some (.cells #[.int .i64 r.start, .int .i64 r.long, .int .i64 r.at_, .int .i64 r.off, .bool r.read, .string r.stream, .int .i64 r.from_] 39 (0, 0))) :=
    Lib.hid fun wz hz => (hz.block gr (Array.getElem?_eq_some_iff.1 HGR.out).1).trans HGR.out
  have s0 : w2.cell? ⟨gr, 0, none⟩ = some (.int .i64 r.start) := cell_of_row w2 gr 0 _ _ _ hgr2
  have s5 : w2.cell? ⟨gr, 5, none⟩ = some (.string r.stream) := cell_of_row w2 gr 5 _ _ _ hgr2
  have s6 : w2.cell? ⟨gr, 6, none⟩ = some (.int .i64 r.from_) := cell_of_row w2 gr 6 _ _ _ hgr2
  have HP30 : Hid (∀ wz : World, Calls Tryz.prog 21 #[.int .i64 r.start, .int .i64 30] wz fun x w' => x = .returned (.int .i64 (startP r)) ∧ wz = w') := Lib.hid fun wz => pickO_any wz r.start HRW.out.start 30 (by decide) (by decide)
  have hfrom : gmax 0 (gmin r.from_ 99) = fromP r := rfl
  have HFR := Lib.hid hfrom
  clear hBr hgr hB6 hB2 hg6 hgr2 hgre HW1 hfrom
  go_cut [7] (fun s7 wx => ∃ g7, s7 = .pointer (some ⟨g7, 0, none⟩) ∧ Below w2.heap.size w2 wx ∧ w2.heap.size ≤ g7 ∧ wx.heap[g7]? = some (.cells (opc (op1 r id)).toArray 36 (0, 0)))
  case first =>
    go_wp2_with fail
    go_region_held3 (fun x => x.cell? ⟨gr, 0, none⟩ = some (.int .i64 r.start) ∧ x.cell? ⟨gr, 5, none⟩ = some (.string r.stream) ∧ x.cell? ⟨gr, 6, none⟩ = some (.int .i64 r.from_))
      (first | exact ⟨by assumption, by assumption, by assumption⟩ | go_keep)
      (first
        | (go_at_call 21
           refine (HP30.out _).mono ?_
           rintro e w3 ⟨rfl, hz⟩
           subst hz)
        | (refine op_store_step rfl (.tmp 7) (.tmp 26) rfl _ rfl (op1 r id) rfl rfl rfl (op1_one r id) ?_))
    all_goals (go_wp2_with fail; go_meet; case rel => exact ⟨w2.heap.size, rfl, ((Below.refl _ _).alloc (Nat.le_refl _) (.cells (opc (op1 r id)).toArray 36)).trans ⟨rfl, rfl, rfl, Nat.le_refl _, fun _ _ => rfl⟩, Nat.le_refl _, heap_alloc_new w2 (.cells (opc (op1 r id)).toArray 36)⟩)
  case rest =>
    obtain ⟨g7, rfl, hBc, hg7l, hg7⟩ := hcut
    have HBc := Lib.hid hBc
    have HG7 := Lib.hid hg7
    have HGL := Lib.hid hg7l
    have HP12 : Hid (∀ wz : World, Calls Tryz.prog 21 #[.int .i64 r.long, .int .i64 12] wz fun x w' => x = .returned (.int .i64 (pickOf r.long 12)) ∧ wz = w') := Lib.hid fun wz => pickO_any wz r.long HRW.out.long 12 (by decide) (by decide)
    have y2 : wc.cell? ⟨g7, 2, none⟩ = some (.int .i64 (startP r)) := cell_of_row wc g7 2 _ _ _ hg7
    have y3 : wc.cell? ⟨g7, 3, none⟩ = some (.int .i64 0) := cell_of_row wc g7 3 _ _ _ hg7
    have f3 : wc.frozen? ⟨g7, 3, none⟩ = false := frozen_block hg7 3
    have s1 : wc.cell? ⟨gr, 1, none⟩ = some (.int .i64 r.long) := cell_of_row wc gr 1 _ _ _ (HRC.out wc hBc)
    have hsum : wrap64 (startP r + pickOf r.long 12) = startP r + pickOf r.long 12 := by
      have h1 := pickOf_range r.start (n := 30) (by omega)
      have h2 := pickOf_range r.long (n := 12) (by omega)
      unfold startP wrap64
      omega
    clear hBc hg7l hg7 s0 s5 s6
    go_upto_region 2 with (fail)
    refine region_mid 7 rfl (by kernel_rfl) (by kernel_rfl) ?_
    simp only [List.take_succ_cons, List.take_zero, List.drop_succ_cons, List.drop_zero]
    change wpStill _ _ wc.drew _ _ _
    refine still_of_quiet ?_
    repeat (first | go_big_quiet_step (fail) | (go_big_quiet_want; go_big_quiet_op; refine ⟨_, (HP12.out _).mono fun _ _ h => ⟨h.1, h.2.symm⟩, ?_⟩; go_big_quiet_on))
    refine wpQuiet_nil ?_
    change wpList _ _ _ _ _ wc.drew
    go_wp2_with fail
    unfold Go.Bl.Rest
    refine still_of_quiet ?_
    refine wpQuiet_nil ?_
    have hg7b : (wc.setCell ⟨g7, 3, none⟩ (.int .i64 (startP r + pickOf r.long 12))).drew.heap[g7]? = some (.cells (opc { op1 r id with end_ := startP r + pickOf r.long 12 }).toArray 36 (0, 0)) := set_end wc g7 (op1 r id) HG7.out (startP r + pickOf r.long 12)
    have hk7 : Keeps (fun x => x = g7) wc (wc.setCell ⟨g7, 3, none⟩ (.int .i64 (startP r + pickOf r.long 12))).drew := (one_set wc g7 3 (.int .i64 (startP r + pickOf r.long 12))).drew
    clear y2 y3 f3 s1 hsum
    generalize (wc.setCell ⟨g7, 3, none⟩ (.int .i64 (startP r + pickOf r.long 12))).drew = w3 at hg7b hk7 ⊢
    have hB3 : Below w2.heap.size w2 w3 := Go.Bl.Below.keep HBc.out hk7 HBc.out.size (fun x hx => by have hx : x = g7 := hx; have := HGL.out; omega)
    have HB3 := Lib.hid hB3
    have HG3 := Lib.hid hg7b
    have s1 : w3.cell? ⟨gr, 1, none⟩ = some (.int .i64 r.long) := cell_of_row w3 gr 1 _ _ _ (HRC.out w3 hB3)
    have y3 : w3.cell? ⟨g7, 3, none⟩ = some (.int .i64 (startP r + pickOf r.long 12)) := cell_of_row w3 g7 3 _ _ _ hg7b
    have f3 : w3.frozen? ⟨g7, 3, none⟩ = false := frozen_block hg7b 3
    clear hg7b hk7 hB3
    go_upto_if 36 with (fail)
    go_cut [] (fun wx => Below w2.heap.size w2 wx ∧ wx.heap[g7]? = some (.cells (opc { op1 r id with end_ := endP r }).toArray 36 (0, 0)))
    case first =>
      by_cases hlong : r.long < 0
      · have d1 : decide (r.long < 0) = true := decide_eq_true hlong
        have he : endP r = -1 := by unfold endP; rw [if_pos hlong]
        have hg := set_end w3 g7 _ HG3.out (-1)
        have hk7 := one_set w3 g7 3 (.int .i64 (-1))
        have HX := Lib.hid (And.intro (Go.Bl.Below.keep HB3.out hk7 HB3.out.size (fun x hx => by have hx : x = g7 := hx; have := HGL.out; omega)) hg)
        have HE := Lib.hid he
        clear he hg hk7
        go_wp2_with fail
        go_meet
        case rel =>
          rw [HE.out]
          exact HX.out
      · have d1 : decide (r.long < 0) = false := decide_eq_false hlong
        have he : endP r = startP r + pickOf r.long 12 := by unfold endP; rw [if_neg hlong]
        have HE := Lib.hid he
        clear he
        go_wp2_with fail
        go_meet
        case rel =>
          rw [HE.out]
          exact ⟨HB3.out, HG3.out⟩
    case rest =>
      obtain ⟨hBd, hg7d⟩ := hcut
      have HBd := Lib.hid hBd
      have HGd := Lib.hid hg7d
      have hkn := atP_le log r
      rw [HN.out] at hkn
      obtain ⟨kk, hkk⟩ : ∃ kk, atP log r = kk := ⟨_, rfl⟩
      have hpk : pickOf r.at_ ((n : Int) + 1) = kk := by
        have h1 := pickOf_range r.at_ (n := (n : Int) + 1) (by omega)
        rw [← hkk]
        unfold atP
        rw [HN.out]
        omega
      rw [hkk] at hkn
      have HKK := Lib.hid hkk
      have HPA : Hid (∀ wz : World, Calls Tryz.prog 21 #[.int .i64 r.at_, .int .i64 ((n : Int) + 1)] wz fun x w' => x = .returned (.int .i64 kk) ∧ wz = w') := Lib.hid fun wz => by
        have h := pickO_any wz r.at_ HRW.out.at_ (n + 1) (by omega) (by omega)
        have e : ((n + 1 : Nat) : Int) = (n : Int) + 1 := by omega
        rw [e, hpk] at h
        exact h
      have hch : ∀ (W : World) (j : Nat), j ≤ n → (Instr.slice 22 (.slice A n c) none (some (.int .i64 (j : Int))) none).run Tryz.prog W = .ok (.slice (cutA A c 0 7) j c) W := fun W j hj => by
        simpa using run_cut_high (P := Tryz.prog) Tryz.underlying22 Tryz.sizeOf55 A n c (j : Int) (by omega) (by omega) W
      have hplay := fun (wz : World) (hz : Below w2.heap.size w2 wz) (j : Nat) (hj : j ≤ n) => playD_any wz (.slice (cutA A c 0 7) j c) (log.take j) (((HL.out.fresh HB2.out).fresh hz).take (by rw [HN.out]; exact hj)) (HOK.out.take j) (by rw [List.length_take]; omega)
      have HPLAY := Lib.hid hplay
      have HCH := Lib.hid hch
      have s2 : wc.cell? ⟨gr, 2, none⟩ = some (.int .i64 r.at_) := cell_of_row wc gr 2 _ _ _ (HRC.out wc hBd)
      have hc1 := fun W => hch W kk hkn
      clear hpk hkk hch hplay hBd hg7d s1 y3 f3
      go_wp2_with fail
      refine (HPA.out _).mono ?_
      rintro e w4 ⟨rfl, rfl⟩
      go_wp2_with fail
      refine (HPLAY.out wc HBd.out kk hkn).mono ?_
      rintro e w4 ⟨m, F, rfl, hM, hF, hB4⟩
      have HM := Lib.hid hM
      have HB4 := Lib.hid (HBd.out.trans (hB4.mono HBd.out.size))
      have HG4 := Lib.hid ((hB4.block g7 (Array.getElem?_eq_some_iff.1 HGd.out).1).trans HGd.out)
      have HF := Lib.hid hF
      have hst : stF (log.take kk) = stK log kk := rfl
      rw [hst] at HM
      clear hM hF hB4 hst s2 hc1
      have hB4 := HB4.out
      have s4 : w4.cell? ⟨gr, 4, none⟩ = some (.bool r.read) := cell_of_row w4 gr 4 _ _ _ (HRC.out w4 hB4)
      go_upto_region 9 with (fail)
      go_cut [59] (fun s wx => s = .bool (r.read || decide (kk = 0)) ∧ wx = w4)
      case first =>
        rcases Bool.eq_false_or_eq_true r.read with hrd | hrd
        · rw [hrd] at s4
          have HRD := Lib.hid hrd
          clear hrd
          go_wp2_with fail
          go_meet
          case rel => exact ⟨by rw [HRD.out]; rfl, rfl⟩
        · rw [hrd] at s4
          have HRD := Lib.hid hrd
          clear hrd
          by_cases hk0 : kk = 0
          · have d1 : ((kk : Int) == 0) = true := by simp [hk0]
            have HK0 := Lib.hid hk0
            clear hk0
            go_wp2_with fail
            go_meet
            case rel => exact ⟨by rw [HRD.out, HK0.out]; rfl, rfl⟩
          · have d1 : ((kk : Int) == 0) = false := by simp; omega
            have HK0 := Lib.hid hk0
            clear hk0
            go_wp2_with fail
            go_meet
            case rel => exact ⟨by rw [HRD.out, decide_eq_false HK0.out]; rfl, rfl⟩
      case rest =>
        obtain ⟨rfl, rfl⟩ := hcut
        cases hB : (r.read || decide (kk = 0))
        · have hrf : r.read = false := by
            cases h : r.read
            · rfl
            · rw [h] at hB; cases hB
          have hk0 : kk ≠ 0 := fun e => by rw [hrf, decide_eq_true e] at hB; cases hB
          have HRF := Lib.hid hrf
          clear hB hrf s4
          obtain ⟨q, rfl⟩ : ∃ q, kk = q + 1 := ⟨kk - 1, by omega⟩
          have hql : q < log.length := by rw [HN.out]; omega
          have hc1 := fun W => HCH.out W q (by omega)
          clear hk0
          go_wp2_with fail
          refine (HPLAY.out wc hB4 q (by omega)).mono ?_
          rintro e w5 ⟨m2, F2, rfl, hM2, hF2, hB5⟩
          have hst : stF (log.take q) = stK log q := rfl
          rw [hst] at hM2
          have hB5' := HB4.out.trans (hB5.mono HB4.out.size)
          have HB5 := Lib.hid hB5'
          have HG5 := Lib.hid ((hB5.block g7 (Array.getElem?_eq_some_iff.1 HG4.out).1).trans HG4.out)
          have HM2 := Lib.hid hM2
          have HF2 := Lib.hid hF2
          have HZ4 : Hid (g7 < wc.heap.size) := Lib.hid (Array.getElem?_eq_some_iff.1 HG4.out).1
          have hL5 := (HL.out.fresh HB2.out).fresh hB5'
          obtain ⟨b0, o0, hAe, _, _, hx⟩ := hL5.ents.1.cell_ hql
          have hbs := ent_small (hL5.ents.2 _ (List.getElem_mem hql)) (hL5.fit _ (List.getElem_mem hql))
          have hz := HOK.out q hql
          have hb8 := (right_nums (apply_zero hz).1).2.2.2.2.2
          have hoc := outK_at hql
          obtain ⟨l1, l2, l3⟩ := stK_len HOK.out q (by omega) (by rw [HN.out]; omega)
          have hcall := fun (wz : World) (hw : Below w5.heap.size w5 wz) => mapply_any wz m2 (stK log q) F2 (hM2.fresh hw) (fun b => b < w2.heap.size) log[q]
            (BatchSm.fresh (BatchSm.fresh (ent_small ((HL.out.fresh HB2.out).ents.2 _ (List.getElem_mem hql)) ((HL.out.fresh HB2.out).fit _ (List.getElem_mem hql))) hB5') hw) (fun x hx hf => by have := hF2 x hf; have := HB4.out.size; omega) (by omega) (by omega) (by omega)
          rw [hz, ← hoc] at hcall
          obtain ⟨oc, hoe⟩ : ∃ oc, outK log q = oc := ⟨_, rfl⟩
          rw [hoe] at hcall
          obtain ⟨EA, Ec, hev2, _, _⟩ := hbs.1.shape
          obtain ⟨EN, hEN⟩ : ∃ n, log[q].evs.length = n := ⟨_, rfl⟩
          rw [hEN] at hev2
          have hone2 := hbs.2.2.1
          obtain ⟨a, ha⟩ : ∃ a, log[q] = a := ⟨_, rfl⟩
          rw [ha] at hx hcall hev2
          rw [hev2] at hcall
          cases hAe
          have x0 := hx 0 _ rfl
          have x1 := hx 1 _ rfl
          have x2 := hx 2 _ rfl
          have x3 := hx 3 _ rfl
          have x4 := hx 4 _ rfl
          have x5 := hx 5 _ rfl
          have x6 := hx 6 _ rfl
          rw [hev2] at x6
          simp only [Nat.add_zero] at x0
          have HC := Lib.hid hcall
          have HOE := Lib.hid hoe
          have HAE := Lib.hid ha
          have HRT := Lib.hid (right_nums (apply_zero hz).1)
          have hq0 : (0 : Int) ≤ (q : Int) := by omega
          have hq1 : (q : Int) < (n : Int) := by omega
          have hBe := (Below.refl w5.heap.size w5).alloc (Nat.le_refl _) (.cells #[.int .i64 a.pos, .int .i64 a.epoch, .string a.stream, .int .i64 a.expect, .int .i64 a.session, .int .i64 a.seq, .slice EA EN Ec] 55)
          have hge := heap_alloc_new w5 (.cells #[.int .i64 a.pos, .int .i64 a.epoch, .string a.stream, .int .i64 a.expect, .int .i64 a.session, .int .i64 a.seq, .slice EA EN Ec] 55)
          clear hM2 hF2 hB5 hst hB5' hL5 hx hbs hz hb8 hoc hcall hoe hev2 hEN ha l1 l2 l3 hc1 hone2
          go_upto_region 17 with (fail)
          obtain ⟨ge, hgee⟩ : ∃ g, w5.heap.size = g := ⟨_, rfl⟩
          have HGEE := Lib.hid hgee
          rw [hgee] at hge ⊢
          generalize w5.alloc (.cells #[.int .i64 a.pos, .int .i64 a.epoch, .string a.stream, .int .i64 a.expect, .int .i64 a.session, .int .i64 a.seq, .slice EA EN Ec] 55) = w6 at hBe hge ⊢
          have HBE := Lib.hid hBe
          have HGE6 := Lib.hid hge
          clear hBe hge hgee x0 x1 x2 x3 x4 x5 x6
          have z0 : w6.cell? ⟨ge, 0, none⟩ = some (.int .i64 a.pos) := cell_of_row w6 ge 0 _ _ _ HGE6.out
          have z1 : w6.cell? ⟨ge, 1, none⟩ = some (.int .i64 a.epoch) := cell_of_row w6 ge 1 _ _ _ HGE6.out
          have z2 : w6.cell? ⟨ge, 2, none⟩ = some (.string a.stream) := cell_of_row w6 ge 2 _ _ _ HGE6.out
          have z3 : w6.cell? ⟨ge, 3, none⟩ = some (.int .i64 a.expect) := cell_of_row w6 ge 3 _ _ _ HGE6.out
          have z4 : w6.cell? ⟨ge, 4, none⟩ = some (.int .i64 a.session) := cell_of_row w6 ge 4 _ _ _ HGE6.out
          have z5 : w6.cell? ⟨ge, 5, none⟩ = some (.int .i64 a.seq) := cell_of_row w6 ge 5 _ _ _ HGE6.out
          have z6 : w6.cell? ⟨ge, 6, none⟩ = some (.slice EA EN Ec) := cell_of_row w6 ge 6 _ _ _ HGE6.out
          go_wp2_with fail
          refine (HC.out w6 HBE.out).mono ?_
          rintro e w7 ⟨rfl, hA⟩
          have hF7 : ∀ x, F2 x → w2.heap.size ≤ x ∧ x ≠ g7 ∧ x ≠ ge := fun x hx => by
            have h1 := HF2.out x hx
            have h2 := HB4.out.size
            have h3 := HZ4.out
            have h4 := HM2.out.lt x hx
            have h5 := HGEE.out
            omega
          have hB7 : Below w2.heap.size w2 w7 := Go.Bl.Below.keep (HB5.out.trans (HBE.out.mono HB5.out.size)) hA.2 (Nat.le_trans HB5.out.size HBE.out.size) (fun x hx => (hF7 x hx).1)
          have hg7 := hA.2.grownTo ((HBE.out.block g7 (Array.getElem?_eq_some_iff.1 HG5.out).1).trans HG5.out) (fun hx => (hF7 g7 hx).2.1 rfl)
          have hge7 := hA.2.grownTo HGE6.out (fun hx => (hF7 ge hx).2.2 rfl)
          have hBo := (Below.refl w7.heap.size w7).alloc (Nat.le_refl _) (.cells #[.int .i64 oc.code, .int .i64 oc.pos, .int .i64 oc.first, .int .i64 oc.ver] 34)
          have hgo := heap_alloc_new w7 (.cells #[.int .i64 oc.code, .int .i64 oc.pos, .int .i64 oc.first, .int .i64 oc.ver] 34)
          have hg8 := (hBo.block g7 (Array.getElem?_eq_some_iff.1 hg7).1).trans hg7
          have hge8 := (hBo.block ge (Array.getElem?_eq_some_iff.1 hge7).1).trans hge7
          have hB8 := hB7.trans (hBo.mono hB7.size)
          have HZ7 : Hid (g7 < w7.heap.size) := Lib.hid (Array.getElem?_eq_some_iff.1 hg7).1
          clear hA hF7 hB7 hg7 hge7 hBo z0 z1 z2 z3 z4 z5 z6
          go_upto_region 18 with (fail)
          obtain ⟨go, hgoe⟩ : ∃ g, w7.heap.size = g := ⟨_, rfl⟩
          rw [hgoe] at hgo ⊢
          generalize w7.alloc (.cells #[.int .i64 oc.code, .int .i64 oc.pos, .int .i64 oc.first, .int .i64 oc.ver] 34) = w8 at hgo hg8 hge8 hB8 ⊢
          have HGE8 := Lib.hid hge8
          have HGO8 := Lib.hid hgo
          have hne1 : ge ≠ g7 := by have := HZ4.out; have := HGEE.out; have := HB5.out.size; have := (Array.getElem?_eq_some_iff.1 HG5.out).1; omega
          have hne2 : go ≠ g7 := by have := HZ7.out; omega
          have HNE1 := Lib.hid hne1
          have HNE2 := Lib.hid hne2
          clear hne1 hne2 hge8 hgo hgoe
          have y0 : w8.cell? ⟨g7, 0, none⟩ = some (.int .i64 2) := cell_of_row w8 g7 0 _ _ _ hg8
          have f0 : w8.frozen? ⟨g7, 0, none⟩ = false := frozen_block hg8 0
          have hg9 := set_kind w8 g7 _ hg8 1
          have hk9 := one_set w8 g7 0 (.int .i64 1)
          clear hg8
          go_upto_region 19 with (fail)
          generalize w8.setCell ⟨g7, 0, none⟩ (.int .i64 1) = w9 at hg9 hk9 ⊢
          have hge9 := hk9.grownTo HGE8.out HNE1.out
          have hgo9 := hk9.grownTo HGO8.out HNE2.out
          have hB9 : Below w2.heap.size w2 w9 := Go.Bl.Below.keep hB8 hk9 hB8.size (fun x hx => by have hx : x = g7 := hx; have := HGL.out; omega)
          clear y0 f0 hB8 hk9
          have z2 : w9.cell? ⟨ge, 2, none⟩ = some (.string a.stream) := cell_of_row w9 ge 2 _ _ _ hge9
          have z3 : w9.cell? ⟨ge, 3, none⟩ = some (.int .i64 a.expect) := cell_of_row w9 ge 3 _ _ _ hge9
          have z4 : w9.cell? ⟨ge, 4, none⟩ = some (.int .i64 a.session) := cell_of_row w9 ge 4 _ _ _ hge9
          have z5 : w9.cell? ⟨ge, 5, none⟩ = some (.int .i64 a.seq) := cell_of_row w9 ge 5 _ _ _ hge9
          have z6 : w9.cell? ⟨ge, 6, none⟩ = some (.slice EA EN Ec) := cell_of_row w9 ge 6 _ _ _ hge9
          have y4 : w9.cell? ⟨g7, 4, none⟩ = some (.string ByteArray.empty) := cell_of_row w9 g7 4 _ _ _ hg9
          have y5 : w9.cell? ⟨g7, 5, none⟩ = some (.int .i64 0) := cell_of_row w9 g7 5 _ _ _ hg9
          have y6 : w9.cell? ⟨g7, 6, none⟩ = some (.int .i64 0) := cell_of_row w9 g7 6 _ _ _ hg9
          have y7 : w9.cell? ⟨g7, 7, none⟩ = some (.int .i64 0) := cell_of_row w9 g7 7 _ _ _ hg9
          have y8 : w9.cell? ⟨g7, 8, none⟩ = some (.slice none 0 0) := cell_of_row w9 g7 8 _ _ _ hg9
          have f4 := frozen_block hg9 4
          have f5 := frozen_block hg9 5
          have f6 := frozen_block hg9 6
          have f7 := frozen_block hg9 7
          have f8 := frozen_block hg9 8
          have hg10 := set_batch w9 g7 _ hg9 a.stream a.expect a.session a.seq (.slice EA EN Ec)
          have hk10 : Keeps (fun x => x = g7) w9 (((((w9.setCell ⟨g7, 4, none⟩ (.string a.stream)).setCell ⟨g7, 5, none⟩ (.int .i64 a.expect)).setCell ⟨g7, 6, none⟩ (.int .i64 a.session)).setCell ⟨g7, 7, none⟩ (.int .i64 a.seq)).setCell ⟨g7, 8, none⟩ (.slice EA EN Ec)) :=
            ((((one_set w9 g7 4 _).trans (one_set _ g7 5 _)).trans (one_set _ g7 6 _)).trans (one_set _ g7 7 _)).trans (one_set _ g7 8 _)
          have HGE9 := Lib.hid hge9
          have HGO9 := Lib.hid hgo9
          have HB9 := Lib.hid hB9
          clear hge9 hgo9 hB9 hg9
          go_upto_region 20 with (fail)
          generalize (((((w9.setCell ⟨g7, 4, none⟩ (.string a.stream)).setCell ⟨g7, 5, none⟩ (.int .i64 a.expect)).setCell ⟨g7, 6, none⟩ (.int .i64 a.session)).setCell ⟨g7, 7, none⟩ (.int .i64 a.seq)).setCell ⟨g7, 8, none⟩ (.slice EA EN Ec)) = w10 at hg10 hk10 ⊢
          have hgo10 := hk10.grownTo HGO9.out HNE2.out
          have hB10 : Below w2.heap.size w2 w10 := Go.Bl.Below.keep HB9.out hk10 HB9.out.size (fun x hx => by have hx : x = g7 := hx; have := HGL.out; omega)
          clear z2 z3 z4 z5 z6 y4 y5 y6 y7 y8 f4 f5 f6 f7 f8 hk10
          have z0 : w10.cell? ⟨go, 0, none⟩ = some (.int .i64 oc.code) := cell_of_row w10 go 0 _ _ _ hgo10
          have z1 : w10.cell? ⟨go, 1, none⟩ = some (.int .i64 oc.pos) := cell_of_row w10 go 1 _ _ _ hgo10
          have z2 : w10.cell? ⟨go, 2, none⟩ = some (.int .i64 oc.first) := cell_of_row w10 go 2 _ _ _ hgo10
          have z3 : w10.cell? ⟨go, 3, none⟩ = some (.int .i64 oc.ver) := cell_of_row w10 go 3 _ _ _ hgo10
          have y9 : w10.cell? ⟨g7, 9, none⟩ = some (.int .i64 0) := cell_of_row w10 g7 9 _ _ _ hg10
          have y10 : w10.cell? ⟨g7, 10, none⟩ = some (.int .i64 0) := cell_of_row w10 g7 10 _ _ _ hg10
          have y11 : w10.cell? ⟨g7, 11, none⟩ = some (.int .i64 0) := cell_of_row w10 g7 11 _ _ _ hg10
          have y12 : w10.cell? ⟨g7, 12, none⟩ = some (.int .i64 0) := cell_of_row w10 g7 12 _ _ _ hg10
          have f9 := frozen_block hg10 9
          have f10 := frozen_block hg10 10
          have f11 := frozen_block hg10 11
          have f12 := frozen_block hg10 12
          have hg11 := set_out w10 g7 _ hg10 oc
          have hk11 : Keeps (fun x => x = g7) w10 ((((w10.setCell ⟨g7, 9, none⟩ (.int .i64 oc.code)).setCell ⟨g7, 10, none⟩ (.int .i64 oc.pos)).setCell ⟨g7, 11, none⟩ (.int .i64 oc.first)).setCell ⟨g7, 12, none⟩ (.int .i64 oc.ver)) :=
            (((one_set w10 g7 9 _).trans (one_set _ g7 10 _)).trans (one_set _ g7 11 _)).trans (one_set _ g7 12 _)
          have HB10 := Lib.hid hB10
          clear hgo10 hB10 hg10
          go_upto_region 21 with (fail)
          generalize ((((w10.setCell ⟨g7, 9, none⟩ (.int .i64 oc.code)).setCell ⟨g7, 10, none⟩ (.int .i64 oc.pos)).setCell ⟨g7, 11, none⟩ (.int .i64 oc.first)).setCell ⟨g7, 12, none⟩ (.int .i64 oc.ver)) = w11 at hg11 hk11 ⊢
          have hB11 : Below w2.heap.size w2 w11 := Go.Bl.Below.keep HB10.out hk11 HB10.out.size (fun x hx => by have hx : x = g7 := hx; have := HGL.out; omega)
          have hg11 : w11.heap[g7]? = some (.cells (opc ⟨1, id, startP r, endP r, a.stream, a.expect, a.session, a.seq, .slice EA EN Ec, oc, r.stream, fromP r, 0, .slice none 0 0, []⟩).toArray 36 (0, 0)) := hg11
          have HB11 := Lib.hid hB11
          have HG11 := Lib.hid hg11
          clear z0 z1 z2 z3 y9 y10 y11 y12 f9 f10 f11 f12 hk11 hg11 hB11
          obtain ⟨o3, ho3⟩ : ∃ o : Hop, (⟨1, id, startP r, endP r, a.stream, a.expect, a.session, a.seq, .slice EA EN Ec, oc, r.stream, fromP r, 0, .slice none 0 0, []⟩ : Hop) = o := ⟨_, rfl⟩
          rw [ho3] at HG11
          have HO3 := Lib.hid ho3
          have hbd := out_bound HOK.out hql
          rw [HOE.out] at hbd
          have hs1 : wrap64 (oc.ver + 1) = oc.ver + 1 := by unfold wrap64; omega
          have hs2 : wrap64 (a.seq + 1) = a.seq + 1 := by
            have := HRT.out.2.2.2.1
            rw [HAE.out] at this
            unfold wrap64; omega
          have hs3 : wrap64 (pickOf r.off 9 - 1) = pickOf r.off 9 - 1 := by
            have := pickOf_range r.off (n := 9) (by omega)
            unfold wrap64; omega
          have HP8 : Hid (∀ wz : World, Calls Tryz.prog 21 #[.int .i64 r.off, .int .i64 8] wz fun x w' => x = .returned (.int .i64 (pickOf r.off 8)) ∧ wz = w') := Lib.hid fun wz => pickO_any wz r.off HRW.out.off 8 (by decide) (by decide)
          have HP9 : Hid (∀ wz : World, Calls Tryz.prog 21 #[.int .i64 r.off, .int .i64 9] wz fun x w' => x = .returned (.int .i64 (pickOf r.off 9)) ∧ wz = w') := Lib.hid fun wz => pickO_any wz r.off HRW.out.off 9 (by decide) (by decide)
          have HBD := Lib.hid hbd
          have s3 : w11.cell? ⟨gr, 3, none⟩ = some (.int .i64 r.off) := cell_of_row w11 gr 3 _ _ _ (HRC.out w11 HB11.out)
          have y7 : w11.cell? ⟨g7, 7, none⟩ = some (.int .i64 a.seq) := by have := cell_of_row w11 g7 7 _ _ _ HG11.out; rw [← HO3.out] at this; exact this
          have y10 : w11.cell? ⟨g7, 10, none⟩ = some (.int .i64 oc.pos) := by have := cell_of_row w11 g7 10 _ _ _ HG11.out; rw [← HO3.out] at this; exact this
          have y12 : w11.cell? ⟨g7, 12, none⟩ = some (.int .i64 oc.ver) := by have := cell_of_row w11 g7 12 _ _ _ HG11.out; rw [← HO3.out] at this; exact this
          have f7 := frozen_block HG11.out 7
          have f10 := frozen_block HG11.out 10
          have f12 := frozen_block HG11.out 12
          clear ho3 hbd
          go_wp2_with fail
          refine (HP8.out _).mono ?_
          rintro e w12 ⟨rfl, rfl⟩
          go_upto_block 0 with (fail)
          go_cut [] (fun wx => Keeps (fun x => x = g7) w11 wx ∧ wx.heap[g7]? = some (.cells (opc { o3 with seq := a.seq + (if pickOf r.off 8 = 2 then 1 else 0), out := (if pickOf r.off 8 = 0 then { oc with pos := pickOf r.off 9 - 1 } else if pickOf r.off 8 = 1 then { oc with ver := oc.ver + 1 } else oc) }).toArray 36 (0, 0)))
          case first =>
            by_cases h0 : pickOf r.off 8 = 0
            · have d0 : (pickOf r.off 8 == 0) = true := by simp [h0]
              have hg := set_pos w11 g7 _ HG11.out (pickOf r.off 9 - 1)
              have HX := Lib.hid (And.intro (one_set w11 g7 10 (.int .i64 (pickOf r.off 9 - 1))) hg)
              have H0 := Lib.hid h0
              clear h0 hg
              go_wp2_with fail
              refine (HP9.out _).mono ?_
              rintro e w12 ⟨rfl, rfl⟩
              go_wp2_with fail
              go_meet
              case rel =>
                rw [if_pos H0.out, if_neg (by rw [H0.out]; decide)]
                refine ⟨HX.out.1, ?_⟩
                have := HX.out.2
                rw [← HO3.out] at this ⊢
                rw [Int.add_zero]
                exact this
            have d0 : (pickOf r.off 8 == 0) = false := by simp [h0]
            by_cases h1 : pickOf r.off 8 = 1
            · have d1 : (pickOf r.off 8 == 1) = true := by simp [h1]
              have hg := set_over w11 g7 _ HG11.out (oc.ver + 1)
              have HX := Lib.hid (And.intro (one_set w11 g7 12 (.int .i64 (oc.ver + 1))) hg)
              have H0 := Lib.hid h0
              have H1 := Lib.hid h1
              clear h0 h1 hg
              go_wp2_with fail
              go_meet
              case rel =>
                rw [if_neg H0.out, if_pos H1.out, if_neg (by rw [H1.out]; decide)]
                refine ⟨HX.out.1, ?_⟩
                have := HX.out.2
                rw [← HO3.out] at this ⊢
                rw [Int.add_zero]
                exact this
            have d1 : (pickOf r.off 8 == 1) = false := by simp [h1]
            by_cases h2 : pickOf r.off 8 = 2
            · have d2 : (pickOf r.off 8 == 2) = true := by simp [h2]
              have hg := set_seq w11 g7 _ HG11.out (a.seq + 1)
              have HX := Lib.hid (And.intro (one_set w11 g7 7 (.int .i64 (a.seq + 1))) hg)
              have H0 := Lib.hid h0
              have H1 := Lib.hid h1
              have H2 := Lib.hid h2
              clear h0 h1 h2 hg
              go_wp2_with fail
              go_meet
              case rel =>
                rw [if_neg H0.out, if_neg H1.out, if_pos H2.out]
                refine ⟨HX.out.1, ?_⟩
                have := HX.out.2
                rw [← HO3.out] at this ⊢
                exact this
            · have d2 : (pickOf r.off 8 == 2) = false := by simp [h2]
              have H0 := Lib.hid h0
              have H1 := Lib.hid h1
              have H2 := Lib.hid h2
              clear h0 h1 h2
              go_wp2_with fail
              go_meet
              case rel =>
                rw [if_neg H0.out, if_neg H1.out, if_neg H2.out]
                refine ⟨Keeps.refl _ _, ?_⟩
                have := HG11.out
                rw [← HO3.out] at this ⊢
                rw [Int.add_zero]
                exact this
          case rest =>
            obtain ⟨hk12, hg12⟩ := hcut
            obtain ⟨o, ho⟩ : ∃ o : Hop, ({ o3 with seq := a.seq + (if pickOf r.off 8 = 2 then 1 else 0), out := (if pickOf r.off 8 = 0 then { oc with pos := pickOf r.off 9 - 1 } else if pickOf r.off 8 = 1 then { oc with ver := oc.ver + 1 } else oc) } : Hop) = o := ⟨_, rfl⟩
            rw [ho] at hg12
            have hone : (opc o).toArray.all (·.oneCell') = true := by rw [← ho, ← HO3.out]; simp [opc, Value.oneCell']
            have hB12 : Below w2.heap.size w2 wc := Go.Bl.Below.keep HB11.out hk12 HB11.out.size (fun x hx => by have hx : x = g7 := hx; have := HGL.out; omega)
            have hz12 := (hB12.block (gr + 1) (Array.getElem?_eq_some_iff.1 HG6.out).1).trans HG6.out
            have HLD := Lib.hid (load_box hg12)
            have HZ12 := Lib.hid hz12
            have HB12 := Lib.hid hB12
            have HONE := Lib.hid hone
            have HO := Lib.hid ho
            clear hk12 hg12 hone hB12 hz12 ho s3 y7 y10 y12 f7 f10 f12
            go_wp2_with (first | (refine op_load rfl (.tmp 7) rfl g7 0 rfl o HLD.out ?_) | (refine op_store2 rfl (.tmp 6) (.tmp 136) rfl (gr + 1) Hop.zero rfl o rfl HZ12.out rfl HONE.out ?_; intro w13 hk13 hg13))
            refine bodyPost_ret (v := .agg (opc o).toArray) (results_cell_row Tryz.results11 _ _ (gr + 1) 36 (opc o).toArray (0, 0) _ rfl hg13 Tryz.underlying36 rfl (hi36 o)) rfl ⟨o, rfl, ?_, ?_, ?_⟩
            · rw [← HO.out, ← HO3.out]
              refine ⟨rfl, rfl, rfl, rfl, rfl, fun h => ?_, fun k hk _ hkl => ?_⟩
              · rw [HKK.out, HRF.out] at h
                rcases h with h | h
                · cases h
                · omega
              · rw [HKK.out] at hk
                have hkq : k = q := by omega
                subst hkq
                refine ⟨rfl, rfl, by rw [HAE.out], by rw [HAE.out], by rw [HAE.out], by rw [HOE.out]⟩
            · rw [← HO.out, ← HO3.out]
              refine ⟨.inl rfl, Sl.nil_ _ _ _ _, ⟨_, _, _, rfl⟩, by show r.stream.size ≤ maxLen; unfold maxLen; omega, ?_⟩
              have h1 := HBD.out.2
              have h3 := HN.out
              have h2 := pickOf_range r.off (n := 9) (by omega)
              show -9223372036854775808 ≤ (if pickOf r.off 8 = 0 then ({ oc with pos := pickOf r.off 9 - 1 } : Ded.Oc) else if pickOf r.off 8 = 1 then { oc with ver := oc.ver + 1 } else oc).pos ∧ (if pickOf r.off 8 = 0 then ({ oc with pos := pickOf r.off 9 - 1 } : Ded.Oc) else if pickOf r.off 8 = 1 then { oc with ver := oc.ver + 1 } else oc).pos ≤ 9223372036854775807
              split
              · show -9223372036854775808 ≤ pickOf r.off 9 - 1 ∧ pickOf r.off 9 - 1 ≤ _
                omega
              · split
                · show -9223372036854775808 ≤ oc.pos ∧ oc.pos ≤ _
                  omega
                · omega
            · have h1 := HB2.out.trans (HB12.out.mono HB2.out.size)
              exact Go.Bl.Below.keep h1 hk13 h1.size (fun x hx => by have hx : x = gr + 1 := hx; have := HGE.out; omega)
        · have HBT := Lib.hid hB
          obtain ⟨xm, tm, FX, FT, hmi⟩ := HM.out
          have c0 := hmi.c0
          obtain ⟨l1, l2, l3⟩ := stK_len HOK.out kk (by rw [HN.out]; exact hkn) (by rw [HN.out]; omega)
          have hver := fun wz (hz : Below wc.heap.size wc wz) => Idx.rversion_any wz xm (stK log kk).L FX (hmi.idx.fresh hz) r.stream (by omega)
          have hread := fun wz (hz : Below wc.heap.size wc wz) => mread_any wz m (stK log kk) F (HM.out.fresh hz) r.stream (fromP r) (by omega)
          have hvd : ((Idx.ofS (stK log kk).L r.stream).length : Int) = verS (stK log kk) r.stream := rfl
          rw [hvd] at hver
          have HVER := Lib.hid hver
          have HREAD := Lib.hid hread
          obtain ⟨vs, hvs⟩ : ∃ z, verS (stK log kk) r.stream = z := ⟨_, rfl⟩
          rw [hvs] at HVER
          have HVS := Lib.hid hvs
          have s5 : wc.cell? ⟨gr, 5, none⟩ = some (.string r.stream) := cell_of_row wc gr 5 _ _ _ (HRC.out wc hB4)
          have y15 : wc.cell? ⟨g7, 15, none⟩ = some (.int .i64 0) := cell_of_row wc g7 15 _ _ _ HG4.out
          have f15 : wc.frozen? ⟨g7, 15, none⟩ = false := frozen_block HG4.out 15
          clear hB hmi hver hread hvd hvs l1 l2 l3 s4
          go_upto_region 10 with (fail)
          refine region_mid 8 rfl (by kernel_rfl) (by kernel_rfl) ?_
          simp only [List.take_succ_cons, List.take_zero, List.drop_succ_cons, List.drop_zero]
          change wpStill _ _ wc.drew _ _ _
          refine still_of_quiet ?_
          repeat (first | go_big_quiet_step (fail) | (go_big_quiet_want; go_big_quiet_op; refine ⟨_, (HVER.out _ (below_drew wc)).mono fun _ _ h => ⟨h.1, h.2.symm⟩, ?_⟩; go_big_quiet_on))
          refine wpQuiet_nil ?_
          change wpList _ _ _ _ _ wc.drew
          go_wp2_with fail
          unfold Go.Bl.Rest
          refine still_of_quiet ?_
          refine wpQuiet_nil ?_
          have hg5 : (wc.setCell ⟨g7, 15, none⟩ (.int .i64 vs)).drew.heap[g7]? = some (.cells (opc { op1 r id with end_ := endP r, version := vs }).toArray 36 (0, 0)) := set_ver wc g7 { op1 r id with end_ := endP r } HG4.out vs
          have hk5 : Keeps (fun x => x = g7) wc (wc.setCell ⟨g7, 15, none⟩ (.int .i64 vs)).drew := (one_set wc g7 15 (.int .i64 vs)).drew
          clear c0 s5 y15 f15
          generalize (wc.setCell ⟨g7, 15, none⟩ (.int .i64 vs)).drew = w5 at hg5 hk5 ⊢
          have hB5 : Below w2.heap.size w2 w5 := Go.Bl.Below.keep hB4 hk5 hB4.size (fun x hx => by have hx : x = g7 := hx; have := HGL.out; omega)
          have hM5 : MtAt w5 m (stK log kk) F := HM.out.keep hk5 (fun x hx e => by have e : x = g7 := e; have := HF.out x hx; have := (Array.getElem?_eq_some_iff.1 HGd.out).1; omega)
          have HM5 := Lib.hid hM5
          have HB5 := Lib.hid hB5
          have HG5 := Lib.hid hg5
          have s5 : w5.cell? ⟨gr, 5, none⟩ = some (.string r.stream) := cell_of_row w5 gr 5 _ _ _ (HRC.out w5 hB5)
          have y14 : w5.cell? ⟨g7, 14, none⟩ = some (.int .i64 (fromP r)) := cell_of_row w5 g7 14 _ _ _ hg5
          clear hg5 hk5 hB5 hM5
          go_wp2_with fail
          refine (mread_any w5 m (stK log kk) F HM5.out r.stream (fromP r) (by have := (stK_len HOK.out kk (by rw [HN.out]; exact hkn) (by rw [HN.out]; omega)).1; omega)).mono ?_
          rintro e w6 ⟨ve, rfl, hB6, hS6⟩
          obtain ⟨eA, ec, rfl, he1, he2⟩ := hS6.shape
          obtain ⟨eN, heN⟩ : ∃ n, (readS (stK log kk) r.stream (fromP r)).length = n := ⟨_, rfl⟩
          rw [heN] at he1
          have HS6 := Lib.hid hS6
          rw [heN] at HS6 ⊢
          have hg6 := (hB6.block g7 (Array.getElem?_eq_some_iff.1 HG5.out).1).trans HG5.out
          have HG6' := Lib.hid hg6
          have HB6 := Lib.hid (HB5.out.trans (hB6.mono HB5.out.size))
          have HZ5 : Hid (g7 < w5.heap.size) := Lib.hid (Array.getElem?_eq_some_iff.1 HG5.out).1
          have y16 : w6.cell? ⟨g7, 16, none⟩ = some (.slice none 0 0) := cell_of_row w6 g7 16 _ _ _ hg6
          have f16 : w6.frozen? ⟨g7, 16, none⟩ = false := frozen_block hg6 16
          have HP7 : Hid (∀ wz : World, Calls Tryz.prog 21 #[.int .i64 r.off, .int .i64 7] wz fun x w' => x = .returned (.int .i64 (pickOf r.off 7)) ∧ wz = w') := Lib.hid fun wz => pickO_any wz r.off HRW.out.off 7 (by decide) (by decide)
          have HP5 : Hid (∀ wz : World, Calls Tryz.prog 21 #[.int .i64 r.off, .int .i64 5] wz fun x w' => x = .returned (.int .i64 (pickOf r.off 5)) ∧ wz = w') := Lib.hid fun wz => pickO_any wz r.off HRW.out.off 5 (by decide) (by decide)
          clear hB6 hS6 hg6 heN s5 y14
          go_upto_region 12 with (fail)
          have hg7' := set_evs w6 g7 _ HG6'.out (.slice eA eN ec) (readS (stK log kk) r.stream (fromP r))
          have hk7' := one_set w6 g7 16 (.slice eA eN ec)
          generalize w6.setCell ⟨g7, 16, none⟩ (.slice eA eN ec) = w7 at hg7' hk7' ⊢
          have hB7 : Below w2.heap.size w2 w7 := Go.Bl.Below.keep HB6.out hk7' HB6.out.size (fun x hx => by have hx : x = g7 := hx; have := HGL.out; omega)
          have HB7 := Lib.hid hB7
          have HG7' := Lib.hid hg7'
          have hS7 := HS6.out.keep hk7' (fun x _ hx e => by have e : x = g7 := e; have := HZ5.out; omega)
          have HS7 := Lib.hid hS7
          have s3 : w7.cell? ⟨gr, 3, none⟩ = some (.int .i64 r.off) := cell_of_row w7 gr 3 _ _ _ (HRC.out w7 hB7)
          have y15 : w7.cell? ⟨g7, 15, none⟩ = some (.int .i64 vs) := cell_of_row w7 g7 15 _ _ _ hg7'
          have f15 : w7.frozen? ⟨g7, 15, none⟩ = false := frozen_block hg7' 15
          clear hg7' hk7' hB7 hS7 y16 f16
          go_wp2_with fail
          refine (HP7.out _).mono ?_
          rintro e w8 ⟨rfl, rfl⟩
          go_upto_if 78 with (fail)
          go_cut [] (fun wx => Keeps (fun x => x = g7) w7 wx ∧ wx.heap[g7]? = some (.cells (opc { op1 r id with end_ := endP r, version := (if pickOf r.off 7 = 0 then pickOf r.off 5 else vs), evv := .slice eA eN ec, evs := readS (stK log kk) r.stream (fromP r) }).toArray 36 (0, 0)))
          case first =>
            by_cases h0 : pickOf r.off 7 = 0
            · have d1 : (pickOf r.off 7 == 0) = true := by simp [h0]
              have hg := set_ver w7 g7 _ HG7'.out (pickOf r.off 5)
              have HX := Lib.hid (And.intro (one_set w7 g7 15 (.int .i64 (pickOf r.off 5))) hg)
              have H0 := Lib.hid h0
              clear h0 hg
              go_wp2_with fail
              refine (HP5.out _).mono ?_
              rintro e w8 ⟨rfl, rfl⟩
              go_wp2_with fail
              go_meet
              case rel =>
                rw [if_pos H0.out]
                exact HX.out
            · have d1 : (pickOf r.off 7 == 0) = false := by simp [h0]
              have H0 := Lib.hid h0
              clear h0
              go_wp2_with fail
              go_meet
              case rel =>
                rw [if_neg H0.out]
                exact ⟨Keeps.refl _ _, HG7'.out⟩
          case rest =>
            obtain ⟨hk8, hg8⟩ := hcut
            obtain ⟨o, ho⟩ : ∃ o : Hop, ({ op1 r id with end_ := endP r, version := (if pickOf r.off 7 = 0 then pickOf r.off 5 else vs), evv := .slice eA eN ec, evs := readS (stK log kk) r.stream (fromP r) } : Hop) = o := ⟨_, rfl⟩
            rw [ho] at hg8
            have hone : (opc o).toArray.all (·.oneCell') = true := by rw [← ho]; simp [opc, op1, Value.oneCell']
            have hB8 : Below w2.heap.size w2 wc := Go.Bl.Below.keep HB7.out hk8 HB7.out.size (fun x hx => by have hx : x = g7 := hx; have := HGL.out; omega)
            have hz8 := (hB8.block (gr + 1) (Array.getElem?_eq_some_iff.1 HG6.out).1).trans HG6.out
            have HLD := Lib.hid (load_box hg8)
            have HZ8 := Lib.hid hz8
            have HB8 := Lib.hid hB8
            have HK8 := Lib.hid hk8
            have HONE := Lib.hid hone
            have HO := Lib.hid ho
            clear hk8 hg8 hone hB8 hz8 ho s3 y15 f15
            go_wp2_with (first | (refine op_load rfl (.tmp 7) rfl g7 0 rfl o HLD.out ?_) | (refine op_store2 rfl (.tmp 6) (.tmp 83) rfl (gr + 1) Hop.zero rfl o rfl HZ8.out rfl HONE.out ?_; intro w9 hk9 hg9))
            refine bodyPost_ret (v := .agg (opc o).toArray) (results_cell_row Tryz.results11 _ _ (gr + 1) 36 (opc o).toArray (0, 0) _ rfl hg9 Tryz.underlying36 rfl (hi36 o)) rfl ⟨o, rfl, ?_, ?_, ?_⟩
            · rw [← HO.out]
              refine ⟨rfl, rfl, rfl, rfl, rfl, fun _ => ⟨rfl, by rw [HKK.out], by rw [HKK.out, HVS.out], rfl, rfl, rfl⟩, fun k hk hrd _ => ?_⟩
              have := HBT.out
              rw [hrd, Bool.false_or, decide_eq_true_eq] at this
              rw [HKK.out] at hk
              omega
            · have hs := (HS7.out.keep HK8.out (fun x _ hx e => by have e : x = g7 := e; have := HZ5.out; omega)).keep hk9 (fun x _ hx e => by have e : x = gr + 1 := e; have := HZ5.out; have := HGL.out; have := (Array.getElem?_eq_some_iff.1 HG6.out).1; omega)
              rw [← HO.out]
              exact ⟨.inr rfl, hs.bound.mono (fun b _ hb => ⟨by have := hb.1; have := HB5.out.size; have := HB2.out.size; omega, hb.2⟩), ⟨none, 0, 0, rfl⟩, by show r.stream.size ≤ maxLen; unfold maxLen; omega, by show -9223372036854775808 ≤ (0 : Int) ∧ (0 : Int) ≤ 9223372036854775807; omega⟩
            · have h1 := HB2.out.trans (HB8.out.mono HB2.out.size)
              exact Go.Bl.Below.keep h1 hk9 h1.size (fun x hx => by have hx : x = gr + 1 := hx; have := HGE.out; omega)
end Go.Proofs.YthdcnknjjbdefaaGreatDoor.His
