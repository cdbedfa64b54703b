/- The history: a log that was played; place. Under the stated premises on sizes. -/
import Derived.Test.YthdcnknjjbdefaaGreatDoorHisA
import Derived.Test.YthdcnknjjbdefaaGreatDoorStaC
import Derived.Test.YthdcnknjjbdefaaGreatDoorStaB
import Derived.Test.YthdcnknjjbdefaaGreatDoorStaD
/- The history: seen. Under the stated premises on sizes. -/
namespace Go.Proofs.YthdcnknjjbdefaaGreatDoor.His
open Go.RowKit Go.Bl
attribute [local go_sem ↓] Go.wp_at_zero Go.wp_at_succ

set_option maxHeartbeats 2000000 in
theorem seen_any (w : World) (p : Nat) (s : St) (F W : Nat → Prop) (h : StAt w p s F W) (hL : s.L.length ≤ 1073741824) (o : Hop) (G : Nat → Prop) (hev : Sl w G 2 evc o.evv o.evs) (hst : o.stream.size ≤ maxLen) :
    Calls Tryz.prog 55 #[.pointer (some ⟨p, 0, none⟩), opv o] w fun e w' => e = .returned (.bool (seenB s o)) ∧ Below w.heap.size w w' := by
  unfold opv
  have hB0 : Below w.heap.size w (w.alloc (.cells #[.int .i64 o.kind, .int .i64 o.id, .int .i64 o.start, .int .i64 o.end_, .string o.bs, .int .i64 o.bx, .int .i64 o.ses, .int .i64 o.seq, o.bev, .int .i64 o.out.code, .int .i64 o.out.pos, .int .i64 o.out.first, .int .i64 o.out.ver, .string o.stream, .int .i64 o.from_, .int .i64 o.version, o.evv] 36)) := (Below.refl _ w).alloc (Nat.le_refl _) _
  have hg0 := heap_alloc_new w (.cells #[.int .i64 o.kind, .int .i64 o.id, .int .i64 o.start, .int .i64 o.end_, .string o.bs, .int .i64 o.bx, .int .i64 o.ses, .int .i64 o.seq, o.bev, .int .i64 o.out.code, .int .i64 o.out.pos, .int .i64 o.out.first, .int .i64 o.out.ver, .string o.stream, .int .i64 o.from_, .int .i64 o.version, o.evv] 36)
  obtain ⟨ev, evs, hop⟩ : ∃ ev evs, o.evv = ev ∧ o.evs = evs := ⟨_, _, rfl, rfl⟩
  obtain ⟨B, hB⟩ : ∃ B, seenB s o = B := ⟨_, rfl⟩
  rw [hB]
  have HB := Lib.hid hB
  have HOP := Lib.hid hop
  rw [hop.1] at hB0 hg0 hev ⊢
  rw [hop.2] at hev
  obtain ⟨A, c, rfl, hA1, hA2⟩ := hev.shape
  unfold maxLen at hA2
  have HEV := Lib.hid hev
  have H := Lib.hid h
  clear hB h hop hev
  go_enter Tryz.func55, Tryz.ntmps55
  go_upto_region 1 with (fail)
  generalize w.alloc (.cells #[.int .i64 o.kind, .int .i64 o.id, .int .i64 o.start, .int .i64 o.end_, .string o.bs, .int .i64 o.bx, .int .i64 o.ses, .int .i64 o.seq, o.bev, .int .i64 o.out.code, .int .i64 o.out.pos, .int .i64 o.out.first, .int .i64 o.out.ver, .string o.stream, .int .i64 o.from_, .int .i64 o.version, .slice A evs.length c] 36) = w0 at hB0 hg0 ⊢
  obtain ⟨g, hg⟩ : ∃ g, w.heap.size = g := ⟨_, rfl⟩
  rw [hg] at hg0 ⊢
  have x13 : w0.cell? ⟨g, 13, none⟩ = some (.string o.stream) := cell_of_row w0 g 13 _ _ _ hg0
  have x14 : w0.cell? ⟨g, 14, none⟩ = some (.int .i64 o.from_) := cell_of_row w0 g 14 _ _ _ hg0
  have x15 : w0.cell? ⟨g, 15, none⟩ = some (.int .i64 o.version) := cell_of_row w0 g 15 _ _ _ hg0
  have x16 : w0.cell? ⟨g, 16, none⟩ = some (.slice A evs.length c) := cell_of_row w0 g 16 _ _ _ hg0
  have hwd : Below w0.heap.size w0 w0.drew := ⟨rfl, rfl, rfl, Nat.le_refl _, fun _ _ => rfl⟩
  have hv := sversion_any w0.drew p s F W ((H.out.fresh hB0).fresh hwd) o.stream hst
  have hr := sread_any w0.drew p s F W ((H.out.fresh hB0).fresh hwd) o.stream hst o.from_ hL
  have hvq := fun n => sversion_any (w0.drewN n) p s F W ((H.out.fresh hB0).fresh (show Below w0.heap.size w0 (w0.drewN n) from ⟨rfl, rfl, rfl, Nat.le_refl _, fun _ _ => rfl⟩)) o.stream hst
  obtain ⟨vn, hvn⟩ : ∃ vn : Nat, (Idx.ofS s.L o.stream).length = vn := ⟨_, rfl⟩
  obtain ⟨re, hre⟩ : ∃ re, readS s o.stream o.from_ = re := ⟨_, rfl⟩
  rw [hvn] at hv
  rw [hvn] at hvq
  have HVQ := Lib.hid hvq
  clear hvq
  have HB00 := Lib.hid hB0
  have HB0 := Lib.hid (hB0.trans (hwd.mono hB0.size))
  have HV := Lib.hid hv
  have HR := Lib.hid hr
  have HVN := Lib.hid hvn
  have HRE := Lib.hid hre
  have HEV0 := Lib.hid ((HEV.out.fresh hB0).fresh hwd)
  have hlt := World.block_lt_of_cell? _ _ x16
  have HLT := Lib.hid hlt
  clear hv hr hvn hre hB0 hg0 hg hwd hlt
  by_cases h1 : (vn : Int) = o.version
  · have d1 : ((vn : Int) == o.version) = true := by simpa using h1
    have HB1 : Hid (B = decide (re = evs)) := Lib.hid (by
      rw [← HB.out]
      unfold seenB verS
      rw [HVN.out, HRE.out, HOP.out.2, decide_eq_true h1, Bool.true_and])
    clear h1
    go_region_held3 (fun x => x.cell? ⟨g, 13, none⟩ = some (.string o.stream) ∧ x.cell? ⟨g, 14, none⟩ = some (.int .i64 o.from_) ∧ x.cell? ⟨g, 15, none⟩ = some (.int .i64 o.version) ∧ x.cell? ⟨g, 16, none⟩ = some (.slice A evs.length c))
      (first | exact ⟨by assumption, by assumption, by assumption, by assumption⟩ | go_keep)
      (first
        | (go_at_call 69
           refine HV.out.mono ?_
           rintro e w1 ⟨rfl, hz⟩
           subst hz)
        | (go_at_call 70
           refine HR.out.mono ?_
           rintro e w1 ⟨v, rfl, hB1, hS1⟩
           have HEV1 := Lib.hid (HEV0.out.fresh hB1)
           have hS1 : Sl w1 _ 2 evc v (readS s o.stream o.from_) := hS1
           rw [HRE.out] at hS1
           have HS1 := Lib.hid hS1
           have HBB := Lib.hid (HB0.out.trans (hB1.mono HB0.out.size))
           have x13 := (hB1.cell (p := ⟨g, 13, none⟩) (World.block_lt_of_cell? _ _ x13)).trans x13
           have x14 := (hB1.cell (p := ⟨g, 14, none⟩) (World.block_lt_of_cell? _ _ x14)).trans x14
           have x15 := (hB1.cell (p := ⟨g, 15, none⟩) (World.block_lt_of_cell? _ _ x15)).trans x15
           have x16 := (hB1.cell (p := ⟨g, 16, none⟩) (World.block_lt_of_cell? _ _ x16)).trans x16
           clear hB1 hS1)
        | (go_at_call 58
           refine (eqEvs_any _ _ _ _ _ re evs HS1.out HEV1.out).mono ?_
           rintro e w2 ⟨rfl, hB2⟩
           have HBB := Lib.hid (HBB.out.trans (hB2.mono HBB.out.size))
           have x13 := (hB2.cell (p := ⟨g, 13, none⟩) (World.block_lt_of_cell? _ _ x13)).trans x13
           have x14 := (hB2.cell (p := ⟨g, 14, none⟩) (World.block_lt_of_cell? _ _ x14)).trans x14
           have x15 := (hB2.cell (p := ⟨g, 15, none⟩) (World.block_lt_of_cell? _ _ x15)).trans x15
           have x16 := (hB2.cell (p := ⟨g, 16, none⟩) (World.block_lt_of_cell? _ _ x16)).trans x16
           clear hB2))
    go_wp2_with fail
    go_ret
    exact ⟨by rw [HB1.out]; rfl, HBB.out⟩
  · have d1 : ((vn : Int) == o.version) = false := by simpa using h1
    have HB1 : Hid (B = false) := Lib.hid (by
      rw [← HB.out]
      unfold seenB verS
      rw [HVN.out, decide_eq_false h1, Bool.false_and])
    clear h1
    go_quiet (first
      | (go_at_call 69
         exact (HVQ.out _).mono fun _ _ h => ⟨h.1, _, h.2.symm⟩))
    go_wp2_with fail
    go_ret
    exact ⟨by rw [HB1.out]; rfl, HB00.out.trans ((show Below w0.heap.size w0 (w0.drewN _) from ⟨rfl, rfl, rfl, Nat.le_refl _, fun _ _ => rfl⟩).mono HB00.out.size)⟩
end Go.Proofs.YthdcnknjjbdefaaGreatDoor.His

/- The statements' examples: shown. Under the tables that utf8 lays. -/
namespace Go.Proofs.YthdcnknjjbdefaaGreatDoor
open Go.RowKit Go.Bl
attribute [local go_sem ↓] Go.wp_at_zero Go.wp_at_succ

/-- Are two outcomes unlike (alike)? Under names that the walk does not open. -/
def ocNe (a b : Ded.Oc) : Bool := decide (¬ a.code = b.code) || decide (¬ a.pos = b.pos) || decide (¬ a.first = b.first) || decide (¬ a.ver = b.ver)
def ocEq (a b : Ded.Oc) : Bool := !ocNe a b
theorem ocNe_iff {a b : Ded.Oc} : ocNe a b = true ↔ a ≠ b := by
  obtain ⟨a1, a2, a3, a4⟩ := a
  obtain ⟨b1, b2, b3, b4⟩ := b
  simp only [ocNe, Bool.or_eq_true, decide_eq_true_eq, ne_eq, Ded.Oc.mk.injEq]
  constructor
  · rintro h ⟨h1, h2, h3, h4⟩
    omega
  · intro h
    by_cases h1 : a1 = b1 <;> by_cases h2 : a2 = b2 <;> by_cases h3 : a3 = b3 <;> by_cases h4 : a4 = b4 <;> simp_all
theorem ocNe_self (a : Ded.Oc) : ocNe a a = false := by
  cases h : ocNe a a
  · rfl
  · exact absurd rfl (ocNe_iff.1 h)
theorem neqOc (a b c d a' b' c' d' : Int) (w : World) : (binOp .neq 34 (.agg #[.int .i64 a, .int .i64 b, .int .i64 c, .int .i64 d]) (.agg #[.int .i64 a', .int .i64 b', .int .i64 c', .int .i64 d'])).run Tryz.prog w = .ok (.bool (ocNe ⟨a, b, c, d⟩ ⟨a', b', c', d'⟩)) w := by
  have u3 := Tryz.underlying3
  have a3 := Tryz.isAgg3
  have z3 := Tryz.sizeOf3
  have hS : Tryz.prog.underlying 34 = some (.struct (Tryz.prog.fieldsOf 34)) := by kernel_rfl
  have hp : Tryz.prog.stoodInHeld 34 = false := by kernel_rfl
  rw [run_neq_struct, show (10000 : Nat) = 9999 + 1 from rfl, run_equalIn_agg w 9999 34 _ _ hS hp]
  simp only [Program.fieldsOf, Tryz.underlying34]
  go_simp
  by_cases h1 : a = a' <;> by_cases h2 : b = b' <;> by_cases h3 : c = c' <;> by_cases h4 : d = d' <;> simp [ocNe, h1, h2, h3, h4]
theorem eqlOc (a b c d a' b' c' d' : Int) (w : World) : (binOp .eql 34 (.agg #[.int .i64 a, .int .i64 b, .int .i64 c, .int .i64 d]) (.agg #[.int .i64 a', .int .i64 b', .int .i64 c', .int .i64 d'])).run Tryz.prog w = .ok (.bool (ocEq ⟨a, b, c, d⟩ ⟨a', b', c', d'⟩)) w := by
  have u3 := Tryz.underlying3
  have a3 := Tryz.isAgg3
  have z3 := Tryz.sizeOf3
  have hS : Tryz.prog.underlying 34 = some (.struct (Tryz.prog.fieldsOf 34)) := by kernel_rfl
  have hp : Tryz.prog.stoodInHeld 34 = false := by kernel_rfl
  rw [run_eql_struct, show (10000 : Nat) = 9999 + 1 from rfl, run_equalIn_agg w 9999 34 _ _ hS hp]
  simp only [Program.fieldsOf, Tryz.underlying34]
  go_simp
  by_cases h1 : a = a' <;> by_cases h2 : b = b' <;> by_cases h3 : c = c' <;> by_cases h4 : d = d' <;> simp [ocEq, ocNe, h1, h2, h3, h4]

end Go.Proofs.YthdcnknjjbdefaaGreatDoor

namespace Go.Proofs.YthdcnknjjbdefaaGreatDoor.His
open Go.RowKit Go.Bl
attribute [local go_sem ↓] Go.wp_at_zero Go.wp_at_succ

theorem findK_at (p : Nat → Bool) {N k : Nat} (h : k < N) : findK p (N - k) k = if p k = true then (k : Int) else findK p (N - (k + 1)) (k + 1) := by
  obtain ⟨f, hf⟩ : ∃ f, N - k = f + 1 := ⟨N - k - 1, by omega⟩
  rw [hf, show N - (k + 1) = f by omega]
  rfl
def ptrc (q : Nat) : List Value := [.pointer (some ⟨q, 0, none⟩)]
/-- A log that was played: its states, its outcomes. -/
def PlAt (w : World) (p : Nat) (log : List Ent) : Prop := ∃ (vl vs vo : Value) (ps : List Nat), w.heap[p]? = some (.cells #[vl, vs, vo] 109 (0, 0)) ∧ Sl w (fun _ => True) 7 entc vl log ∧ Sl w (fun _ => True) 1 ptrc vs ps ∧ ps.length = log.length + 1 ∧
  Sl w (fun _ => True) 4 Ded.occ vo ((List.range log.length).map (outK log)) ∧ ∀ k q, ps[k]? = some q → ∃ F W, StAt w q (stK log k) F W
theorem PlAt.fresh {w w' : World} {p : Nat} {log : List Ent} (h : PlAt w p log) (hB : Below w.heap.size w w') : PlAt w' p log := by
  obtain ⟨vl, vs, vo, ps, h1, h2, h3, h4, h5, h6⟩ := h
  exact ⟨vl, vs, vo, ps, (hB.block p (Array.getElem?_eq_some_iff.1 h1).1).trans h1, h2.fresh hB, h3.fresh hB, h4, h5.fresh hB, fun k q e => by
    obtain ⟨F, W, h⟩ := h6 k q e
    exact ⟨F, W, h.fresh hB⟩⟩
set_option maxHeartbeats 4000000 in
theorem place_read (w : World) (p : Nat) (log : List Ent) (h : PlAt w p log) (hok : LogOk log) (hl : log.length ≤ 1000) (o : Hop) (hk : o.kind ≠ 1) (G : Nat → Prop) (hev : Sl w G 2 evc o.evv o.evs) (hst : o.stream.size ≤ maxLen) (m : Int) (hm : 0 ≤ m ∧ m ≤ 2000) :
    Calls Tryz.prog 44 #[.pointer (some ⟨p, 0, none⟩), opv o, .int .i64 m] w fun e w' => e = .returned (.int .i64 (placeS log o m)) ∧ Below w.heap.size w w' := by
  have hp0 : placeS log o m = findK (fun k => seenB (stK log k) o) (log.length + 1 - m.toNat) m.toNat := by unfold placeS; rw [if_neg hk]
  rw [hp0]
  obtain ⟨m0, rfl⟩ : ∃ m0 : Nat, m = m0 := ⟨m.toNat, by omega⟩
  rw [Int.toNat_natCast]
  clear hp0
  have hov : opv o = .agg #[.int .i64 o.kind, .int .i64 o.id, .int .i64 o.start, .int .i64 o.end_, .string o.bs, .int .i64 o.bx, .int .i64 o.ses, .int .i64 o.seq, o.bev, .int .i64 o.out.code, .int .i64 o.out.pos, .int .i64 o.out.first, .int .i64 o.out.ver, .string o.stream, .int .i64 o.from_, .int .i64 o.version, o.evv] := rfl
  have HSEEN := Lib.hid (fun (wz : World) (q : Nat) (s : St) (F W : Nat → Prop) (h : StAt wz q s F W) (hL : s.L.length ≤ 1073741824) (hB : Below w.heap.size w wz) => hov ▸ seen_any wz q s F W h hL o G (hev.fresh hB) hst)
  rw [hov]
  have hB0 : Below w.heap.size w (w.alloc (.cells #[.int .i64 o.kind, .int .i64 o.id, .int .i64 o.start, .int .i64 o.end_, .string o.bs, .int .i64 o.bx, .int .i64 o.ses, .int .i64 o.seq, o.bev, .int .i64 o.out.code, .int .i64 o.out.pos, .int .i64 o.out.first, .int .i64 o.out.ver, .string o.stream, .int .i64 o.from_, .int .i64 o.version, o.evv] 36)) := (Below.refl _ w).alloc (Nat.le_refl _) _
  have hg0 := heap_alloc_new w (.cells #[.int .i64 o.kind, .int .i64 o.id, .int .i64 o.start, .int .i64 o.end_, .string o.bs, .int .i64 o.bx, .int .i64 o.ses, .int .i64 o.seq, o.bev, .int .i64 o.out.code, .int .i64 o.out.pos, .int .i64 o.out.first, .int .i64 o.out.ver, .string o.stream, .int .i64 o.from_, .int .i64 o.version, o.evv] 36)
  obtain ⟨R, hR⟩ : ∃ R, findK (fun k => seenB (stK log k) o) (log.length + 1 - m0) m0 = R := ⟨_, rfl⟩
  rw [hR]
  have HRR := Lib.hid hR
  have H := Lib.hid h
  have HOK := Lib.hid hok
  have d0 : (o.kind == 1) = false := by simpa using hk
  clear h hok hev hov hR hk
  go_enter Tryz.func44, Tryz.ntmps44
  go_upto_region 1 with (fail)
  generalize w.alloc (.cells #[.int .i64 o.kind, .int .i64 o.id, .int .i64 o.start, .int .i64 o.end_, .string o.bs, .int .i64 o.bx, .int .i64 o.ses, .int .i64 o.seq, o.bev, .int .i64 o.out.code, .int .i64 o.out.pos, .int .i64 o.out.first, .int .i64 o.out.ver, .string o.stream, .int .i64 o.from_, .int .i64 o.version, o.evv] 36) = w0 at hB0 hg0 ⊢
  obtain ⟨g, hg⟩ : ∃ g, w.heap.size = g := ⟨_, rfl⟩
  rw [hg] at hg0 ⊢
  have HG0 := Lib.hid hg0
  have x0 : w0.cell? ⟨g, 0, none⟩ = some (.int .i64 o.kind) := cell_of_row w0 g 0 _ _ _ hg0
  have HP := Lib.hid (H.out.fresh hB0)
  have HB0 := Lib.hid hB0
  clear hg0 hg hB0
  go_wp2_with fail
  go_loopw [8] (fun i wr => ∃ k : Nat, m0 ≤ k ∧ (k ≤ log.length + 1 ∨ k = m0) ∧ i = .int .i64 k ∧ Below w0.heap.size w0 wr ∧ findK (fun k => seenB (stK log k) o) (log.length + 1 - k) k = R) (fun i _ => log.length + 1 - (RowKit.intOf i).toNat)
  case atStart => exact ⟨m0, Nat.le_refl _, .inr rfl, rfl, Below.refl _ _, HRR.out⟩
  case round =>
    obtain ⟨k, hk1, hk2, rfl, hBr, hfk⟩ := hrel
    have HBR := Lib.hid hBr
    have HFK := Lib.hid hfk
    obtain ⟨vl, vs, vo, ps, q1, q2, q3, q4, q5, q6⟩ := HP.out.fresh hBr
    obtain ⟨A, c, rfl, hA1, hA2⟩ := q3.shape
    unfold maxLen at hA2
    have p1 : wr.cell? ⟨p, 1, none⟩ = some (.slice A ps.length c) := cell_of_row wr p 1 _ _ _ q1
    clear hBr hfk q1 q2 q5
    by_cases hlt : k < ps.length
    · obtain ⟨F, W, hst⟩ := q6 k ps[k] (List.getElem?_eq_getElem hlt)
      obtain ⟨b, ob, rfl, _, _, hxx⟩ := q3.cell_ hlt
      have y0 := hxx 0 _ rfl
      simp only [Nat.mul_one, Nat.add_zero] at y0
      have hgr := (Keeps.of_fresh HBR.out (fun _ => False)).grownTo HG0.out id
      have z0 : wr.cell? ⟨g, 0, none⟩ = some (.int .i64 o.kind) := cell_of_row wr g 0 _ _ _ hgr
      have z1 : wr.cell? ⟨g, 1, none⟩ = some (.int .i64 o.id) := cell_of_row wr g 1 _ _ _ hgr
      have z2 : wr.cell? ⟨g, 2, none⟩ = some (.int .i64 o.start) := cell_of_row wr g 2 _ _ _ hgr
      have z3 : wr.cell? ⟨g, 3, none⟩ = some (.int .i64 o.end_) := cell_of_row wr g 3 _ _ _ hgr
      have z4 : wr.cell? ⟨g, 4, none⟩ = some (.string o.bs) := cell_of_row wr g 4 _ _ _ hgr
      have z5 : wr.cell? ⟨g, 5, none⟩ = some (.int .i64 o.bx) := cell_of_row wr g 5 _ _ _ hgr
      have z6 : wr.cell? ⟨g, 6, none⟩ = some (.int .i64 o.ses) := cell_of_row wr g 6 _ _ _ hgr
      have z7 : wr.cell? ⟨g, 7, none⟩ = some (.int .i64 o.seq) := cell_of_row wr g 7 _ _ _ hgr
      have z8 : wr.cell? ⟨g, 8, none⟩ = some (o.bev) := cell_of_row wr g 8 _ _ _ hgr
      have z9 : wr.cell? ⟨g, 9, none⟩ = some (.int .i64 o.out.code) := cell_of_row wr g 9 _ _ _ hgr
      have z10 : wr.cell? ⟨g, 10, none⟩ = some (.int .i64 o.out.pos) := cell_of_row wr g 10 _ _ _ hgr
      have z11 : wr.cell? ⟨g, 11, none⟩ = some (.int .i64 o.out.first) := cell_of_row wr g 11 _ _ _ hgr
      have z12 : wr.cell? ⟨g, 12, none⟩ = some (.int .i64 o.out.ver) := cell_of_row wr g 12 _ _ _ hgr
      have z13 : wr.cell? ⟨g, 13, none⟩ = some (.string o.stream) := cell_of_row wr g 13 _ _ _ hgr
      have z14 : wr.cell? ⟨g, 14, none⟩ = some (.int .i64 o.from_) := cell_of_row wr g 14 _ _ _ hgr
      have z15 : wr.cell? ⟨g, 15, none⟩ = some (.int .i64 o.version) := cell_of_row wr g 15 _ _ _ hgr
      have z16 : wr.cell? ⟨g, 16, none⟩ = some (o.evv) := cell_of_row wr g 16 _ _ _ hgr
      have hwd : Below wr.heap.size wr wr.drew := ⟨rfl, rfl, rfl, Nat.le_refl _, fun _ _ => rfl⟩
      have HS := Lib.hid (HSEEN.out wr.drew ps[k] (stK log k) F W (hst.fresh hwd) (by have := (HOK.out.len k (by omega)).1; omega) (HB0.out.trans ((HBR.out.trans (hwd.mono HBR.out.size)).mono HB0.out.size)))
      have hI0 : (0 : Int) ≤ (k : Int) := by omega
      have hI1 : (k : Int) < (ps.length : Int) := by omega
      obtain ⟨B, hB⟩ : ∃ B, seenB (stK log k) o = B := ⟨_, rfl⟩
      rw [hB] at HS
      have HB := Lib.hid hB
      clear hxx hst hwd hB hgr
      go_wp2_with fail
      go_region_held3 (fun x => x.cell? ⟨p, 1, none⟩ = some (.slice (some ⟨b, ob, none⟩) ps.length c) ∧ x.cell? ⟨b, ob + k, none⟩ = some (.pointer (some ⟨ps[k], 0, none⟩)) ∧ x.cell? ⟨g, 0, none⟩ = some (.int .i64 o.kind) ∧ x.cell? ⟨g, 1, none⟩ = some (.int .i64 o.id) ∧ x.cell? ⟨g, 2, none⟩ = some (.int .i64 o.start) ∧ x.cell? ⟨g, 3, none⟩ = some (.int .i64 o.end_) ∧ x.cell? ⟨g, 4, none⟩ = some (.string o.bs) ∧ x.cell? ⟨g, 5, none⟩ = some (.int .i64 o.bx) ∧ x.cell? ⟨g, 6, none⟩ = some (.int .i64 o.ses) ∧ x.cell? ⟨g, 7, none⟩ = some (.int .i64 o.seq) ∧ x.cell? ⟨g, 8, none⟩ = some (o.bev) ∧ x.cell? ⟨g, 9, none⟩ = some (.int .i64 o.out.code) ∧ x.cell? ⟨g, 10, none⟩ = some (.int .i64 o.out.pos) ∧ x.cell? ⟨g, 11, none⟩ = some (.int .i64 o.out.first) ∧ x.cell? ⟨g, 12, none⟩ = some (.int .i64 o.out.ver) ∧ x.cell? ⟨g, 13, none⟩ = some (.string o.stream) ∧ x.cell? ⟨g, 14, none⟩ = some (.int .i64 o.from_) ∧ x.cell? ⟨g, 15, none⟩ = some (.int .i64 o.version) ∧ x.cell? ⟨g, 16, none⟩ = some (o.evv))
        (first | exact ⟨by assumption, by assumption, by assumption, by assumption, by assumption, by assumption, by assumption, by assumption, by assumption, by assumption, by assumption, by assumption, by assumption, by assumption, by assumption, by assumption, by assumption, by assumption, by assumption⟩ | go_keep)
        (first
          | (go_at_call 55
             refine HS.out.mono ?_
             rintro e w1 ⟨rfl, hB1⟩
             have p1 := (hB1.cell (p := ⟨p, 1, none⟩) (World.block_lt_of_cell? _ _ p1)).trans p1
             have y0 := (hB1.cell (p := ⟨b, ob + k, none⟩) (World.block_lt_of_cell? _ _ y0)).trans y0
             have z0 := (hB1.cell (p := ⟨g, 0, none⟩) (World.block_lt_of_cell? _ _ z0)).trans z0
             have z1 := (hB1.cell (p := ⟨g, 1, none⟩) (World.block_lt_of_cell? _ _ z1)).trans z1
             have z2 := (hB1.cell (p := ⟨g, 2, none⟩) (World.block_lt_of_cell? _ _ z2)).trans z2
             have z3 := (hB1.cell (p := ⟨g, 3, none⟩) (World.block_lt_of_cell? _ _ z3)).trans z3
             have z4 := (hB1.cell (p := ⟨g, 4, none⟩) (World.block_lt_of_cell? _ _ z4)).trans z4
             have z5 := (hB1.cell (p := ⟨g, 5, none⟩) (World.block_lt_of_cell? _ _ z5)).trans z5
             have z6 := (hB1.cell (p := ⟨g, 6, none⟩) (World.block_lt_of_cell? _ _ z6)).trans z6
             have z7 := (hB1.cell (p := ⟨g, 7, none⟩) (World.block_lt_of_cell? _ _ z7)).trans z7
             have z8 := (hB1.cell (p := ⟨g, 8, none⟩) (World.block_lt_of_cell? _ _ z8)).trans z8
             have z9 := (hB1.cell (p := ⟨g, 9, none⟩) (World.block_lt_of_cell? _ _ z9)).trans z9
             have z10 := (hB1.cell (p := ⟨g, 10, none⟩) (World.block_lt_of_cell? _ _ z10)).trans z10
             have z11 := (hB1.cell (p := ⟨g, 11, none⟩) (World.block_lt_of_cell? _ _ z11)).trans z11
             have z12 := (hB1.cell (p := ⟨g, 12, none⟩) (World.block_lt_of_cell? _ _ z12)).trans z12
             have z13 := (hB1.cell (p := ⟨g, 13, none⟩) (World.block_lt_of_cell? _ _ z13)).trans z13
             have z14 := (hB1.cell (p := ⟨g, 14, none⟩) (World.block_lt_of_cell? _ _ z14)).trans z14
             have z15 := (hB1.cell (p := ⟨g, 15, none⟩) (World.block_lt_of_cell? _ _ z15)).trans z15
             have z16 := (hB1.cell (p := ⟨g, 16, none⟩) (World.block_lt_of_cell? _ _ z16)).trans z16
             have HB1 := Lib.hid hB1
             clear hB1))
      have HBE := Lib.hid (HB0.out.trans ((HBR.out.trans ((show Below wr.heap.size wr wr.drew from ⟨rfl, rfl, rfl, Nat.le_refl _, fun _ _ => rfl⟩).mono HBR.out.size)).mono HB0.out.size))
      have HBF := Lib.hid (HBE.out.trans (HB1.out.mono HBE.out.size))
      have HBG := Lib.hid ((HBR.out.trans ((show Below wr.heap.size wr wr.drew from ⟨rfl, rfl, rfl, Nat.le_refl _, fun _ _ => rfl⟩).mono HBR.out.size)).trans (HB1.out.mono (show w0.heap.size ≤ wr.drew.heap.size from HBR.out.size)))
      have HF := Lib.hid ((findK_at (fun k => seenB (stK log k) o) (show k < log.length + 1 by omega)).symm.trans HFK.out)
      clear p1 y0 z0 z1 z2 z3 z4 z5 z6 z7 z8 z9 z10 z11 z12 z13 z14 z15 z16
      cases B
      · have HF2 : Hid (findK (fun k => seenB (stK log k) o) (log.length + 1 - (k + 1)) (k + 1) = R) := Lib.hid (by
          have := HF.out
          rw [HB.out, if_neg (by decide)] at this
          exact this)
        go_wp2_with fail
        go_roundw
        case rel => exact ⟨k + 1, by omega, .inl (by omega), by go_num, HBG.out, HF2.out⟩
        case measure => simp [RowKit.intOf]; omega
      · have HF2 : Hid ((k : Int) = R) := Lib.hid (by
          have := HF.out
          rw [HB.out, if_pos rfl] at this
          exact this)
        go_wp2_with fail
        go_ret
        exact ⟨by rw [← HF2.out]; rfl, HBF.out⟩
    · have HF2 : Hid ((-1 : Int) = R) := Lib.hid (by
        have := HFK.out
        rw [show log.length + 1 - k = 0 by omega] at this
        exact this)
      go_wp2_with fail
      go_ret
      exact ⟨by rw [← HF2.out]; rfl, HB0.out.trans (HBR.out.mono HB0.out.size)⟩
end Go.Proofs.YthdcnknjjbdefaaGreatDoor.His
