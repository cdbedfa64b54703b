/- Views: with one node more. Under the stated premises on sizes. -/
import Derived.Test.YtoegdpcfhmjnaaaGreatDoorVwD
import Derived.Test.YtoegdpcfhmjnaaaGreatDoorMstK
import Derived.Test.YtoegdpcfhmjnaaaGreatDoorVwG
namespace Go.Proofs.YtoegdpcfhmjnaaaGreatDoor
open Go.RowKit Go.Bl
attribute [local go_sem ↓] Go.wp_at_zero Go.wp_at_succ

def zeroVw : Value := .agg #[.int .i64 0, .slice none 0 0, .slice none 0 0, .slice none 0 0]
set_option maxRecDepth 20000 in
set_option maxHeartbeats 4000000 in
theorem with_no (w : World) (F : Nat → Prop) (ep : Int) (L : List Nd) (a b c : Value) (h : VwSl w F L a b c) (hr : RightV ⟨ep, L⟩) (node boot : Int) (g1 : 1 ≤ node) (g2 : node ≤ 100) (g3 : 0 ≤ boot) (g4 : boot ≤ 274877906944)
    (hx : node ∈ L.map Nd.node ∨ L.length = 6 ∨ ep = 274877906944) :
    Calls Tryz.prog 48 #[.agg #[.int .i64 ep, a, b, c], .int .i64 node, .int .i64 boot] w fun e w' => ∃ er : Int, er ≠ 0 ∧ e = .returned (.tuple #[zeroVw, .int .i64 er]) ∧ Below w.heap.size w w' := by
  have hL := hr.n1
  have hL6 := hr.n2
  change 1 ≤ L.length at hL
  change L.length ≤ 6 at hL6
  obtain ⟨qa, oa, ca, qb, ob, cb, qc, oc, cc, rfl, rfl, rfl, hca, hcm, hcb, hcc⟩ := h.some_ hL
  have d1 : decide (node < 1) = false := decide_eq_false (by omega)
  have d2 : decide (100 < node) = false := decide_eq_false (by omega)
  have d3 : decide (boot < 0) = false := decide_eq_false (by omega)
  have d4 : decide (274877906944 < boot) = false := decide_eq_false (by omega)
  have hB0 : Below w.heap.size w ((w.alloc (.cells #[.int .i64 ep, .slice (some ⟨qa, oa, none⟩) L.length ca, .slice (some ⟨qb, ob, none⟩) L.length cb, .slice (some ⟨qc, oc, none⟩) L.length cc] 45)).alloc (.cells #[.int .i64 0, .slice none 0 0, .slice none 0 0, .slice none 0 0] 45)) := ((Below.refl _ w).alloc (Nat.le_refl _) _).alloc (by simp) _
  have hb1 : ((w.alloc (.cells #[.int .i64 ep, .slice (some ⟨qa, oa, none⟩) L.length ca, .slice (some ⟨qb, ob, none⟩) L.length cb, .slice (some ⟨qc, oc, none⟩) L.length cc] 45)).alloc (.cells #[.int .i64 0, .slice none 0 0, .slice none 0 0, .slice none 0 0] 45)).heap[w.heap.size]? = some (.cells #[.int .i64 ep, .slice (some ⟨qa, oa, none⟩) L.length ca, .slice (some ⟨qb, ob, none⟩) L.length cb, .slice (some ⟨qc, oc, none⟩) L.length cc] 45 (0, 0)) := (Below.heap_alloc _ _ _ (by simp)).trans (heap_alloc_new w _)
  have hb2 : ((w.alloc (.cells #[.int .i64 ep, .slice (some ⟨qa, oa, none⟩) L.length ca, .slice (some ⟨qb, ob, none⟩) L.length cb, .slice (some ⟨qc, oc, none⟩) L.length cc] 45)).alloc (.cells #[.int .i64 0, .slice none 0 0, .slice none 0 0, .slice none 0 0] 45)).heap[w.heap.size + 1]? = some (.cells #[.int .i64 0, .slice none 0 0, .slice none 0 0, .slice none 0 0] 45 (0, 0)) := by
    have := heap_alloc_new (w.alloc (.cells #[.int .i64 ep, .slice (some ⟨qa, oa, none⟩) L.length ca, .slice (some ⟨qb, ob, none⟩) L.length cb, .slice (some ⟨qc, oc, none⟩) L.length cc] 45)) (.cells #[.int .i64 0, .slice none 0 0, .slice none 0 0, .slice none 0 0] 45)
    rw [World.size_alloc] at this
    exact this
  have H := Lib.hid h
  clear h
  have HR := Lib.hid hr
  have HX := Lib.hid hx
  clear hr hx
  go_enter Tryz.func48, Tryz.ntmps48
  go_upto_region 1 with (fail)
  generalize (w.alloc (.cells #[.int .i64 ep, .slice (some ⟨qa, oa, none⟩) L.length ca, .slice (some ⟨qb, ob, none⟩) L.length cb, .slice (some ⟨qc, oc, none⟩) L.length cc] 45)).alloc (.cells #[.int .i64 0, .slice none 0 0, .slice none 0 0, .slice none 0 0] 45) = w0 at hB0 hb1 hb2 ⊢
  obtain ⟨q, hq⟩ : ∃ q, w.heap.size = q := ⟨_, rfl⟩
  have HQ := Lib.hid hq
  rw [hq] at hb1 hb2 ⊢
  obtain ⟨r, hr⟩ : ∃ r, q + 1 = r := ⟨_, rfl⟩
  rw [hr] at hb2 ⊢
  have hqr : q < r := by omega
  have HB0 := Lib.hid hB0
  have HV0 := Lib.hid (H.out.fresh HB0.out)
  have HK1 := Lib.hid hb1
  have HK2 := Lib.hid hb2
  clear hq hr hb1 hb2 hB0 H
  have c0 : w0.cell? ⟨q, 0, none⟩ = some (.int .i64 ep) := cell_of_row w0 q 0 _ _ _ HK1.out
  have c1 : w0.cell? ⟨q, 1, none⟩ = some (.slice (some ⟨qa, oa, none⟩) L.length ca) := cell_of_row w0 q 1 _ _ _ HK1.out
  have c2 : w0.cell? ⟨q, 2, none⟩ = some (.slice (some ⟨qb, ob, none⟩) L.length cb) := cell_of_row w0 q 2 _ _ _ HK1.out
  have c3 : w0.cell? ⟨q, 3, none⟩ = some (.slice (some ⟨qc, oc, none⟩) L.length cc) := cell_of_row w0 q 3 _ _ _ HK1.out
  go_wp2_with fail
  refine (right_any w0 F ep L _ _ _ HV0.out).mono ?_
  rintro e wa ⟨rfl, hBa⟩
  rw [rightV_iff.2 HR.out]
  have hq0 : q < w0.heap.size := (Array.getElem?_eq_some_iff.1 HK1.out).1
  have hr0 : r < w0.heap.size := (Array.getElem?_eq_some_iff.1 HK2.out).1
  have c0 := (hBa.cell (p := ⟨q, 0, none⟩) hq0).trans c0
  have c1 := (hBa.cell (p := ⟨q, 1, none⟩) hq0).trans c1
  have c2 := (hBa.cell (p := ⟨q, 2, none⟩) hq0).trans c2
  have c3 := (hBa.cell (p := ⟨q, 3, none⟩) hq0).trans c3
  have HBa := Lib.hid hBa
  clear hBa
  go_wp2_with fail
  refine (place_any wa F ep L _ _ _ (HV0.out.fresh HBa.out) HR.out node).mono ?_
  rintro e w1 ⟨rfl, hB1⟩
  have hix := (idxI_bd node 0 (L.map Nd.node) (Int.le_refl _)).2.2
  obtain ⟨ix, hixe⟩ : ∃ ix, ix = idxI node 0 (L.map Nd.node) := ⟨_, rfl⟩
  rw [← hixe] at hix ⊢
  have hBa1 : Below w0.heap.size w0 w1 := HBa.out.trans (hB1.mono HBa.out.size)
  have HL1 := Lib.hid ((hBa1.block q hq0).trans HK1.out)
  have HL2 := Lib.hid ((hBa1.block r hr0).trans HK2.out)
  have HB1 := Lib.hid (HB0.out.trans (hBa1.mono HB0.out.size))
  have HV := Lib.hid (HV0.out.fresh hBa1)
  clear hB1 hBa1 c0 c1 c2 c3 hixe
  have hq1 : q < w1.heap.size := (Array.getElem?_eq_some_iff.1 HL1.out).1
  have hr1 : r < w1.heap.size := (Array.getElem?_eq_some_iff.1 HL2.out).1
  have c0 : w1.cell? ⟨q, 0, none⟩ = some (.int .i64 ep) := cell_of_row w1 q 0 _ _ _ HL1.out
  have c1 : w1.cell? ⟨q, 1, none⟩ = some (.slice (some ⟨qa, oa, none⟩) L.length ca) := cell_of_row w1 q 1 _ _ _ HL1.out
  have c2 : w1.cell? ⟨q, 2, none⟩ = some (.slice (some ⟨qb, ob, none⟩) L.length cb) := cell_of_row w1 q 2 _ _ _ HL1.out
  have c3 : w1.cell? ⟨q, 3, none⟩ = some (.slice (some ⟨qc, oc, none⟩) L.length cc) := cell_of_row w1 q 3 _ _ _ HL1.out
  have r0 : w1.cell? ⟨r, 0, none⟩ = some (.int .i64 0) := cell_of_row w1 r 0 _ _ _ HL2.out
  have r1 : w1.cell? ⟨r, 1, none⟩ = some (.slice none 0 0) := cell_of_row w1 r 1 _ _ _ HL2.out
  have r2 : w1.cell? ⟨r, 2, none⟩ = some (.slice none 0 0) := cell_of_row w1 r 2 _ _ _ HL2.out
  have r3 : w1.cell? ⟨r, 3, none⟩ = some (.slice none 0 0) := cell_of_row w1 r 3 _ _ _ HL2.out
  have g0 := frozen_block HL2.out 0
  have g1 := frozen_block HL2.out 1
  have g2 := frozen_block HL2.out 2
  have g3 := frozen_block HL2.out 3
  by_cases g5 : node ∈ L.map Nd.node
  · have d5 : decide ((0 : Int) ≤ ix) = true := decide_eq_true (hix.2 g5)
    clear hix g5 HX
    go_wp2_with fail
    have hb4 := four_block HL2.out (.int .i64 0) (.slice none 0 0) (.slice none 0 0) (.slice none 0 0)
    have hBe := Below.keep HB1.out (four_keeps w1 r (.int .i64 0) (.slice none 0 0) (.slice none 0 0) (.slice none 0 0)) HB1.out.size (fun k e => by have := HQ.out; have e2 : k = r := e; omega)
    generalize ((((w1.setCell ⟨r, 0, none⟩ (.int .i64 0)).setCell ⟨r, 1, none⟩ (.slice none 0 0)).setCell ⟨r, 2, none⟩ (.slice none 0 0)).setCell ⟨r, 3, none⟩ (.slice none 0 0)) = w5 at hb4 hBe ⊢
    have z0 := cell_of_row w5 r 0 _ _ _ hb4
    have z1 := cell_of_row w5 r 1 _ _ _ hb4
    have z2 := cell_of_row w5 r 2 _ _ _ hb4
    have z3 := cell_of_row w5 r 3 _ _ _ hb4
    refine bodyPost_ret (v := .tuple #[.agg #[.int .i64 0, .slice none 0 0, .slice none 0 0, .slice none 0 0], .int .i64 7]) (by simp [results, Tryz.results48, go_sem, z0, z1, z2, z3]) rfl ⟨7, by decide, rfl, hBe⟩
  have d5 : decide ((0 : Int) ≤ ix) = false := decide_eq_false (fun e => g5 (hix.1 e))
  clear hix
  by_cases g6 : L.length = 6
  · have d6 : ((L.length : Int) == 6) = true := by rw [beq_iff_eq]; omega
    clear g5 g6 HX
    go_wp2_with fail
    have hb4 := four_block HL2.out (.int .i64 0) (.slice none 0 0) (.slice none 0 0) (.slice none 0 0)
    have hBe := Below.keep HB1.out (four_keeps w1 r (.int .i64 0) (.slice none 0 0) (.slice none 0 0) (.slice none 0 0)) HB1.out.size (fun k e => by have := HQ.out; have e2 : k = r := e; omega)
    generalize ((((w1.setCell ⟨r, 0, none⟩ (.int .i64 0)).setCell ⟨r, 1, none⟩ (.slice none 0 0)).setCell ⟨r, 2, none⟩ (.slice none 0 0)).setCell ⟨r, 3, none⟩ (.slice none 0 0)) = w5 at hb4 hBe ⊢
    have z0 := cell_of_row w5 r 0 _ _ _ hb4
    have z1 := cell_of_row w5 r 1 _ _ _ hb4
    have z2 := cell_of_row w5 r 2 _ _ _ hb4
    have z3 := cell_of_row w5 r 3 _ _ _ hb4
    refine bodyPost_ret (v := .tuple #[.agg #[.int .i64 0, .slice none 0 0, .slice none 0 0, .slice none 0 0], .int .i64 4]) (by simp [results, Tryz.results48, go_sem, z0, z1, z2, z3]) rfl ⟨4, by decide, rfl, hBe⟩
  have d6 : ((L.length : Int) == 6) = false := by rw [beq_eq_false_iff_ne]; omega
  have g7 := (HX.out.resolve_left g5).resolve_left g6
  have d7 : (ep == 274877906944) = true := by rw [beq_iff_eq]; exact g7
  clear g5 g6 g7 HX
  go_wp2_with fail
  have hb4 := four_block HL2.out (.int .i64 0) (.slice none 0 0) (.slice none 0 0) (.slice none 0 0)
  have hBe := Below.keep HB1.out (four_keeps w1 r (.int .i64 0) (.slice none 0 0) (.slice none 0 0) (.slice none 0 0)) HB1.out.size (fun k e => by have := HQ.out; have e2 : k = r := e; omega)
  generalize ((((w1.setCell ⟨r, 0, none⟩ (.int .i64 0)).setCell ⟨r, 1, none⟩ (.slice none 0 0)).setCell ⟨r, 2, none⟩ (.slice none 0 0)).setCell ⟨r, 3, none⟩ (.slice none 0 0)) = w5 at hb4 hBe ⊢
  have z0 := cell_of_row w5 r 0 _ _ _ hb4
  have z1 := cell_of_row w5 r 1 _ _ _ hb4
  have z2 := cell_of_row w5 r 2 _ _ _ hb4
  have z3 := cell_of_row w5 r 3 _ _ _ hb4
  refine bodyPost_ret (v := .tuple #[.agg #[.int .i64 0, .slice none 0 0, .slice none 0 0, .slice none 0 0], .int .i64 4]) (by simp [results, Tryz.results48, go_sem, z0, z1, z2, z3]) rfl ⟨4, by decide, rfl, hBe⟩

/-- A call of a function of one argument, amid a region. -/
theorem wpOp_callx {P : Program} {l : List Oper} {i : Nat} {o : Oper} {b : Act} {u : World} {K : Act → World → Prop} {Q : Exit → Act → World → Prop} (f : FuncId) (s : Nat) (t : TypeId) (v : Value) (ho : l[i]? = some o) (hg : o.guard = none)
    (hop : o.op = .call { callee := .value (.func f), args := #[.tmp s], argTypes := #[t] }) (hb : b.eval (.tmp s) = v) (hcf : (callFunc f #[v]).run P u = .ok (.enter f #[v]) u) (hc : Calls P f #[v] u fun e w' => ∃ r, e = .returned r ∧ K (b.put ((l[i]?).bind (·.dst)) r) w') : wpOp P l.toArray Q i K b u := by
  rw [ho] at hc
  refine wpOp_of (o := o) (by simpa using ho) ?_
  rw [if_pos (by simp [Region.wanted, hg])]
  have hrun : (execOp b.eval o).run P u = .ok (.enter f #[v]) u := by
    have hb' : (b.tmps[s]?).getD undef = v := by rw [← Array.getD_eq_getD_getElem?]; exact hb
    clear hb hc
    unfold execOp
    rw [hop]
    go_simp
  unfold Oper.wp
  rw [hrun, Oper.upon_enter]
  refine hc.mono fun e w'' hh => ?_
  obtain ⟨r, rfl, hK⟩ := hh
  exact hK
/-- Amid With's last region: what is made already. -/
structure JW (w1 : World) (r : Nat) (ep : Int) (L1 L2 L3 : List Int) (n1 n3 : Int) (β : Nat → Bool) (X : Nat → Value) (u : World) : Prop where
  rows : Rows3 u w1.heap.size ⟨β 5, β 7, β 8, X 53, X 54, X 51, L1, n1⟩ ⟨β 11, β 15, β 16, X 61, X 62, X 57, L2, ep + 1⟩ ⟨β 19, β 21, β 22, X 67, X 68, X 65, L3, n3⟩
  k : Keeps (fun k => k = r) w1 u
  c : u.heap[r]? = some (.cells #[if β 24 = true then .int .i64 (ep + 1) else .int .i64 0, if β 24 = true then X 54 else .slice none 0 0, if β 24 = true then X 62 else .slice none 0 0, if β 24 = true then X 68 else .slice none 0 0] 45 (0, 0))
  w8 : β 8 = true → β 5 = true ∧ β 7 = true
  w11 : β 11 = true → β 8 = true
  w16 : β 16 = true → β 11 = true ∧ β 15 = true
  w19 : β 19 = true → β 16 = true
  w22 : β 22 = true → β 19 = true ∧ β 21 = true
  p23 : β 23 = true → β 22 = true ∧ X 69 = .agg #[.int .i64 (ep + 1), X 54, X 62, X 68]
  i24 : β 24 = true → β 23 = true
  w25 : β 25 = true → β 24 = true ∧ X 7 = .int .i64 0
section
variable {w1 : World} {r : Nat} {ep : Int} {L1 L2 L3 : List Int} {n1 n3 : Int} {β : Nat → Bool} {X : Nat → Value} {u u' : World}
theorem JW.a16 (h : JW w1 r ep L1 L2 L3 n1 n3 β X u) (e : β 24 = true) : β 16 = true ∧ β 22 = true := by
  have h22 := (h.p23 (h.i24 e)).1
  exact ⟨h.w19 (h.w22 h22).1, h22⟩
theorem JW.all22 (h : JW w1 r ep L1 L2 L3 n1 n3 β X u) (e : β 22 = true) : β 5 = true ∧ β 7 = true ∧ β 8 = true ∧ β 11 = true ∧ β 15 = true ∧ β 16 = true ∧ β 19 = true ∧ β 21 = true := by
  have h1 := h.w22 e
  have h2 := h.w16 (h.w19 h1.1)
  have h3 := h.w11 h2.1
  exact ⟨(h.w8 h3).1, (h.w8 h3).2, h3, h2.1, h2.2, h.w19 h1.1, h1.1, h1.2⟩
theorem JW.early (h : JW w1 r ep L1 L2 L3 n1 n3 β X u) (h24 : β 24 = false) : u.heap[r]? = some (.cells #[.int .i64 0, .slice none 0 0, .slice none 0 0, .slice none 0 0] 45 (0, 0)) := by
  have := h.c
  rw [h24] at this
  exact this
theorem JW.held (h : JW w1 r ep L1 L2 L3 n1 n3 β X u) {q o : Nat} {v : Value} (hq : q < r) (hc : w1.cell? ⟨q, o, none⟩ = some v) : u.cell? ⟨q, o, none⟩ = some v := (h.k.cell (a := ⟨q, o, none⟩) (World.block_lt_of_cell? _ _ hc) (fun e => by have : q = r := e; omega)).trans hc
theorem cells_keep {G : Nat → Prop} {a b c d : Value} {t : TypeId} (h : u.heap[r]? = some (.cells #[a, b, c, d] t (0, 0))) (hk : Keeps G u u') (hG : ¬ G r) : u'.heap[r]? = some (.cells #[a, b, c, d] t (0, 0)) := hk.grownTo h hG
theorem JW.come1 {v : Value} {b2 : Nat} (h : JW w1 r ep L1 L2 L3 n1 n3 β X u) (ha : β 8 = false) (h24 : β 24 = false) (ho : Go.Bl.Own u' b2 3 1 intc v L1) (hb2 : u.heap.size ≤ b2) (hB : Below u.heap.size u u') : JW w1 r ep L1 L2 L3 n1 n3 (fun k => decide (k = 5) || β k) (newX (some 51) v X) u' := by
  have hc := h.early h24
  refine ⟨(h.rows.come1 ha ho hb2 h.k.size hB), h.k.trans (Keeps.of_fresh hB _), ?_, (fun e => ⟨rfl, (h.w8 e).2⟩), h.w11, h.w16, h.w19, h.w22, h.p23, h.i24, (fun e => by rw [show (decide (25 = 5) || β 25) = β 25 from rfl] at e; have := (h.w25 e).1; rw [h24] at this; cases this)⟩
  rw [show (decide (24 = 5) || β 24) = false from h24]
  exact (hB.block r (Array.getElem?_eq_some_iff.1 hc).1).trans hc
theorem JW.come2 {v : Value} {b2 : Nat} (h : JW w1 r ep L1 L2 L3 n1 n3 β X u) (ha : β 16 = false) (hp : β 8 = true) (h24 : β 24 = false) (ho : Go.Bl.Own u' b2 3 1 intc v L2) (hb2 : u.heap.size ≤ b2) (hB : Below u.heap.size u u') : JW w1 r ep L1 L2 L3 n1 n3 (fun k => decide (k = 11) || β k) (newX (some 57) v X) u' := by
  have hc := h.early h24
  refine ⟨(h.rows.rot.come1 ha ho hb2 h.k.size hB).rot.rot, h.k.trans (Keeps.of_fresh hB _), ?_, h.w8, (fun _ => hp), (fun e => ⟨rfl, (h.w16 e).2⟩), h.w19, h.w22, h.p23, h.i24, (fun e => by rw [show (decide (25 = 11) || β 25) = β 25 from rfl] at e; have := (h.w25 e).1; rw [h24] at this; cases this)⟩
  rw [show (decide (24 = 11) || β 24) = false from h24]
  exact (hB.block r (Array.getElem?_eq_some_iff.1 hc).1).trans hc
theorem JW.come3 {v : Value} {b2 : Nat} (h : JW w1 r ep L1 L2 L3 n1 n3 β X u) (ha : β 22 = false) (hp : β 16 = true) (h24 : β 24 = false) (ho : Go.Bl.Own u' b2 3 1 intc v L3) (hb2 : u.heap.size ≤ b2) (hB : Below u.heap.size u u') : JW w1 r ep L1 L2 L3 n1 n3 (fun k => decide (k = 19) || β k) (newX (some 65) v X) u' := by
  have hc := h.early h24
  refine ⟨(h.rows.rot.rot.come1 ha ho hb2 h.k.size hB).rot, h.k.trans (Keeps.of_fresh hB _), ?_, h.w8, h.w11, h.w16, (fun _ => hp), (fun e => ⟨rfl, (h.w22 e).2⟩), h.p23, h.i24, (fun e => by rw [show (decide (25 = 19) || β 25) = β 25 from rfl] at e; have := (h.w25 e).1; rw [h24] at this; cases this)⟩
  rw [show (decide (24 = 19) || β 24) = false from h24]
  exact (hB.block r (Array.getElem?_eq_some_iff.1 hc).1).trans hc
theorem JW.build1 (h : JW w1 r ep L1 L2 L3 n1 n3 β X u) (ha : β 8 = false) (h24 : β 24 = false) : JW w1 r ep L1 L2 L3 n1 n3 (fun k => decide (k = 7) || β k) (newX (some 53) (.slice (some ⟨u.heap.size, 0, none⟩) 1 1) X) (u.alloc (.cells #[.int .i64 n1] 3)) := by
  have hc := h.early h24
  refine ⟨(h.rows.build1 ha h.k.size), h.k.alloc _, ?_, (fun e => ⟨(h.w8 e).1, rfl⟩), h.w11, h.w16, h.w19, h.w22, h.p23, h.i24, (fun e => by rw [show (decide (25 = 7) || β 25) = β 25 from rfl] at e; have := (h.w25 e).1; rw [h24] at this; cases this)⟩
  rw [show (decide (24 = 7) || β 24) = false from h24]
  exact (Below.heap_alloc _ _ _ (Array.getElem?_eq_some_iff.1 hc).1).trans hc
theorem JW.build2 (h : JW w1 r ep L1 L2 L3 n1 n3 β X u) (ha : β 16 = false) (h24 : β 24 = false) : JW w1 r ep L1 L2 L3 n1 n3 (fun k => decide (k = 15) || β k) (newX (some 61) (.slice (some ⟨u.heap.size, 0, none⟩) 1 1) X) (u.alloc (.cells #[.int .i64 (ep + 1)] 3)) := by
  have hc := h.early h24
  refine ⟨(h.rows.rot.build1 ha h.k.size).rot.rot, h.k.alloc _, ?_, h.w8, h.w11, (fun e => ⟨(h.w16 e).1, rfl⟩), h.w19, h.w22, h.p23, h.i24, (fun e => by rw [show (decide (25 = 15) || β 25) = β 25 from rfl] at e; have := (h.w25 e).1; rw [h24] at this; cases this)⟩
  rw [show (decide (24 = 15) || β 24) = false from h24]
  exact (Below.heap_alloc _ _ _ (Array.getElem?_eq_some_iff.1 hc).1).trans hc
theorem JW.build3 (h : JW w1 r ep L1 L2 L3 n1 n3 β X u) (ha : β 22 = false) (h24 : β 24 = false) : JW w1 r ep L1 L2 L3 n1 n3 (fun k => decide (k = 21) || β k) (newX (some 67) (.slice (some ⟨u.heap.size, 0, none⟩) 1 1) X) (u.alloc (.cells #[.int .i64 n3] 3)) := by
  have hc := h.early h24
  refine ⟨(h.rows.rot.rot.build1 ha h.k.size).rot, h.k.alloc _, ?_, h.w8, h.w11, h.w16, h.w19, (fun e => ⟨(h.w22 e).1, rfl⟩), h.p23, h.i24, (fun e => by rw [show (decide (25 = 21) || β 25) = β 25 from rfl] at e; have := (h.w25 e).1; rw [h24] at this; cases this)⟩
  rw [show (decide (24 = 21) || β 24) = false from h24]
  exact (Below.heap_alloc _ _ _ (Array.getElem?_eq_some_iff.1 hc).1).trans hc
theorem JW.got1 {v : Value} (h : JW w1 r ep L1 L2 L3 n1 n3 β X u) (ha : β 8 = false) (hcm : β 5 = true) (hf : β 7 = true) (h24 : β 24 = false) (h23 : β 23 = false) (hr : r < w1.heap.size) (ho : Go.Bl.Own u' w1.heap.size 3 1 intc v (L1 ++ [n1])) (hg : u.grownBy u' (X 51).ownBlock) (hat : AtOf u (X 51) v) : JW w1 r ep L1 L2 L3 n1 n3 (fun k => decide (k = 8) || β k) (newX (some 54) v X) u' := by
  have hb : ∀ k, (X 51).ownBlock = some k → w1.heap.size ≤ k := fun k e => (Own.lt (h.rows.r1.own0 hcm ha) k e).1
  have hc := h.early h24
  refine ⟨(h.rows.got1 ha hcm ho hg hat), h.k.grown hg (fun k e hk => by have := hb k e; omega), ?_, (fun _ => ⟨hcm, hf⟩), (fun _ => rfl), h.w16, h.w19, h.w22, (fun e => by rw [show (decide (23 = 8) || β 23) = β 23 from rfl, h23] at e; cases e), h.i24, (fun e => by rw [show (decide (25 = 8) || β 25) = β 25 from rfl] at e; have := (h.w25 e).1; rw [h24] at this; cases this)⟩
  rw [show (decide (24 = 8) || β 24) = false from h24]
  exact cells_keep hc (Keeps.of_grown hg) (fun e => by have := hb r e; omega)
theorem JW.got2 {v : Value} (h : JW w1 r ep L1 L2 L3 n1 n3 β X u) (ha : β 16 = false) (hcm : β 11 = true) (hf : β 15 = true) (h24 : β 24 = false) (h23 : β 23 = false) (hr : r < w1.heap.size) (ho : Go.Bl.Own u' w1.heap.size 3 1 intc v (L2 ++ [(ep + 1)])) (hg : u.grownBy u' (X 57).ownBlock) (hat : AtOf u (X 57) v) : JW w1 r ep L1 L2 L3 n1 n3 (fun k => decide (k = 16) || β k) (newX (some 62) v X) u' := by
  have hb : ∀ k, (X 57).ownBlock = some k → w1.heap.size ≤ k := fun k e => (Own.lt (h.rows.r2.own0 hcm ha) k e).1
  have hc := h.early h24
  refine ⟨(h.rows.rot.got1 ha hcm ho hg hat).rot.rot, h.k.grown hg (fun k e hk => by have := hb k e; omega), ?_, h.w8, h.w11, (fun _ => ⟨hcm, hf⟩), (fun _ => rfl), h.w22, (fun e => by rw [show (decide (23 = 16) || β 23) = β 23 from rfl, h23] at e; cases e), h.i24, (fun e => by rw [show (decide (25 = 16) || β 25) = β 25 from rfl] at e; have := (h.w25 e).1; rw [h24] at this; cases this)⟩
  rw [show (decide (24 = 16) || β 24) = false from h24]
  exact cells_keep hc (Keeps.of_grown hg) (fun e => by have := hb r e; omega)
theorem JW.got3 {v : Value} (h : JW w1 r ep L1 L2 L3 n1 n3 β X u) (ha : β 22 = false) (hcm : β 19 = true) (hf : β 21 = true) (h24 : β 24 = false) (h23 : β 23 = false) (hr : r < w1.heap.size) (ho : Go.Bl.Own u' w1.heap.size 3 1 intc v (L3 ++ [n3])) (hg : u.grownBy u' (X 65).ownBlock) (hat : AtOf u (X 65) v) : JW w1 r ep L1 L2 L3 n1 n3 (fun k => decide (k = 22) || β k) (newX (some 68) v X) u' := by
  have hb : ∀ k, (X 65).ownBlock = some k → w1.heap.size ≤ k := fun k e => (Own.lt (h.rows.r3.own0 hcm ha) k e).1
  have hc := h.early h24
  refine ⟨(h.rows.rot.rot.got1 ha hcm ho hg hat).rot, h.k.grown hg (fun k e hk => by have := hb k e; omega), ?_, h.w8, h.w11, h.w16, h.w19, (fun _ => ⟨hcm, hf⟩), (fun e => by rw [show (decide (23 = 22) || β 23) = β 23 from rfl, h23] at e; cases e), h.i24, (fun e => by rw [show (decide (25 = 22) || β 25) = β 25 from rfl] at e; have := (h.w25 e).1; rw [h24] at this; cases this)⟩
  rw [show (decide (24 = 22) || β 24) = false from h24]
  exact cells_keep hc (Keeps.of_grown hg) (fun e => by have := hb r e; omega)
theorem JW.aggd (h : JW w1 r ep L1 L2 L3 n1 n3 β X u) (h22 : β 22 = true) (h24 : β 24 = false) : JW w1 r ep L1 L2 L3 n1 n3 (fun k => decide (k = 23) || β k) (newX (some 69) (.agg #[.int .i64 (ep + 1), X 54, X 62, X 68]) X) u := by
  refine ⟨h.rows, h.k, h.c, h.w8, h.w11, h.w16, h.w19, h.w22, (fun _ => ⟨h22, rfl⟩), (fun _ => rfl), (fun e => by rw [show (decide (25 = 23) || β 25) = β 25 from rfl] at e; have := (h.w25 e).1; rw [h24] at this; cases this)⟩
theorem JW.stored (h : JW w1 r ep L1 L2 L3 n1 n3 β X u) (h23 : β 23 = true) (h24 : β 24 = false) (hr : r < w1.heap.size) : JW w1 r ep L1 L2 L3 n1 n3 (fun k => decide (k = 24) || β k) X ((((u.setCell ⟨r, 0, none⟩ (.int .i64 (ep + 1))).setCell ⟨r, 1, none⟩ (X 54)).setCell ⟨r, 2, none⟩ (X 62)).setCell ⟨r, 3, none⟩ (X 68)) := by
  have hk := four_keeps u r (.int .i64 (ep + 1)) (X 54) (X 62) (X 68)
  exact ⟨h.rows.keep hk (fun k e => by rw [show k = r from e]; exact hr), h.k.trans hk, four_block (h.early h24) _ _ _ _, h.w8, h.w11, h.w16, h.w19, h.w22, h.p23, (fun _ => h23), (fun e => by rw [show (decide (25 = 24) || β 25) = β 25 from rfl] at e; have := (h.w25 e).1; rw [h24] at this; cases this)⟩
theorem JW.ended (h : JW w1 r ep L1 L2 L3 n1 n3 β X u) (h24 : β 24 = true) : JW w1 r ep L1 L2 L3 n1 n3 (fun k => decide (k = 25) || β k) (newX (some 7) (.int .i64 0) X) u :=
  ⟨h.rows, h.k, h.c, h.w8, h.w11, h.w16, h.w19, h.w22, h.p23, h.i24, (fun _ => ⟨h24, rfl⟩)⟩
end
theorem RowAt.blank {u : World} {base : Nat} {xf xa r : Value} {L : List Int} {n : Int} : RowAt u base ⟨false, false, false, xf, xa, r, L, n⟩ := ⟨(fun (h : false = true) => by cases h), (fun (h : false = true) => by cases h), (fun (h : false = true) => by cases h)⟩
theorem Disj.blank {xf xa r : Value} {L : List Int} {n : Int} {R : RowD} : Disj ⟨false, false, false, xf, xa, r, L, n⟩ R := fun k h1 _ => by
  rcases h1 with ⟨h, _⟩ | ⟨h, _⟩ <;> cases h
set_option maxRecDepth 20000 in
set_option maxHeartbeats 8000000 in
theorem with_ok' (w : World) (F : Nat → Prop) (hF : ∀ k, F k → k < w.heap.size) (ep : Int) (L : List Nd) (a b c : Value) (h : VwSl w F L a b c) (hr : RightV ⟨ep, L⟩) (node boot : Int) (g1 : 1 ≤ node) (g2 : node ≤ 100) (g3 : 0 ≤ boot) (g4 : boot ≤ 274877906944)
    (g5 : node ∉ L.map Nd.node) (g6 : L.length ≠ 6) (g7 : ep ≠ 274877906944) :
    Calls Tryz.prog 48 #[.agg #[.int .i64 ep, a, b, c], .int .i64 node, .int .i64 boot] w fun e w' => ∃ a' b' c', e = .returned (.tuple #[.agg #[.int .i64 (ep + 1), a', b', c'], .int .i64 0]) ∧ VwSl w' (fun k => w.heap.size ≤ k) ((⟨ep, L⟩ : Vw).withN node boot).L a' b' c' ∧ Below w.heap.size w w' := by
  have hL := hr.n1
  have hL6 := hr.n2
  have he1 := hr.ep1
  have he2 := hr.ep2
  change 1 ≤ L.length at hL
  change L.length ≤ 6 at hL6
  change 1 ≤ ep at he1
  change ep ≤ 274877906944 at he2
  obtain ⟨qa, oa, ca, qb, ob, cb, qc, oc, cc, rfl, rfl, rfl, hca, hcm, hcb, hcc⟩ := h.some_ hL
  have d1 : decide (node < 1) = false := decide_eq_false (by omega)
  have d2 : decide (100 < node) = false := decide_eq_false (by omega)
  have d3 : decide (boot < 0) = false := decide_eq_false (by omega)
  have d4 : decide (274877906944 < boot) = false := decide_eq_false (by omega)
  have hB0 : Below w.heap.size w ((w.alloc (.cells #[.int .i64 ep, .slice (some ⟨qa, oa, none⟩) L.length ca, .slice (some ⟨qb, ob, none⟩) L.length cb, .slice (some ⟨qc, oc, none⟩) L.length cc] 45)).alloc (.cells #[.int .i64 0, .slice none 0 0, .slice none 0 0, .slice none 0 0] 45)) := ((Below.refl _ w).alloc (Nat.le_refl _) _).alloc (by simp) _
  have hb1 : ((w.alloc (.cells #[.int .i64 ep, .slice (some ⟨qa, oa, none⟩) L.length ca, .slice (some ⟨qb, ob, none⟩) L.length cb, .slice (some ⟨qc, oc, none⟩) L.length cc] 45)).alloc (.cells #[.int .i64 0, .slice none 0 0, .slice none 0 0, .slice none 0 0] 45)).heap[w.heap.size]? = some (.cells #[.int .i64 ep, .slice (some ⟨qa, oa, none⟩) L.length ca, .slice (some ⟨qb, ob, none⟩) L.length cb, .slice (some ⟨qc, oc, none⟩) L.length cc] 45 (0, 0)) := (Below.heap_alloc _ _ _ (by simp)).trans (heap_alloc_new w _)
  have hb2 : ((w.alloc (.cells #[.int .i64 ep, .slice (some ⟨qa, oa, none⟩) L.length ca, .slice (some ⟨qb, ob, none⟩) L.length cb, .slice (some ⟨qc, oc, none⟩) L.length cc] 45)).alloc (.cells #[.int .i64 0, .slice none 0 0, .slice none 0 0, .slice none 0 0] 45)).heap[w.heap.size + 1]? = some (.cells #[.int .i64 0, .slice none 0 0, .slice none 0 0, .slice none 0 0] 45 (0, 0)) := by
    have := heap_alloc_new (w.alloc (.cells #[.int .i64 ep, .slice (some ⟨qa, oa, none⟩) L.length ca, .slice (some ⟨qb, ob, none⟩) L.length cb, .slice (some ⟨qc, oc, none⟩) L.length cc] 45)) (.cells #[.int .i64 0, .slice none 0 0, .slice none 0 0, .slice none 0 0] 45)
    rw [World.size_alloc] at this
    exact this
  have H := Lib.hid h
  clear h
  have HR := Lib.hid hr
  have HF0 := Lib.hid hF
  clear hr hF
  go_enter Tryz.func48, Tryz.ntmps48
  go_upto_region 1 with (fail)
  generalize (w.alloc (.cells #[.int .i64 ep, .slice (some ⟨qa, oa, none⟩) L.length ca, .slice (some ⟨qb, ob, none⟩) L.length cb, .slice (some ⟨qc, oc, none⟩) L.length cc] 45)).alloc (.cells #[.int .i64 0, .slice none 0 0, .slice none 0 0, .slice none 0 0] 45) = w0 at hB0 hb1 hb2 ⊢
  obtain ⟨q, hq⟩ : ∃ q, w.heap.size = q := ⟨_, rfl⟩
  have HQ := Lib.hid hq
  rw [hq] at hb1 hb2 ⊢
  obtain ⟨r, hr⟩ : ∃ r, q + 1 = r := ⟨_, rfl⟩
  rw [hr] at hb2 ⊢
  have hqr : q < r := by omega
  have HB0 := Lib.hid hB0
  have HV0 := Lib.hid (H.out.fresh HB0.out)
  have HK1 := Lib.hid hb1
  have HK2 := Lib.hid hb2
  clear hq hr hb1 hb2 hB0 H
  have c0 : w0.cell? ⟨q, 0, none⟩ = some (.int .i64 ep) := cell_of_row w0 q 0 _ _ _ HK1.out
  have c1 : w0.cell? ⟨q, 1, none⟩ = some (.slice (some ⟨qa, oa, none⟩) L.length ca) := cell_of_row w0 q 1 _ _ _ HK1.out
  have c2 : w0.cell? ⟨q, 2, none⟩ = some (.slice (some ⟨qb, ob, none⟩) L.length cb) := cell_of_row w0 q 2 _ _ _ HK1.out
  have c3 : w0.cell? ⟨q, 3, none⟩ = some (.slice (some ⟨qc, oc, none⟩) L.length cc) := cell_of_row w0 q 3 _ _ _ HK1.out
  go_wp2_with fail
  refine (right_any w0 F ep L _ _ _ HV0.out).mono ?_
  rintro e wa ⟨rfl, hBa⟩
  rw [rightV_iff.2 HR.out]
  have hq0 : q < w0.heap.size := (Array.getElem?_eq_some_iff.1 HK1.out).1
  have hr0 : r < w0.heap.size := (Array.getElem?_eq_some_iff.1 HK2.out).1
  have c0 := (hBa.cell (p := ⟨q, 0, none⟩) hq0).trans c0
  have c1 := (hBa.cell (p := ⟨q, 1, none⟩) hq0).trans c1
  have c2 := (hBa.cell (p := ⟨q, 2, none⟩) hq0).trans c2
  have c3 := (hBa.cell (p := ⟨q, 3, none⟩) hq0).trans c3
  have HBa := Lib.hid hBa
  clear hBa
  go_wp2_with fail
  refine (place_any wa F ep L _ _ _ (HV0.out.fresh HBa.out) HR.out node).mono ?_
  rintro e w1 ⟨rfl, hB1⟩
  have hix := (idxI_bd node 0 (L.map Nd.node) (Int.le_refl _)).2.2
  obtain ⟨ix, hixe⟩ : ∃ ix, ix = idxI node 0 (L.map Nd.node) := ⟨_, rfl⟩
  rw [← hixe] at hix ⊢
  have hBa1 : Below w0.heap.size w0 w1 := HBa.out.trans (hB1.mono HBa.out.size)
  have HL1 := Lib.hid ((hBa1.block q hq0).trans HK1.out)
  have HL2 := Lib.hid ((hBa1.block r hr0).trans HK2.out)
  have HB1 := Lib.hid (HB0.out.trans (hBa1.mono HB0.out.size))
  have HV := Lib.hid (HV0.out.fresh hBa1)
  clear hB1 hBa1 c0 c1 c2 c3 hixe
  have hq1 : q < w1.heap.size := (Array.getElem?_eq_some_iff.1 HL1.out).1
  have hr1 : r < w1.heap.size := (Array.getElem?_eq_some_iff.1 HL2.out).1
  have c0 : w1.cell? ⟨q, 0, none⟩ = some (.int .i64 ep) := cell_of_row w1 q 0 _ _ _ HL1.out
  have c1 : w1.cell? ⟨q, 1, none⟩ = some (.slice (some ⟨qa, oa, none⟩) L.length ca) := cell_of_row w1 q 1 _ _ _ HL1.out
  have c2 : w1.cell? ⟨q, 2, none⟩ = some (.slice (some ⟨qb, ob, none⟩) L.length cb) := cell_of_row w1 q 2 _ _ _ HL1.out
  have c3 : w1.cell? ⟨q, 3, none⟩ = some (.slice (some ⟨qc, oc, none⟩) L.length cc) := cell_of_row w1 q 3 _ _ _ HL1.out
  have r0 : w1.cell? ⟨r, 0, none⟩ = some (.int .i64 0) := cell_of_row w1 r 0 _ _ _ HL2.out
  have r1 : w1.cell? ⟨r, 1, none⟩ = some (.slice none 0 0) := cell_of_row w1 r 1 _ _ _ HL2.out
  have r2 : w1.cell? ⟨r, 2, none⟩ = some (.slice none 0 0) := cell_of_row w1 r 2 _ _ _ HL2.out
  have r3 : w1.cell? ⟨r, 3, none⟩ = some (.slice none 0 0) := cell_of_row w1 r 3 _ _ _ HL2.out
  have g0 := frozen_block HL2.out 0
  have g1 := frozen_block HL2.out 1
  have g2 := frozen_block HL2.out 2
  have g3 := frozen_block HL2.out 3
  have d5 : decide ((0 : Int) ≤ ix) = false := decide_eq_false (fun e => g5 (hix.1 e))
  have d6 : ((L.length : Int) == 6) = false := by rw [beq_eq_false_iff_ne]; omega
  have d7 : (ep == 274877906944) = false := by rw [beq_eq_false_iff_ne]; exact g7
  have HFR : Hid (∀ k, F k → ¬ k = r) := Lib.hid fun k hk e => by have := HF0.out k hk; have := HQ.out; omega
  clear hix g5 g6
  go_upto_region 7 with (fail)
  have hwr : IntKind.i64.wrap (ep + 1) = ep + 1 := IntWalk.i64_in _ (by omega)
  have held : ∀ β X u, JW w1 r ep (L.map Nd.node) (L.map Nd.since) (L.map Nd.boot) node boot β X u → (u.cell? ⟨q, 0, none⟩ = some (.int .i64 ep) ∧ u.cell? ⟨q, 1, none⟩ = some (.slice (some ⟨qa, oa, none⟩) L.length ca) ∧ u.cell? ⟨q, 2, none⟩ = some (.slice (some ⟨qb, ob, none⟩) L.length cb) ∧ u.cell? ⟨q, 3, none⟩ = some (.slice (some ⟨qc, oc, none⟩) L.length cc)) := fun β X u hJ => ⟨hJ.held hqr c0, hJ.held hqr c1, hJ.held hqr c2, hJ.held hqr c3⟩
  refine wp_region_noPanic ?_
  refine region_kept 24 [0, 1, 2, 3, 4, 6, 9, 10, 12, 13, 14, 17, 18, 20] [5, 7, 8, 11, 15, 16, 19, 21, 22, 23, 24, 25] [51, 53, 54, 57, 61, 62, 65, 67, 68, 69, 7]
    (fun z => z.cell? ⟨q, 0, none⟩ = some (.int .i64 ep) ∧ z.cell? ⟨q, 1, none⟩ = some (.slice (some ⟨qa, oa, none⟩) L.length ca) ∧ z.cell? ⟨q, 2, none⟩ = some (.slice (some ⟨qb, ob, none⟩) L.length cb) ∧ z.cell? ⟨q, 3, none⟩ = some (.slice (some ⟨qc, oc, none⟩) L.length cc))
    (JW w1 r ep (L.map Nd.node) (L.map Nd.since) (L.map Nd.boot) node boot) (by kernel_rfl) (by kernel_rfl) (by kernel_rfl) (by decide) (by kernel_rfl) (fun _ _ _ _ h => h) ⟨c0, c1, c2, c3⟩
    ⟨.pointer (some ⟨q, 0, none⟩), .inl ⟨rfl, fun z hz => by (obtain ⟨z1, z2, z3, z4⟩ := hz; simp only [List.getElem?_toArray, List.getElem?_cons_zero, Option.getD_some]; go_simp)⟩,
      .int .i64 ep, .inl ⟨rfl, fun z hz => by (obtain ⟨z1, z2, z3, z4⟩ := hz; simp only [List.getElem?_toArray, List.getElem?_cons_succ, List.getElem?_cons_zero, Option.getD_some]; go_simp)⟩,
      .int .i64 (ep + 1), .inl ⟨rfl, fun z hz => by (obtain ⟨z1, z2, z3, z4⟩ := hz; simp only [List.getElem?_toArray, List.getElem?_cons_succ, List.getElem?_cons_zero, Option.getD_some]; go_simp)⟩,
      .pointer (some ⟨q, 1, none⟩), .inl ⟨rfl, fun z hz => by (obtain ⟨z1, z2, z3, z4⟩ := hz; simp only [List.getElem?_toArray, List.getElem?_cons_succ, List.getElem?_cons_zero, Option.getD_some]; go_simp)⟩,
      .slice (some ⟨qa, oa, none⟩) L.length ca, .inl ⟨rfl, fun z hz => by (obtain ⟨z1, z2, z3, z4⟩ := hz; simp only [List.getElem?_toArray, List.getElem?_cons_succ, List.getElem?_cons_zero, Option.getD_some]; go_simp)⟩,
      .int .i64 node, .inl ⟨rfl, fun z hz => by (obtain ⟨z1, z2, z3, z4⟩ := hz; simp only [List.getElem?_toArray, List.getElem?_cons_succ, List.getElem?_cons_zero, Option.getD_some]; go_simp)⟩,
      .pointer (some ⟨q, 2, none⟩), .inl ⟨rfl, fun z hz => by (obtain ⟨z1, z2, z3, z4⟩ := hz; simp only [List.getElem?_toArray, List.getElem?_cons_succ, List.getElem?_cons_zero, Option.getD_some]; go_simp)⟩,
      .slice (some ⟨qb, ob, none⟩) L.length cb, .inl ⟨rfl, fun z hz => by (obtain ⟨z1, z2, z3, z4⟩ := hz; simp only [List.getElem?_toArray, List.getElem?_cons_succ, List.getElem?_cons_zero, Option.getD_some]; go_simp)⟩,
      .pointer (some ⟨q, 0, none⟩), .inl ⟨rfl, fun z hz => by (obtain ⟨z1, z2, z3, z4⟩ := hz; simp only [List.getElem?_toArray, List.getElem?_cons_succ, List.getElem?_cons_zero, Option.getD_some]; go_simp)⟩,
      .int .i64 ep, .inl ⟨rfl, fun z hz => by (obtain ⟨z1, z2, z3, z4⟩ := hz; simp only [List.getElem?_toArray, List.getElem?_cons_succ, List.getElem?_cons_zero, Option.getD_some]; go_simp)⟩,
      .int .i64 (ep + 1), .inl ⟨rfl, fun z hz => by (obtain ⟨z1, z2, z3, z4⟩ := hz; simp only [List.getElem?_toArray, List.getElem?_cons_succ, List.getElem?_cons_zero, Option.getD_some]; go_simp)⟩,
      .pointer (some ⟨q, 3, none⟩), .inl ⟨rfl, fun z hz => by (obtain ⟨z1, z2, z3, z4⟩ := hz; simp only [List.getElem?_toArray, List.getElem?_cons_succ, List.getElem?_cons_zero, Option.getD_some]; go_simp)⟩,
      .slice (some ⟨qc, oc, none⟩) L.length cc, .inl ⟨rfl, fun z hz => by (obtain ⟨z1, z2, z3, z4⟩ := hz; simp only [List.getElem?_toArray, List.getElem?_cons_succ, List.getElem?_cons_zero, Option.getD_some]; go_simp)⟩,
      .int .i64 boot, .inl ⟨rfl, fun z hz => by (obtain ⟨z1, z2, z3, z4⟩ := hz; simp only [List.getElem?_toArray, List.getElem?_cons_succ, List.getElem?_cons_zero, Option.getD_some]; go_simp)⟩,
      rfl⟩ ?_ ?_ ?_
  · intro β X hβ
    have b := fun i (hi : i ∈ [5, 7, 8, 11, 15, 16, 19, 21, 22, 23, 24, 25]) => hβ i hi
    refine ⟨?_, (Keeps.refl _ w1).drew, ?_, ?_, ?_, ?_, ?_, ?_, ?_, ?_, ?_⟩
    · rw [b 5 (by decide), b 7 (by decide), b 8 (by decide), b 11 (by decide), b 15 (by decide), b 16 (by decide), b 19 (by decide), b 21 (by decide), b 22 (by decide)]
      exact ⟨.blank, .blank, .blank, .blank, .blank, .blank⟩
    · rw [b 24 (by decide)]
      exact HL2.out
    · rw [b 8 (by decide)]; intro h; cases h
    · rw [b 11 (by decide)]; intro h; cases h
    · rw [b 16 (by decide)]; intro h; cases h
    · rw [b 19 (by decide)]; intro h; cases h
    · rw [b 22 (by decide)]; intro h; cases h
    · rw [b 23 (by decide)]; intro h; cases h
    · rw [b 24 (by decide)]; intro h; cases h
    · rw [b 25 (by decide)]; intro h; cases h
  · intro i hi β X u hJ hb hdep b ho hx K hK
    simp only [List.mem_cons, List.not_mem_nil, or_false] at hi
    rcases hi with rfl | rfl | rfl | rfl | rfl | rfl | rfl | rfl | rfl | rfl | rfl | rfl
    · have h23 : β 23 = false := ff hb fun e => (hJ.all22 (hJ.p23 e).1).1
      have h24 : β 24 = false := ff h23 hJ.i24
      have ha : β 8 = false := ff hb fun e => (hJ.w8 e).1
      have e1 : b.eval (.tmp 50) = .slice (some ⟨qa, oa, none⟩) L.length ca := by rw [ho 50 (by decide)]; go_simp
      refine wpOp_callx 30 50 22 _ rfl rfl rfl e1 (by kernel_rfl) ((clone_some u qa oa L.length ca _ F (HV.out.ch.keep hJ.k (fun k _ hk e => HFR.out k hk e)) (by rw [List.length_map]; omega)).mono fun e w' h => ?_)
      obtain ⟨v, he, hO, _, hB⟩ := h
      exact ⟨v, he, hK v w' (fun _ => held _ _ _ (hJ.come1 ha h24 hO (Nat.le_refl _) hB)) (hJ.come1 ha h24 hO (Nat.le_refl _) hB)⟩
    · have h23 : β 23 = false := ff hb fun e => (hJ.all22 (hJ.p23 e).1).2.1
      have h24 : β 24 = false := ff h23 hJ.i24
      have ha : β 8 = false := ff hb fun e => (hJ.w8 e).2
      have e1 : b.eval (.tmp 52) = .int .i64 node := by rw [ho 52 (by decide)]; go_simp
      exact wpOp_one 52 node rfl rfl rfl e1 (hK _ _ (fun _ => held _ _ _ (hJ.build1 ha h24)) (hJ.build1 ha h24))
    · have h23 : β 23 = false := ff hb fun e => (hJ.all22 (hJ.p23 e).1).2.2.1
      have h24 : β 24 = false := ff h23 hJ.i24
      have hcm : β 5 = true := edge_came rfl hdep 5 (by kernel_rfl)
      have hf : β 7 = true := edge_came rfl hdep 7 (by kernel_rfl)
      have e1 : b.eval (.tmp 51) = X 51 := hx 51 (by decide) (by simp [Act.put])
      have e2 : b.eval (.tmp 53) = X 53 := hx 53 (by decide) (by simp [Act.put])
      refine wpOp_of rfl (elInt.step u rfl (.tmp 51) (.tmp 53) rfl w1.heap.size _ _ e1 (hJ.rows.r1.own0 hcm hb) _ _ [node] e2 (hJ.rows.r1.sl hf hb) (by rw [List.length_map, List.length_singleton]; omega) hJ.k.size fun v' u' h1 h2 h3 => ?_)
      exact hK _ _ (fun _ => held _ _ _ (hJ.got1 hb hcm hf h24 h23 hr1 h1 h2 h3)) (hJ.got1 hb hcm hf h24 h23 hr1 h1 h2 h3)
    · have h23 : β 23 = false := ff hb fun e => (hJ.all22 (hJ.p23 e).1).2.2.2.1
      have h24 : β 24 = false := ff h23 hJ.i24
      have ha : β 16 = false := ff hb fun e => (hJ.w16 e).1
      have hp : β 8 = true := edge_came rfl hdep 8 (by kernel_rfl)
      have e1 : b.eval (.tmp 56) = .slice (some ⟨qb, ob, none⟩) L.length cb := by rw [ho 56 (by decide)]; go_simp
      refine wpOp_callx 30 56 22 _ rfl rfl rfl e1 (by kernel_rfl) ((clone_some u qb ob L.length cb _ F (HV.out.si.keep hJ.k (fun k _ hk e => HFR.out k hk e)) (by rw [List.length_map]; omega)).mono fun e w' h => ?_)
      obtain ⟨v, he, hO, _, hB⟩ := h
      exact ⟨v, he, hK v w' (fun _ => held _ _ _ (hJ.come2 ha hp h24 hO (Nat.le_refl _) hB)) (hJ.come2 ha hp h24 hO (Nat.le_refl _) hB)⟩
    · have h23 : β 23 = false := ff hb fun e => (hJ.all22 (hJ.p23 e).1).2.2.2.2.1
      have h24 : β 24 = false := ff h23 hJ.i24
      have ha : β 16 = false := ff hb fun e => (hJ.w16 e).2
      have e1 : b.eval (.tmp 60) = .int .i64 (ep + 1) := by rw [ho 60 (by decide)]; go_simp
      exact wpOp_one 60 (ep + 1) rfl rfl rfl e1 (hK _ _ (fun _ => held _ _ _ (hJ.build2 ha h24)) (hJ.build2 ha h24))
    · have h23 : β 23 = false := ff hb fun e => (hJ.all22 (hJ.p23 e).1).2.2.2.2.2.1
      have h24 : β 24 = false := ff h23 hJ.i24
      have hcm : β 11 = true := edge_came rfl hdep 11 (by kernel_rfl)
      have hf : β 15 = true := edge_came rfl hdep 15 (by kernel_rfl)
      have e1 : b.eval (.tmp 57) = X 57 := hx 57 (by decide) (by simp [Act.put])
      have e2 : b.eval (.tmp 61) = X 61 := hx 61 (by decide) (by simp [Act.put])
      refine wpOp_of rfl (elInt.step u rfl (.tmp 57) (.tmp 61) rfl w1.heap.size _ _ e1 (hJ.rows.r2.own0 hcm hb) _ _ [(ep + 1)] e2 (hJ.rows.r2.sl hf hb) (by rw [List.length_map, List.length_singleton]; omega) hJ.k.size fun v' u' h1 h2 h3 => ?_)
      exact hK _ _ (fun _ => held _ _ _ (hJ.got2 hb hcm hf h24 h23 hr1 h1 h2 h3)) (hJ.got2 hb hcm hf h24 h23 hr1 h1 h2 h3)
    · have h23 : β 23 = false := ff hb fun e => (hJ.all22 (hJ.p23 e).1).2.2.2.2.2.2.1
      have h24 : β 24 = false := ff h23 hJ.i24
      have ha : β 22 = false := ff hb fun e => (hJ.w22 e).1
      have hp : β 16 = true := edge_came rfl hdep 16 (by kernel_rfl)
      have e1 : b.eval (.tmp 64) = .slice (some ⟨qc, oc, none⟩) L.length cc := by rw [ho 64 (by decide)]; go_simp
      refine wpOp_callx 30 64 22 _ rfl rfl rfl e1 (by kernel_rfl) ((clone_some u qc oc L.length cc _ F (HV.out.bo.keep hJ.k (fun k _ hk e => HFR.out k hk e)) (by rw [List.length_map]; omega)).mono fun e w' h => ?_)
      obtain ⟨v, he, hO, _, hB⟩ := h
      exact ⟨v, he, hK v w' (fun _ => held _ _ _ (hJ.come3 ha hp h24 hO (Nat.le_refl _) hB)) (hJ.come3 ha hp h24 hO (Nat.le_refl _) hB)⟩
    · have h23 : β 23 = false := ff hb fun e => (hJ.all22 (hJ.p23 e).1).2.2.2.2.2.2.2
      have h24 : β 24 = false := ff h23 hJ.i24
      have ha : β 22 = false := ff hb fun e => (hJ.w22 e).2
      have e1 : b.eval (.tmp 66) = .int .i64 boot := by rw [ho 66 (by decide)]; go_simp
      exact wpOp_one 66 boot rfl rfl rfl e1 (hK _ _ (fun _ => held _ _ _ (hJ.build3 ha h24)) (hJ.build3 ha h24))
    · have h23 : β 23 = false := ff hb fun e => (hJ.p23 e).1
      have h24 : β 24 = false := ff h23 hJ.i24
      have hcm : β 19 = true := edge_came rfl hdep 19 (by kernel_rfl)
      have hf : β 21 = true := edge_came rfl hdep 21 (by kernel_rfl)
      have e1 : b.eval (.tmp 65) = X 65 := hx 65 (by decide) (by simp [Act.put])
      have e2 : b.eval (.tmp 67) = X 67 := hx 67 (by decide) (by simp [Act.put])
      refine wpOp_of rfl (elInt.step u rfl (.tmp 65) (.tmp 67) rfl w1.heap.size _ _ e1 (hJ.rows.r3.own0 hcm hb) _ _ [boot] e2 (hJ.rows.r3.sl hf hb) (by rw [List.length_map, List.length_singleton]; omega) hJ.k.size fun v' u' h1 h2 h3 => ?_)
      exact hK _ _ (fun _ => held _ _ _ (hJ.got3 hb hcm hf h24 h23 hr1 h1 h2 h3)) (hJ.got3 hb hcm hf h24 h23 hr1 h1 h2 h3)
    · have h22 : β 22 = true := edge_came rfl hdep 22 (by kernel_rfl)
      have h24 : β 24 = false := ff hb hJ.i24
      obtain ⟨h5, h7, h8, h11, h15, h16, h19, h21⟩ := hJ.all22 h22
      obtain ⟨Z1, z1, hz1, _, _⟩ := (hJ.rows.r1.own1 h5 h8).shape_ (n := L.length + 1) (by rw [List.length_append, List.length_map, List.length_singleton])
      obtain ⟨Z2, z2, hz2, _, _⟩ := (hJ.rows.r2.own1 h11 h16).shape_ (n := L.length + 1) (by rw [List.length_append, List.length_map, List.length_singleton])
      obtain ⟨Z3, z3, hz3, _, _⟩ := (hJ.rows.r3.own1 h19 h22).shape_ (n := L.length + 1) (by rw [List.length_append, List.length_map, List.length_singleton])
      have hz1 : X 54 = .slice Z1 (L.length + 1) z1 := hz1
      have hz2 : X 62 = .slice Z2 (L.length + 1) z2 := hz2
      have hz3 : X 68 = .slice Z3 (L.length + 1) z3 := hz3
      have e0 : b.eval (.tmp 48) = .int .i64 (ep + 1) := by rw [ho 48 (by decide)]; go_simp
      have e1 : b.eval (.tmp 54) = .slice Z1 (L.length + 1) z1 := (hx 54 (by decide) (by simp [Act.put])).trans hz1
      have e2 : b.eval (.tmp 62) = .slice Z2 (L.length + 1) z2 := (hx 62 (by decide) (by simp [Act.put])).trans hz2
      have e3 : b.eval (.tmp 68) = .slice Z3 (L.length + 1) z3 := (hx 68 (by decide) (by simp [Act.put])).trans hz3
      have hK1 := hK (.agg #[.int .i64 (ep + 1), X 54, X 62, X 68]) u (fun _ => held _ _ _ (hJ.aggd h22 h24)) (hJ.aggd h22 h24)
      rw [hz1, hz2, hz3] at hK1
      refine wpOp_of rfl ?_
      have e0' : (b.tmps[48]?).getD undef = .int .i64 (ep + 1) := by rw [← Array.getD_eq_getD_getElem?]; exact e0
      have e1' : (b.tmps[54]?).getD undef = .slice Z1 (L.length + 1) z1 := by rw [← Array.getD_eq_getD_getElem?]; exact e1
      have e2' : (b.tmps[62]?).getD undef = .slice Z2 (L.length + 1) z2 := by rw [← Array.getD_eq_getD_getElem?]; exact e2
      have e3' : (b.tmps[68]?).getD undef = .slice Z3 (L.length + 1) z3 := by rw [← Array.getD_eq_getD_getElem?]; exact e3
      clear ho hx hJ hK hdep hz1 hz2 hz3 e0 e1 e2 e3
      go_simp
      exact hK1
    · have h23 : β 23 = true := edge_came rfl hdep 23 (by kernel_rfl)
      have h22 := (hJ.p23 h23).1
      obtain ⟨h5, h7, h8, h11, h15, h16, h19, h21⟩ := hJ.all22 h22
      obtain ⟨Z1, z1, hz1, _, _⟩ := (hJ.rows.r1.own1 h5 h8).shape_ (n := L.length + 1) (by rw [List.length_append, List.length_map, List.length_singleton])
      obtain ⟨Z2, z2, hz2, _, _⟩ := (hJ.rows.r2.own1 h11 h16).shape_ (n := L.length + 1) (by rw [List.length_append, List.length_map, List.length_singleton])
      obtain ⟨Z3, z3, hz3, _, _⟩ := (hJ.rows.r3.own1 h19 h22).shape_ (n := L.length + 1) (by rw [List.length_append, List.length_map, List.length_singleton])
      have hz1 : X 54 = .slice Z1 (L.length + 1) z1 := hz1
      have hz2 : X 62 = .slice Z2 (L.length + 1) z2 := hz2
      have hz3 : X 68 = .slice Z3 (L.length + 1) z3 := hz3
      have h69 := (hJ.p23 h23).2
      have e1 : b.eval (.tmp 6) = .pointer (some ⟨r, 0, none⟩) := by rw [ho 6 (by decide)]; go_simp
      have e2 : b.eval (.tmp 69) = .agg #[.int .i64 (ep + 1), X 54, X 62, X 68] := (hx 69 (by decide) (by simp [Act.put])).trans h69
      have hc := hJ.early hb
      have y0 := cell_of_row u r 0 _ _ _ hc
      have y1 := cell_of_row u r 1 _ _ _ hc
      have y2 := cell_of_row u r 2 _ _ _ hc
      have y3 := cell_of_row u r 3 _ _ _ hc
      have x0 := frozen_block hc 0
      have x1 := frozen_block hc 1
      have x2 := frozen_block hc 2
      have x3 := frozen_block hc 3
      have hK1 := hK undef _ (fun h => absurd h (by omega)) (hJ.stored h23 hb hr1)
      rw [hz1, hz2, hz3] at hK1 e2
      refine wpOp_of rfl ?_
      have e1' : (b.tmps[6]?).getD undef = .pointer (some ⟨r, 0, none⟩) := by rw [← Array.getD_eq_getD_getElem?]; exact e1
      have e2' : (b.tmps[69]?).getD undef = .agg #[.int .i64 (ep + 1), .slice Z1 (L.length + 1) z1, .slice Z2 (L.length + 1) z2, .slice Z3 (L.length + 1) z3] := by rw [← Array.getD_eq_getD_getElem?]; exact e2
      clear ho hx hJ hK hdep hz1 hz2 hz3 e1 e2 hc h69
      go_simp
      exact hK1
    · have h24 : β 24 = true := edge_came rfl hdep 24 (by kernel_rfl)
      have hK1 := hK (.int .i64 0) u (fun h => absurd h (by omega)) (hJ.ended h24)
      refine wpOp_of rfl ?_
      clear ho hx hJ hK hdep
      go_simp
      exact hK1
  · intro β X u hJ hall
    have h22 := hall 22 (by decide)
    obtain ⟨h5, h7, h8, h11, h15, h16, h19, h21⟩ := hJ.all22 h22
    have hr1' := hJ.rows.r1.own1 h5 h8
    have hr2' := hJ.rows.r2.own1 h11 h16
    have hr3' := hJ.rows.r3.own1 h19 h22
    have hc := hJ.c
    rw [hall 24 (by decide)] at hc
    have hc : u.heap[r]? = some (.cells #[.int .i64 (ep + 1), X 54, X 62, X 68] 45 (0, 0)) := hc
    have hV : VwSl u (fun k => w1.heap.size ≤ k) ((⟨ep, L⟩ : Vw).withN node boot).L (X 54) (X 62) (X 68) := by
      refine ⟨?_, ?_, ?_⟩
      · show Sl u _ 1 intc (X 54) ((L ++ [_]).map Nd.node)
        rw [List.map_append]
        exact (hr1'.sl (fun _ => rfl)).mono fun k _ hk => (Own.lt hr1' k hk).1
      · show Sl u _ 1 intc (X 62) ((L ++ [_]).map Nd.since)
        rw [List.map_append]
        exact (hr2'.sl (fun _ => rfl)).mono fun k _ hk => (Own.lt hr2' k hk).1
      · show Sl u _ 1 intc (X 68) ((L ++ [_]).map Nd.boot)
        rw [List.map_append]
        exact (hr3'.sl (fun _ => rfl)).mono fun k _ hk => (Own.lt hr3' k hk).1
    have hVe := hV.mono (F' := fun k => w.heap.size ≤ k) (fun k _ hk => by have hk2 : w1.heap.size ≤ k := hk; have := HB1.out.size; show w.heap.size ≤ k; omega)
    have hBe := Below.keep HB1.out hJ.k HB1.out.size (fun k e => by have e2 : k = r := e; have := HQ.out; omega)
    have x7 := (hJ.w25 (hall 25 (by decide))).2
    obtain ⟨Z1, z1, hz1, _, _⟩ := hr1'.shape_ (n := L.length + 1) (by rw [List.length_append, List.length_map, List.length_singleton])
    obtain ⟨Z2, z2, hz2, _, _⟩ := hr2'.shape_ (n := L.length + 1) (by rw [List.length_append, List.length_map, List.length_singleton])
    obtain ⟨Z3, z3, hz3, _, _⟩ := hr3'.shape_ (n := L.length + 1) (by rw [List.length_append, List.length_map, List.length_singleton])
    have hz1 : X 54 = .slice Z1 (L.length + 1) z1 := hz1
    have hz2 : X 62 = .slice Z2 (L.length + 1) z2 := hz2
    have hz3 : X 68 = .slice Z3 (L.length + 1) z3 := hz3
    rw [hz1, hz2, hz3] at hc hVe
    have HVE := Lib.hid hVe
    have HBE := Lib.hid hBe
    have z0 := cell_of_row u r 0 _ _ _ hc
    have y1 := cell_of_row u r 1 _ _ _ hc
    have y2 := cell_of_row u r 2 _ _ _ hc
    have y3 := cell_of_row u r 3 _ _ _ hc
    clear hV hVe hBe hJ hall hr1' hr2' hr3' hc held c0 c1 c2 c3 hz1 hz2 hz3
    refine NoPanic.normal ?_
    simp only [putsL]
    rw [x7]
    generalize X 51 = x51
    generalize X 53 = x53
    generalize X 54 = x54
    generalize X 57 = x57
    generalize X 61 = x61
    generalize X 62 = x62
    generalize X 65 = x65
    generalize X 67 = x67
    generalize X 68 = x68
    generalize X 69 = x69
    simp only [List.getElem?_toArray, List.getElem?_cons_succ, List.getElem?_cons_zero, Option.getD_some, Act.put, List.setIfInBounds_toArray, List.set_cons_succ, List.set_cons_zero]
    go_wp2_with fail
    refine bodyPost_ret (v := .tuple #[.agg #[.int .i64 (ep + 1), .slice Z1 (L.length + 1) z1, .slice Z2 (L.length + 1) z2, .slice Z3 (L.length + 1) z3], .int .i64 0]) (by simp [results, Tryz.results48, go_sem, z0, y1, y2, y3]) rfl ⟨_, _, _, rfl, HVE.out, HBE.out⟩
theorem with_ok (w : World) (F : Nat → Prop) (ep : Int) (L : List Nd) (a b c : Value) (h : VwSl w F L a b c) (hr : RightV ⟨ep, L⟩) (node boot : Int) (g1 : 1 ≤ node) (g2 : node ≤ 100) (g3 : 0 ≤ boot) (g4 : boot ≤ 274877906944)
    (g5 : node ∉ L.map Nd.node) (g6 : L.length ≠ 6) (g7 : ep ≠ 274877906944) :
    Calls Tryz.prog 48 #[.agg #[.int .i64 ep, a, b, c], .int .i64 node, .int .i64 boot] w fun e w' => ∃ a' b' c', e = .returned (.tuple #[.agg #[.int .i64 (ep + 1), a', b', c'], .int .i64 0]) ∧ VwSl w' (fun k => w.heap.size ≤ k) ((⟨ep, L⟩ : Vw).withN node boot).L a' b' c' ∧ Below w.heap.size w w' :=
  with_ok' w (fun k => k < w.heap.size) (fun _ h => h) ep L a b c (h.mono (F' := fun k => k < w.heap.size) fun _ hk _ => hk) hr node boot g1 g2 g3 g4 g5 g6 g7
end Go.Proofs.YtoegdpcfhmjnaaaGreatDoor
