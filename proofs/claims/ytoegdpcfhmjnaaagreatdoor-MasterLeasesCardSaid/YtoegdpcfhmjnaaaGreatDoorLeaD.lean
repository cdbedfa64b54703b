/- MasterLeases: what the law keeps, in plain words. Under the stated premises on sizes. -/
import Derived.Test.YtoegdpcfhmjnaaaGreatDoorVwD
import Derived.Test.YtoegdpcfhmjnaaaGreatDoorMstK
import Derived.Test.YtoegdpcfhmjnaaaGreatDoorVwG
import Derived.Test.YtoegdpcfhmjnaaaGreatDoorMstU
import Derived.Test.YtoegdpcfhmjnaaaGreatDoorLeaA
import Derived.Test.YtoegdpcfhmjnaaaGreatDoorMstL
/- Views: with one node more. Under the stated premises on sizes. -/
namespace Go.Proofs.YtoegdpcfhmjnaaaGreatDoor
open Go.RowKit Go.Bl
attribute [local go_sem ↓] Go.wp_at_zero Go.wp_at_succ

def zeroVw : Value := .agg #[.int .i64 0, .slice none 0 0, .slice none 0 0, .slice none 0 0]
set_option maxRecDepth 20000 in
set_option maxHeartbeats 4000000 in
theorem with_no (w : World) (F : Nat → Prop) (ep : Int) (L : List Nd) (a b c : Value) (h : VwSl w F L a b c) (hr : RightV ⟨ep, L⟩) (node boot : Int) (g1 : 1 ≤ node) (g2 : node ≤ 100) (g3 : 0 ≤ boot) (g4 : boot ≤ 274877906944)
    (hx : node ∈ L.map Nd.node ∨ L.length = 6 ∨ ep = 274877906944) :
    Calls Tryz.prog 48 #[.agg #[.int .i64 ep, a, b, c], .int .i64 node, .int .i64 boot] w fun e w' => ∃ er : Int, er ≠ 0 ∧ e = .returned (.tuple #[zeroVw, .int .i64 er]) ∧ Below w.heap.size w w' := by
  have hL := hr.n1
  have hL6 := hr.n2
  change 1 ≤ L.length at hL
  change L.length ≤ 6 at hL6
  obtain ⟨qa, oa, ca, qb, ob, cb, qc, oc, cc, rfl, rfl, rfl, hca, hcm, hcb, hcc⟩ := h.some_ hL
  have d1 : decide (node < 1) = false := decide_eq_false (by omega)
  have d2 : decide (100 < node) = false := decide_eq_false (by omega)
  have d3 : decide (boot < 0) = false := decide_eq_false (by omega)
  have d4 : decide (274877906944 < boot) = false := decide_eq_false (by omega)
  have hB0 : Below w.heap.size w ((w.alloc (.cells #[.int .i64 ep, .slice (some ⟨qa, oa, none⟩) L.length ca, .slice (some ⟨qb, ob, none⟩) L.length cb, .slice (some ⟨qc, oc, none⟩) L.length cc] 45)).alloc (.cells #[.int .i64 0, .slice none 0 0, .slice none 0 0, .slice none 0 0] 45)) := ((Below.refl _ w).alloc (Nat.le_refl _) _).alloc (by simp) _
  have hb1 : ((w.alloc (.cells #[.int .i64 ep, .slice (some ⟨qa, oa, none⟩) L.length ca, .slice (some ⟨qb, ob, none⟩) L.length cb, .slice (some ⟨qc, oc, none⟩) L.length cc] 45)).alloc (.cells #[.int .i64 0, .slice none 0 0, .slice none 0 0, .slice none 0 0] 45)).heap[w.heap.size]? = some (.cells #[.int .i64 ep, .slice (some ⟨qa, oa, none⟩) L.length ca, .slice (some ⟨qb, ob, none⟩) L.length cb, .slice (some ⟨qc, oc, none⟩) L.length cc] 45 (0, 0)) := (Below.heap_alloc _ _ _ (by simp)).trans (heap_alloc_new w _)
  have hb2 : ((w.alloc (.cells #[.int .i64 ep, .slice (some ⟨qa, oa, none⟩) L.length ca, .slice (some ⟨qb, ob, none⟩) L.length cb, .slice (some ⟨qc, oc, none⟩) L.length cc] 45)).alloc (.cells #[.int .i64 0, .slice none 0 0, .slice none 0 0, .slice none 0 0] 45)).heap[w.heap.size + 1]? = some (.cells #[.int .i64 0, .slice none 0 0, .slice none 0 0, .slice none 0 0] 45 (0, 0)) := by
    have := heap_alloc_new (w.alloc (.cells #[.int .i64 ep, .slice (some ⟨qa, oa, none⟩) L.length ca, .slice (some ⟨qb, ob, none⟩) L.length cb, .slice (some ⟨qc, oc, none⟩) L.length cc] 45)) (.cells #[.int .i64 0, .slice none 0 0, .slice none 0 0, .slice none 0 0] 45)
    rw [World.size_alloc] at this
    exact this
  have H := Lib.hid h
  clear h
  have HR := Lib.hid hr
  have HX := Lib.hid hx
  clear hr hx
  go_enter Tryz.func48, Tryz.ntmps48
  go_upto_region 1 with (fail)
  generalize (w.alloc (.cells #[.int .i64 ep, .slice (some ⟨qa, oa, none⟩) L.length ca, .slice (some ⟨qb, ob, none⟩) L.length cb, .slice (some ⟨qc, oc, none⟩) L.length cc] 45)).alloc (.cells #[.int .i64 0, .slice none 0 0, .slice none 0 0, .slice none 0 0] 45) = w0 at hB0 hb1 hb2 ⊢
  obtain ⟨q, hq⟩ : ∃ q, w.heap.size = q := ⟨_, rfl⟩
  have HQ := Lib.hid hq
  rw [hq] at hb1 hb2 ⊢
  obtain ⟨r, hr⟩ : ∃ r, q + 1 = r := ⟨_, rfl⟩
  rw [hr] at hb2 ⊢
  have hqr : q < r := by omega
  have HB0 := Lib.hid hB0
  have HV0 := Lib.hid (H.out.fresh HB0.out)
  have HK1 := Lib.hid hb1
  have HK2 := Lib.hid hb2
  clear hq hr hb1 hb2 hB0 H
  have c0 : w0.cell? ⟨q, 0, none⟩ = some (.int .i64 ep) := cell_of_row w0 q 0 _ _ _ HK1.out
  have c1 : w0.cell? ⟨q, 1, none⟩ = some (.slice (some ⟨qa, oa, none⟩) L.length ca) := cell_of_row w0 q 1 _ _ _ HK1.out
  have c2 : w0.cell? ⟨q, 2, none⟩ = some (.slice (some ⟨qb, ob, none⟩) L.length cb) := cell_of_row w0 q 2 _ _ _ HK1.out
  have c3 : w0.cell? ⟨q, 3, none⟩ = some (.slice (some ⟨qc, oc, none⟩) L.length cc) := cell_of_row w0 q 3 _ _ _ HK1.out
  go_wp2_with fail
  refine (right_any w0 F ep L _ _ _ HV0.out).mono ?_
  rintro e wa ⟨rfl, hBa⟩
  rw [rightV_iff.2 HR.out]
  have hq0 : q < w0.heap.size := (Array.getElem?_eq_some_iff.1 HK1.out).1
  have hr0 : r < w0.heap.size := (Array.getElem?_eq_some_iff.1 HK2.out).1
  have c0 := (hBa.cell (p := ⟨q, 0, none⟩) hq0).trans c0
  have c1 := (hBa.cell (p := ⟨q, 1, none⟩) hq0).trans c1
  have c2 := (hBa.cell (p := ⟨q, 2, none⟩) hq0).trans c2
  have c3 := (hBa.cell (p := ⟨q, 3, none⟩) hq0).trans c3
  have HBa := Lib.hid hBa
  clear hBa
  go_wp2_with fail
  refine (place_any wa F ep L _ _ _ (HV0.out.fresh HBa.out) HR.out node).mono ?_
  rintro e w1 ⟨rfl, hB1⟩
  have hix := (idxI_bd node 0 (L.map Nd.node) (Int.le_refl _)).2.2
  obtain ⟨ix, hixe⟩ : ∃ ix, ix = idxI node 0 (L.map Nd.node) := ⟨_, rfl⟩
  rw [← hixe] at hix ⊢
  have hBa1 : Below w0.heap.size w0 w1 := HBa.out.trans (hB1.mono HBa.out.size)
  have HL1 := Lib.hid ((hBa1.block q hq0).trans HK1.out)
  have HL2 := Lib.hid ((hBa1.block r hr0).trans HK2.out)
  have HB1 := Lib.hid (HB0.out.trans (hBa1.mono HB0.out.size))
  have HV := Lib.hid (HV0.out.fresh hBa1)
  clear hB1 hBa1 c0 c1 c2 c3 hixe
  have hq1 : q < w1.heap.size := (Array.getElem?_eq_some_iff.1 HL1.out).1
  have hr1 : r < w1.heap.size := (Array.getElem?_eq_some_iff.1 HL2.out).1
  have c0 : w1.cell? ⟨q, 0, none⟩ = some (.int .i64 ep) := cell_of_row w1 q 0 _ _ _ HL1.out
  have c1 : w1.cell? ⟨q, 1, none⟩ = some (.slice (some ⟨qa, oa, none⟩) L.length ca) := cell_of_row w1 q 1 _ _ _ HL1.out
  have c2 : w1.cell? ⟨q, 2, none⟩ = some (.slice (some ⟨qb, ob, none⟩) L.length cb) := cell_of_row w1 q 2 _ _ _ HL1.out
  have c3 : w1.cell? ⟨q, 3, none⟩ = some (.slice (some ⟨qc, oc, none⟩) L.length cc) := cell_of_row w1 q 3 _ _ _ HL1.out
  have r0 : w1.cell? ⟨r, 0, none⟩ = some (.int .i64 0) := cell_of_row w1 r 0 _ _ _ HL2.out
  have r1 : w1.cell? ⟨r, 1, none⟩ = some (.slice none 0 0) := cell_of_row w1 r 1 _ _ _ HL2.out
  have r2 : w1.cell? ⟨r, 2, none⟩ = some (.slice none 0 0) := cell_of_row w1 r 2 _ _ _ HL2.out
  have r3 : w1.cell? ⟨r, 3, none⟩ = some (.slice none 0 0) := cell_of_row w1 r 3 _ _ _ HL2.out
  have g0 := frozen_block HL2.out 0
  have g1 := frozen_block HL2.out 1
  have g2 := frozen_block HL2.out 2
  have g3 := frozen_block HL2.out 3
  by_cases g5 : node ∈ L.map Nd.node
  · have d5 : decide ((0 : Int) ≤ ix) = true := decide_eq_true (hix.2 g5)
    clear hix g5 HX
    go_wp2_with fail
    have hb4 := four_block HL2.out (.int .i64 0) (.slice none 0 0) (.slice none 0 0) (.slice none 0 0)
    have hBe := Below.keep HB1.out (four_keeps w1 r (.int .i64 0) (.slice none 0 0) (.slice none 0 0) (.slice none 0 0)) HB1.out.size (fun k e => by have := HQ.out; have e2 : k = r := e; omega)
    generalize ((((w1.setCell ⟨r, 0, none⟩ (.int .i64 0)).setCell ⟨r, 1, none⟩ (.slice none 0 0)).setCell ⟨r, 2, none⟩ (.slice none 0 0)).setCell ⟨r, 3, none⟩ (.slice none 0 0)) = w5 at hb4 hBe ⊢
    have z0 := cell_of_row w5 r 0 _ _ _ hb4
    have z1 := cell_of_row w5 r 1 _ _ _ hb4
    have z2 := cell_of_row w5 r 2 _ _ _ hb4
    have z3 := cell_of_row w5 r 3 _ _ _ hb4
    refine bodyPost_ret (v := .tuple #[.agg #[.int .i64 0, .slice none 0 0, .slice none 0 0, .slice none 0 0], .int .i64 7]) (by simp [results, Tryz.results48, go_sem, z0, z1, z2, z3]) rfl ⟨7, by decide, rfl, hBe⟩
  have d5 : decide ((0 : Int) ≤ ix) = false := decide_eq_false (fun e => g5 (hix.1 e))
  clear hix
  by_cases g6 : L.length = 6
  · have d6 : ((L.length : Int) == 6) = true := by rw [beq_iff_eq]; omega
    clear g5 g6 HX
    go_wp2_with fail
    have hb4 := four_block HL2.out (.int .i64 0) (.slice none 0 0) (.slice none 0 0) (.slice none 0 0)
    have hBe := Below.keep HB1.out (four_keeps w1 r (.int .i64 0) (.slice none 0 0) (.slice none 0 0) (.slice none 0 0)) HB1.out.size (fun k e => by have := HQ.out; have e2 : k = r := e; omega)
    generalize ((((w1.setCell ⟨r, 0, none⟩ (.int .i64 0)).setCell ⟨r, 1, none⟩ (.slice none 0 0)).setCell ⟨r, 2, none⟩ (.slice none 0 0)).setCell ⟨r, 3, none⟩ (.slice none 0 0)) = w5 at hb4 hBe ⊢
    have z0 := cell_of_row w5 r 0 _ _ _ hb4
    have z1 := cell_of_row w5 r 1 _ _ _ hb4
    have z2 := cell_of_row w5 r 2 _ _ _ hb4
    have z3 := cell_of_row w5 r 3 _ _ _ hb4
    refine bodyPost_ret (v := .tuple #[.agg #[.int .i64 0, .slice none 0 0, .slice none 0 0, .slice none 0 0], .int .i64 4]) (by simp [results, Tryz.results48, go_sem, z0, z1, z2, z3]) rfl ⟨4, by decide, rfl, hBe⟩
  have d6 : ((L.length : Int) == 6) = false := by rw [beq_eq_false_iff_ne]; omega
  have g7 := (HX.out.resolve_left g5).resolve_left g6
  have d7 : (ep == 274877906944) = true := by rw [beq_iff_eq]; exact g7
  clear g5 g6 g7 HX
  go_wp2_with fail
  have hb4 := four_block HL2.out (.int .i64 0) (.slice none 0 0) (.slice none 0 0) (.slice none 0 0)
  have hBe := Below.keep HB1.out (four_keeps w1 r (.int .i64 0) (.slice none 0 0) (.slice none 0 0) (.slice none 0 0)) HB1.out.size (fun k e => by have := HQ.out; have e2 : k = r := e; omega)
  generalize ((((w1.setCell ⟨r, 0, none⟩ (.int .i64 0)).setCell ⟨r, 1, none⟩ (.slice none 0 0)).setCell ⟨r, 2, none⟩ (.slice none 0 0)).setCell ⟨r, 3, none⟩ (.slice none 0 0)) = w5 at hb4 hBe ⊢
  have z0 := cell_of_row w5 r 0 _ _ _ hb4
  have z1 := cell_of_row w5 r 1 _ _ _ hb4
  have z2 := cell_of_row w5 r 2 _ _ _ hb4
  have z3 := cell_of_row w5 r 3 _ _ _ hb4
  refine bodyPost_ret (v := .tuple #[.agg #[.int .i64 0, .slice none 0 0, .slice none 0 0, .slice none 0 0], .int .i64 4]) (by simp [results, Tryz.results48, go_sem, z0, z1, z2, z3]) rfl ⟨4, by decide, rfl, hBe⟩

/-- A call of a function of one argument, amid a region. -/
theorem wpOp_callx {P : Program} {l : List Oper} {i : Nat} {o : Oper} {b : Act} {u : World} {K : Act → World → Prop} {Q : Exit → Act → World → Prop} (f : FuncId) (s : Nat) (t : TypeId) (v : Value) (ho : l[i]? = some o) (hg : o.guard = none)
    (hop : o.op = .call { callee := .value (.func f), args := #[.tmp s], argTypes := #[t] }) (hb : b.eval (.tmp s) = v) (hcf : (callFunc f #[v]).run P u = .ok (.enter f #[v]) u) (hc : Calls P f #[v] u fun e w' => ∃ r, e = .returned r ∧ K (b.put ((l[i]?).bind (·.dst)) r) w') : wpOp P l.toArray Q i K b u := by
  rw [ho] at hc
  refine wpOp_of (o := o) (by simpa using ho) ?_
  rw [if_pos (by simp [Region.wanted, hg])]
  have hrun : (execOp b.eval o).run P u = .ok (.enter f #[v]) u := by
    have hb' : (b.tmps[s]?).getD undef = v := by rw [← Array.getD_eq_getD_getElem?]; exact hb
    clear hb hc
    unfold execOp
    rw [hop]
    go_simp
  unfold Oper.wp
  rw [hrun, Oper.upon_enter]
  refine hc.mono fun e w'' hh => ?_
  obtain ⟨r, rfl, hK⟩ := hh
  exact hK
/-- Amid With's last region: what is made already. -/
structure JW (w1 : World) (r : Nat) (ep : Int) (L1 L2 L3 : List Int) (n1 n3 : Int) (β : Nat → Bool) (X : Nat → Value) (u : World) : Prop where
  rows : Rows3 u w1.heap.size ⟨β 5, β 7, β 8, X 53, X 54, X 51, L1, n1⟩ ⟨β 11, β 15, β 16, X 61, X 62, X 57, L2, ep + 1⟩ ⟨β 19, β 21, β 22, X 67, X 68, X 65, L3, n3⟩
  k : Keeps (fun k => k = r) w1 u
  c : u.heap[r]? = some (.cells #[if β 24 = true then .int .i64 (ep + 1) else .int .i64 0, if β 24 = true then X 54 else .slice none 0 0, if β 24 = true then X 62 else .slice none 0 0, if β 24 = true then X 68 else .slice none 0 0] 45 (0, 0))
  w8 : β 8 = true → β 5 = true ∧ β 7 = true
  w11 : β 11 = true → β 8 = true
  w16 : β 16 = true → β 11 = true ∧ β 15 = true
  w19 : β 19 = true → β 16 = true
  w22 : β 22 = true → β 19 = true ∧ β 21 = true
  p23 : β 23 = true → β 22 = true ∧ X 69 = .agg #[.int .i64 (ep + 1), X 54, X 62, X 68]
  i24 : β 24 = true → β 23 = true
  w25 : β 25 = true → β 24 = true ∧ X 7 = .int .i64 0
section
variable {w1 : World} {r : Nat} {ep : Int} {L1 L2 L3 : List Int} {n1 n3 : Int} {β : Nat → Bool} {X : Nat → Value} {u u' : World}
theorem JW.a16 (h : JW w1 r ep L1 L2 L3 n1 n3 β X u) (e : β 24 = true) : β 16 = true ∧ β 22 = true := by
  have h22 := (h.p23 (h.i24 e)).1
  exact ⟨h.w19 (h.w22 h22).1, h22⟩
theorem JW.all22 (h : JW w1 r ep L1 L2 L3 n1 n3 β X u) (e : β 22 = true) : β 5 = true ∧ β 7 = true ∧ β 8 = true ∧ β 11 = true ∧ β 15 = true ∧ β 16 = true ∧ β 19 = true ∧ β 21 = true := by
  have h1 := h.w22 e
  have h2 := h.w16 (h.w19 h1.1)
  have h3 := h.w11 h2.1
  exact ⟨(h.w8 h3).1, (h.w8 h3).2, h3, h2.1, h2.2, h.w19 h1.1, h1.1, h1.2⟩
theorem JW.early (h : JW w1 r ep L1 L2 L3 n1 n3 β X u) (h24 : β 24 = false) : u.heap[r]? = some (.cells #[.int .i64 0, .slice none 0 0, .slice none 0 0, .slice none 0 0] 45 (0, 0)) := by
  have := h.c
  rw [h24] at this
  exact this
theorem JW.held (h : JW w1 r ep L1 L2 L3 n1 n3 β X u) {q o : Nat} {v : Value} (hq : q < r) (hc : w1.cell? ⟨q, o, none⟩ = some v) : u.cell? ⟨q, o, none⟩ = some v := (h.k.cell (a := ⟨q, o, none⟩) (World.block_lt_of_cell? _ _ hc) (fun e => by have : q = r := e; omega)).trans hc
theorem cells_keep {G : Nat → Prop} {a b c d : Value} {t : TypeId} (h : u.heap[r]? = some (.cells #[a, b, c, d] t (0, 0))) (hk : Keeps G u u') (hG : ¬ G r) : u'.heap[r]? = some (.cells #[a, b, c, d] t (0, 0)) := hk.grownTo h hG
theorem JW.come1 {v : Value} {b2 : Nat} (h : JW w1 r ep L1 L2 L3 n1 n3 β X u) (ha : β 8 = false) (h24 : β 24 = false) (ho : Go.Bl.Own u' b2 3 1 intc v L1) (hb2 : u.heap.size ≤ b2) (hB : Below u.heap.size u u') : JW w1 r ep L1 L2 L3 n1 n3 (fun k => decide (k = 5) || β k) (newX (some 51) v X) u' := by
  have hc := h.early h24
  refine ⟨(h.rows.come1 ha ho hb2 h.k.size hB), h.k.trans (Keeps.of_fresh hB _), ?_, (fun e => ⟨rfl, (h.w8 e).2⟩), h.w11, h.w16, h.w19, h.w22, h.p23, h.i24, (fun e => by rw [show (decide (25 = 5) || β 25) = β 25 from rfl] at e; have := (h.w25 e).1; rw [h24] at this; cases this)⟩
  rw [show (decide (24 = 5) || β 24) = false from h24]
  exact (hB.block r (Array.getElem?_eq_some_iff.1 hc).1).trans hc
theorem JW.come2 {v : Value} {b2 : Nat} (h : JW w1 r ep L1 L2 L3 n1 n3 β X u) (ha : β 16 = false) (hp : β 8 = true) (h24 : β 24 = false) (ho : Go.Bl.Own u' b2 3 1 intc v L2) (hb2 : u.heap.size ≤ b2) (hB : Below u.heap.size u u') : JW w1 r ep L1 L2 L3 n1 n3 (fun k => decide (k = 11) || β k) (newX (some 57) v X) u' := by
  have hc := h.early h24
  refine ⟨(h.rows.rot.come1 ha ho hb2 h.k.size hB).rot.rot, h.k.trans (Keeps.of_fresh hB _), ?_, h.w8, (fun _ => hp), (fun e => ⟨rfl, (h.w16 e).2⟩), h.w19, h.w22, h.p23, h.i24, (fun e => by rw [show (decide (25 = 11) || β 25) = β 25 from rfl] at e; have := (h.w25 e).1; rw [h24] at this; cases this)⟩
  rw [show (decide (24 = 11) || β 24) = false from h24]
  exact (hB.block r (Array.getElem?_eq_some_iff.1 hc).1).trans hc
theorem JW.come3 {v : Value} {b2 : Nat} (h : JW w1 r ep L1 L2 L3 n1 n3 β X u) (ha : β 22 = false) (hp : β 16 = true) (h24 : β 24 = false) (ho : Go.Bl.Own u' b2 3 1 intc v L3) (hb2 : u.heap.size ≤ b2) (hB : Below u.heap.size u u') : JW w1 r ep L1 L2 L3 n1 n3 (fun k => decide (k = 19) || β k) (newX (some 65) v X) u' := by
  have hc := h.early h24
  refine ⟨(h.rows.rot.rot.come1 ha ho hb2 h.k.size hB).rot, h.k.trans (Keeps.of_fresh hB _), ?_, h.w8, h.w11, h.w16, (fun _ => hp), (fun e => ⟨rfl, (h.w22 e).2⟩), h.p23, h.i24, (fun e => by rw [show (decide (25 = 19) || β 25) = β 25 from rfl] at e; have := (h.w25 e).1; rw [h24] at this; cases this)⟩
  rw [show (decide (24 = 19) || β 24) = false from h24]
  exact (hB.block r (Array.getElem?_eq_some_iff.1 hc).1).trans hc
theorem JW.build1 (h : JW w1 r ep L1 L2 L3 n1 n3 β X u) (ha : β 8 = false) (h24 : β 24 = false) : JW w1 r ep L1 L2 L3 n1 n3 (fun k => decide (k = 7) || β k) (newX (some 53) (.slice (some ⟨u.heap.size, 0, none⟩) 1 1) X) (u.alloc (.cells #[.int .i64 n1] 3)) := by
  have hc := h.early h24
  refine ⟨(h.rows.build1 ha h.k.size), h.k.alloc _, ?_, (fun e => ⟨(h.w8 e).1, rfl⟩), h.w11, h.w16, h.w19, h.w22, h.p23, h.i24, (fun e => by rw [show (decide (25 = 7) || β 25) = β 25 from rfl] at e; have := (h.w25 e).1; rw [h24] at this; cases this)⟩
  rw [show (decide (24 = 7) || β 24) = false from h24]
  exact (Below.heap_alloc _ _ _ (Array.getElem?_eq_some_iff.1 hc).1).trans hc
theorem JW.build2 (h : JW w1 r ep L1 L2 L3 n1 n3 β X u) (ha : β 16 = false) (h24 : β 24 = false) : JW w1 r ep L1 L2 L3 n1 n3 (fun k => decide (k = 15) || β k) (newX (some 61) (.slice (some ⟨u.heap.size, 0, none⟩) 1 1) X) (u.alloc (.cells #[.int .i64 (ep + 1)] 3)) := by
  have hc := h.early h24
  refine ⟨(h.rows.rot.build1 ha h.k.size).rot.rot, h.k.alloc _, ?_, h.w8, h.w11, (fun e => ⟨(h.w16 e).1, rfl⟩), h.w19, h.w22, h.p23, h.i24, (fun e => by rw [show (decide (25 = 15) || β 25) = β 25 from rfl] at e; have := (h.w25 e).1; rw [h24] at this; cases this)⟩
  rw [show (decide (24 = 15) || β 24) = false from h24]
  exact (Below.heap_alloc _ _ _ (Array.getElem?_eq_some_iff.1 hc).1).trans hc
theorem JW.build3 (h : JW w1 r ep L1 L2 L3 n1 n3 β X u) (ha : β 22 = false) (h24 : β 24 = false) : JW w1 r ep L1 L2 L3 n1 n3 (fun k => decide (k = 21) || β k) (newX (some 67) (.slice (some ⟨u.heap.size, 0, none⟩) 1 1) X) (u.alloc (.cells #[.int .i64 n3] 3)) := by
  have hc := h.early h24
  refine ⟨(h.rows.rot.rot.build1 ha h.k.size).rot, h.k.alloc _, ?_, h.w8, h.w11, h.w16, h.w19, (fun e => ⟨(h.w22 e).1, rfl⟩), h.p23, h.i24, (fun e => by rw [show (decide (25 = 21) || β 25) = β 25 from rfl] at e; have := (h.w25 e).1; rw [h24] at this; cases this)⟩
  rw [show (decide (24 = 21) || β 24) = false from h24]
  exact (Below.heap_alloc _ _ _ (Array.getElem?_eq_some_iff.1 hc).1).trans hc
theorem JW.got1 {v : Value} (h : JW w1 r ep L1 L2 L3 n1 n3 β X u) (ha : β 8 = false) (hcm : β 5 = true) (hf : β 7 = true) (h24 : β 24 = false) (h23 : β 23 = false) (hr : r < w1.heap.size) (ho : Go.Bl.Own u' w1.heap.size 3 1 intc v (L1 ++ [n1])) (hg : u.grownBy u' (X 51).ownBlock) (hat : AtOf u (X 51) v) : JW w1 r ep L1 L2 L3 n1 n3 (fun k => decide (k = 8) || β k) (newX (some 54) v X) u' := by
  have hb : ∀ k, (X 51).ownBlock = some k → w1.heap.size ≤ k := fun k e => (Own.lt (h.rows.r1.own0 hcm ha) k e).1
  have hc := h.early h24
  refine ⟨(h.rows.got1 ha hcm ho hg hat), h.k.grown hg (fun k e hk => by have := hb k e; omega), ?_, (fun _ => ⟨hcm, hf⟩), (fun _ => rfl), h.w16, h.w19, h.w22, (fun e => by rw [show (decide (23 = 8) || β 23) = β 23 from rfl, h23] at e; cases e), h.i24, (fun e => by rw [show (decide (25 = 8) || β 25) = β 25 from rfl] at e; have := (h.w25 e).1; rw [h24] at this; cases this)⟩
  rw [show (decide (24 = 8) || β 24) = false from h24]
  exact cells_keep hc (Keeps.of_grown hg) (fun e => by have := hb r e; omega)
theorem JW.got2 {v : Value} (h : JW w1 r ep L1 L2 L3 n1 n3 β X u) (ha : β 16 = false) (hcm : β 11 = true) (hf : β 15 = true) (h24 : β 24 = false) (h23 : β 23 = false) (hr : r < w1.heap.size) (ho : Go.Bl.Own u' w1.heap.size 3 1 intc v (L2 ++ [(ep + 1)])) (hg : u.grownBy u' (X 57).ownBlock) (hat : AtOf u (X 57) v) : JW w1 r ep L1 L2 L3 n1 n3 (fun k => decide (k = 16) || β k) (newX (some 62) v X) u' := by
  have hb : ∀ k, (X 57).ownBlock = some k → w1.heap.size ≤ k := fun k e => (Own.lt (h.rows.r2.own0 hcm ha) k e).1
  have hc := h.early h24
  refine ⟨(h.rows.rot.got1 ha hcm ho hg hat).rot.rot, h.k.grown hg (fun k e hk => by have := hb k e; omega), ?_, h.w8, h.w11, (fun _ => ⟨hcm, hf⟩), (fun _ => rfl), h.w22, (fun e => by rw [show (decide (23 = 16) || β 23) = β 23 from rfl, h23] at e; cases e), h.i24, (fun e => by rw [show (decide (25 = 16) || β 25) = β 25 from rfl] at e; have := (h.w25 e).1; rw [h24] at this; cases this)⟩
  rw [show (decide (24 = 16) || β 24) = false from h24]
  exact cells_keep hc (Keeps.of_grown hg) (fun e => by have := hb r e; omega)
theorem JW.got3 {v : Value} (h : JW w1 r ep L1 L2 L3 n1 n3 β X u) (ha : β 22 = false) (hcm : β 19 = true) (hf : β 21 = true) (h24 : β 24 = false) (h23 : β 23 = false) (hr : r < w1.heap.size) (ho : Go.Bl.Own u' w1.heap.size 3 1 intc v (L3 ++ [n3])) (hg : u.grownBy u' (X 65).ownBlock) (hat : AtOf u (X 65) v) : JW w1 r ep L1 L2 L3 n1 n3 (fun k => decide (k = 22) || β k) (newX (some 68) v X) u' := by
  have hb : ∀ k, (X 65).ownBlock = some k → w1.heap.size ≤ k := fun k e => (Own.lt (h.rows.r3.own0 hcm ha) k e).1
  have hc := h.early h24
  refine ⟨(h.rows.rot.rot.got1 ha hcm ho hg hat).rot, h.k.grown hg (fun k e hk => by have := hb k e; omega), ?_, h.w8, h.w11, h.w16, h.w19, (fun _ => ⟨hcm, hf⟩), (fun e => by rw [show (decide (23 = 22) || β 23) = β 23 from rfl, h23] at e; cases e), h.i24, (fun e => by rw [show (decide (25 = 22) || β 25) = β 25 from rfl] at e; have := (h.w25 e).1; rw [h24] at this; cases this)⟩
  rw [show (decide (24 = 22) || β 24) = false from h24]
  exact cells_keep hc (Keeps.of_grown hg) (fun e => by have := hb r e; omega)
theorem JW.aggd (h : JW w1 r ep L1 L2 L3 n1 n3 β X u) (h22 : β 22 = true) (h24 : β 24 = false) : JW w1 r ep L1 L2 L3 n1 n3 (fun k => decide (k = 23) || β k) (newX (some 69) (.agg #[.int .i64 (ep + 1), X 54, X 62, X 68]) X) u := by
  refine ⟨h.rows, h.k, h.c, h.w8, h.w11, h.w16, h.w19, h.w22, (fun _ => ⟨h22, rfl⟩), (fun _ => rfl), (fun e => by rw [show (decide (25 = 23) || β 25) = β 25 from rfl] at e; have := (h.w25 e).1; rw [h24] at this; cases this)⟩
theorem JW.stored (h : JW w1 r ep L1 L2 L3 n1 n3 β X u) (h23 : β 23 = true) (h24 : β 24 = false) (hr : r < w1.heap.size) : JW w1 r ep L1 L2 L3 n1 n3 (fun k => decide (k = 24) || β k) X ((((u.setCell ⟨r, 0, none⟩ (.int .i64 (ep + 1))).setCell ⟨r, 1, none⟩ (X 54)).setCell ⟨r, 2, none⟩ (X 62)).setCell ⟨r, 3, none⟩ (X 68)) := by
  have hk := four_keeps u r (.int .i64 (ep + 1)) (X 54) (X 62) (X 68)
  exact ⟨h.rows.keep hk (fun k e => by rw [show k = r from e]; exact hr), h.k.trans hk, four_block (h.early h24) _ _ _ _, h.w8, h.w11, h.w16, h.w19, h.w22, h.p23, (fun _ => h23), (fun e => by rw [show (decide (25 = 24) || β 25) = β 25 from rfl] at e; have := (h.w25 e).1; rw [h24] at this; cases this)⟩
theorem JW.ended (h : JW w1 r ep L1 L2 L3 n1 n3 β X u) (h24 : β 24 = true) : JW w1 r ep L1 L2 L3 n1 n3 (fun k => decide (k = 25) || β k) (newX (some 7) (.int .i64 0) X) u :=
  ⟨h.rows, h.k, h.c, h.w8, h.w11, h.w16, h.w19, h.w22, h.p23, h.i24, (fun _ => ⟨h24, rfl⟩)⟩
end
theorem RowAt.blank {u : World} {base : Nat} {xf xa r : Value} {L : List Int} {n : Int} : RowAt u base ⟨false, false, false, xf, xa, r, L, n⟩ := ⟨(fun (h : false = true) => by cases h), (fun (h : false = true) => by cases h), (fun (h : false = true) => by cases h)⟩
theorem Disj.blank {xf xa r : Value} {L : List Int} {n : Int} {R : RowD} : Disj ⟨false, false, false, xf, xa, r, L, n⟩ R := fun k h1 _ => by
  rcases h1 with ⟨h, _⟩ | ⟨h, _⟩ <;> cases h
set_option maxRecDepth 20000 in
set_option maxHeartbeats 8000000 in
theorem with_ok' (w : World) (F : Nat → Prop) (hF : ∀ k, F k → k < w.heap.size) (ep : Int) (L : List Nd) (a b c : Value) (h : VwSl w F L a b c) (hr : RightV ⟨ep, L⟩) (node boot : Int) (g1 : 1 ≤ node) (g2 : node ≤ 100) (g3 : 0 ≤ boot) (g4 : boot ≤ 274877906944)
    (g5 : node ∉ L.map Nd.node) (g6 : L.length ≠ 6) (g7 : ep ≠ 274877906944) :
    Calls Tryz.prog 48 #[.agg #[.int .i64 ep, a, b, c], .int .i64 node, .int .i64 boot] w fun e w' => ∃ a' b' c', e = .returned (.tuple #[.agg #[.int .i64 (ep + 1), a', b', c'], .int .i64 0]) ∧ VwSl w' (fun k => w.heap.size ≤ k) ((⟨ep, L⟩ : Vw).withN node boot).L a' b' c' ∧ Below w.heap.size w w' := by
  have hL := hr.n1
  have hL6 := hr.n2
  have he1 := hr.ep1
  have he2 := hr.ep2
  change 1 ≤ L.length at hL
  change L.length ≤ 6 at hL6
  change 1 ≤ ep at he1
  change ep ≤ 274877906944 at he2
  obtain ⟨qa, oa, ca, qb, ob, cb, qc, oc, cc, rfl, rfl, rfl, hca, hcm, hcb, hcc⟩ := h.some_ hL
  have d1 : decide (node < 1) = false := decide_eq_false (by omega)
  have d2 : decide (100 < node) = false := decide_eq_false (by omega)
  have d3 : decide (boot < 0) = false := decide_eq_false (by omega)
  have d4 : decide (274877906944 < boot) = false := decide_eq_false (by omega)
  have hB0 : Below w.heap.size w ((w.alloc (.cells #[.int .i64 ep, .slice (some ⟨qa, oa, none⟩) L.length ca, .slice (some ⟨qb, ob, none⟩) L.length cb, .slice (some ⟨qc, oc, none⟩) L.length cc] 45)).alloc (.cells #[.int .i64 0, .slice none 0 0, .slice none 0 0, .slice none 0 0] 45)) := ((Below.refl _ w).alloc (Nat.le_refl _) _).alloc (by simp) _
  have hb1 : ((w.alloc (.cells #[.int .i64 ep, .slice (some ⟨qa, oa, none⟩) L.length ca, .slice (some ⟨qb, ob, none⟩) L.length cb, .slice (some ⟨qc, oc, none⟩) L.length cc] 45)).alloc (.cells #[.int .i64 0, .slice none 0 0, .slice none 0 0, .slice none 0 0] 45)).heap[w.heap.size]? = some (.cells #[.int .i64 ep, .slice (some ⟨qa, oa, none⟩) L.length ca, .slice (some ⟨qb, ob, none⟩) L.length cb, .slice (some ⟨qc, oc, none⟩) L.length cc] 45 (0, 0)) := (Below.heap_alloc _ _ _ (by simp)).trans (heap_alloc_new w _)
  have hb2 : ((w.alloc (.cells #[.int .i64 ep, .slice (some ⟨qa, oa, none⟩) L.length ca, .slice (some ⟨qb, ob, none⟩) L.length cb, .slice (some ⟨qc, oc, none⟩) L.length cc] 45)).alloc (.cells #[.int .i64 0, .slice none 0 0, .slice none 0 0, .slice none 0 0] 45)).heap[w.heap.size + 1]? = some (.cells #[.int .i64 0, .slice none 0 0, .slice none 0 0, .slice none 0 0] 45 (0, 0)) := by
    have := heap_alloc_new (w.alloc (.cells #[.int .i64 ep, .slice (some ⟨qa, oa, none⟩) L.length ca, .slice (some ⟨qb, ob, none⟩) L.length cb, .slice (some ⟨qc, oc, none⟩) L.length cc] 45)) (.cells #[.int .i64 0, .slice none 0 0, .slice none 0 0, .slice none 0 0] 45)
    rw [World.size_alloc] at this
    exact this
  have H := Lib.hid h
  clear h
  have HR := Lib.hid hr
  have HF0 := Lib.hid hF
  clear hr hF
  go_enter Tryz.func48, Tryz.ntmps48
  go_upto_region 1 with (fail)
  generalize (w.alloc (.cells #[.int .i64 ep, .slice (some ⟨qa, oa, none⟩) L.length ca, .slice (some ⟨qb, ob, none⟩) L.length cb, .slice (some ⟨qc, oc, none⟩) L.length cc] 45)).alloc (.cells #[.int .i64 0, .slice none 0 0, .slice none 0 0, .slice none 0 0] 45) = w0 at hB0 hb1 hb2 ⊢
  obtain ⟨q, hq⟩ : ∃ q, w.heap.size = q := ⟨_, rfl⟩
  have HQ := Lib.hid hq
  rw [hq] at hb1 hb2 ⊢
  obtain ⟨r, hr⟩ : ∃ r, q + 1 = r := ⟨_, rfl⟩
  rw [hr] at hb2 ⊢
  have hqr : q < r := by omega
  have HB0 := Lib.hid hB0
  have HV0 := Lib.hid (H.out.fresh HB0.out)
  have HK1 := Lib.hid hb1
  have HK2 := Lib.hid hb2
  clear hq hr hb1 hb2 hB0 H
  have c0 : w0.cell? ⟨q, 0, none⟩ = some (.int .i64 ep) := cell_of_row w0 q 0 _ _ _ HK1.out
  have c1 : w0.cell? ⟨q, 1, none⟩ = some (.slice (some ⟨qa, oa, none⟩) L.length ca) := cell_of_row w0 q 1 _ _ _ HK1.out
  have c2 : w0.cell? ⟨q, 2, none⟩ = some (.slice (some ⟨qb, ob, none⟩) L.length cb) := cell_of_row w0 q 2 _ _ _ HK1.out
  have c3 : w0.cell? ⟨q, 3, none⟩ = some (.slice (some ⟨qc, oc, none⟩) L.length cc) := cell_of_row w0 q 3 _ _ _ HK1.out
  go_wp2_with fail
  refine (right_any w0 F ep L _ _ _ HV0.out).mono ?_
  rintro e wa ⟨rfl, hBa⟩
  rw [rightV_iff.2 HR.out]
  have hq0 : q < w0.heap.size := (Array.getElem?_eq_some_iff.1 HK1.out).1
  have hr0 : r < w0.heap.size := (Array.getElem?_eq_some_iff.1 HK2.out).1
  have c0 := (hBa.cell (p := ⟨q, 0, none⟩) hq0).trans c0
  have c1 := (hBa.cell (p := ⟨q, 1, none⟩) hq0).trans c1
  have c2 := (hBa.cell (p := ⟨q, 2, none⟩) hq0).trans c2
  have c3 := (hBa.cell (p := ⟨q, 3, none⟩) hq0).trans c3
  have HBa := Lib.hid hBa
  clear hBa
  go_wp2_with fail
  refine (place_any wa F ep L _ _ _ (HV0.out.fresh HBa.out) HR.out node).mono ?_
  rintro e w1 ⟨rfl, hB1⟩
  have hix := (idxI_bd node 0 (L.map Nd.node) (Int.le_refl _)).2.2
  obtain ⟨ix, hixe⟩ : ∃ ix, ix = idxI node 0 (L.map Nd.node) := ⟨_, rfl⟩
  rw [← hixe] at hix ⊢
  have hBa1 : Below w0.heap.size w0 w1 := HBa.out.trans (hB1.mono HBa.out.size)
  have HL1 := Lib.hid ((hBa1.block q hq0).trans HK1.out)
  have HL2 := Lib.hid ((hBa1.block r hr0).trans HK2.out)
  have HB1 := Lib.hid (HB0.out.trans (hBa1.mono HB0.out.size))
  have HV := Lib.hid (HV0.out.fresh hBa1)
  clear hB1 hBa1 c0 c1 c2 c3 hixe
  have hq1 : q < w1.heap.size := (Array.getElem?_eq_some_iff.1 HL1.out).1
  have hr1 : r < w1.heap.size := (Array.getElem?_eq_some_iff.1 HL2.out).1
  have c0 : w1.cell? ⟨q, 0, none⟩ = some (.int .i64 ep) := cell_of_row w1 q 0 _ _ _ HL1.out
  have c1 : w1.cell? ⟨q, 1, none⟩ = some (.slice (some ⟨qa, oa, none⟩) L.length ca) := cell_of_row w1 q 1 _ _ _ HL1.out
  have c2 : w1.cell? ⟨q, 2, none⟩ = some (.slice (some ⟨qb, ob, none⟩) L.length cb) := cell_of_row w1 q 2 _ _ _ HL1.out
  have c3 : w1.cell? ⟨q, 3, none⟩ = some (.slice (some ⟨qc, oc, none⟩) L.length cc) := cell_of_row w1 q 3 _ _ _ HL1.out
  have r0 : w1.cell? ⟨r, 0, none⟩ = some (.int .i64 0) := cell_of_row w1 r 0 _ _ _ HL2.out
  have r1 : w1.cell? ⟨r, 1, none⟩ = some (.slice none 0 0) := cell_of_row w1 r 1 _ _ _ HL2.out
  have r2 : w1.cell? ⟨r, 2, none⟩ = some (.slice none 0 0) := cell_of_row w1 r 2 _ _ _ HL2.out
  have r3 : w1.cell? ⟨r, 3, none⟩ = some (.slice none 0 0) := cell_of_row w1 r 3 _ _ _ HL2.out
  have g0 := frozen_block HL2.out 0
  have g1 := frozen_block HL2.out 1
  have g2 := frozen_block HL2.out 2
  have g3 := frozen_block HL2.out 3
  have d5 : decide ((0 : Int) ≤ ix) = false := decide_eq_false (fun e => g5 (hix.1 e))
  have d6 : ((L.length : Int) == 6) = false := by rw [beq_eq_false_iff_ne]; omega
  have d7 : (ep == 274877906944) = false := by rw [beq_eq_false_iff_ne]; exact g7
  have HFR : Hid (∀ k, F k → ¬ k = r) := Lib.hid fun k hk e => by have := HF0.out k hk; have := HQ.out; omega
  clear hix g5 g6
  go_upto_region 7 with (fail)
  have hwr : IntKind.i64.wrap (ep + 1) = ep + 1 := IntWalk.i64_in _ (by omega)
  have held : ∀ β X u, JW w1 r ep (L.map Nd.node) (L.map Nd.since) (L.map Nd.boot) node boot β X u → (u.cell? ⟨q, 0, none⟩ = some (.int .i64 ep) ∧ u.cell? ⟨q, 1, none⟩ = some (.slice (some ⟨qa, oa, none⟩) L.length ca) ∧ u.cell? ⟨q, 2, none⟩ = some (.slice (some ⟨qb, ob, none⟩) L.length cb) ∧ u.cell? ⟨q, 3, none⟩ = some (.slice (some ⟨qc, oc, none⟩) L.length cc)) := fun β X u hJ => ⟨hJ.held hqr c0, hJ.held hqr c1, hJ.held hqr c2, hJ.held hqr c3⟩
  refine wp_region_noPanic ?_
  refine region_kept 24 [0, 1, 2, 3, 4, 6, 9, 10, 12, 13, 14, 17, 18, 20] [5, 7, 8, 11, 15, 16, 19, 21, 22, 23, 24, 25] [51, 53, 54, 57, 61, 62, 65, 67, 68, 69, 7]
    (fun z => z.cell? ⟨q, 0, none⟩ = some (.int .i64 ep) ∧ z.cell? ⟨q, 1, none⟩ = some (.slice (some ⟨qa, oa, none⟩) L.length ca) ∧ z.cell? ⟨q, 2, none⟩ = some (.slice (some ⟨qb, ob, none⟩) L.length cb) ∧ z.cell? ⟨q, 3, none⟩ = some (.slice (some ⟨qc, oc, none⟩) L.length cc))
    (JW w1 r ep (L.map Nd.node) (L.map Nd.since) (L.map Nd.boot) node boot) (by kernel_rfl) (by kernel_rfl) (by kernel_rfl) (by decide) (by kernel_rfl) (fun _ _ _ _ h => h) ⟨c0, c1, c2, c3⟩
    ⟨.pointer (some ⟨q, 0, none⟩), .inl ⟨rfl, fun z hz => by (obtain ⟨z1, z2, z3, z4⟩ := hz; simp only [List.getElem?_toArray, List.getElem?_cons_zero, Option.getD_some]; go_simp)⟩,
      .int .i64 ep, .inl ⟨rfl, fun z hz => by (obtain ⟨z1, z2, z3, z4⟩ := hz; simp only [List.getElem?_toArray, List.getElem?_cons_succ, List.getElem?_cons_zero, Option.getD_some]; go_simp)⟩,
      .int .i64 (ep + 1), .inl ⟨rfl, fun z hz => by (obtain ⟨z1, z2, z3, z4⟩ := hz; simp only [List.getElem?_toArray, List.getElem?_cons_succ, List.getElem?_cons_zero, Option.getD_some]; go_simp)⟩,
      .pointer (some ⟨q, 1, none⟩), .inl ⟨rfl, fun z hz => by (obtain ⟨z1, z2, z3, z4⟩ := hz; simp only [List.getElem?_toArray, List.getElem?_cons_succ, List.getElem?_cons_zero, Option.getD_some]; go_simp)⟩,
      .slice (some ⟨qa, oa, none⟩) L.length ca, .inl ⟨rfl, fun z hz => by (obtain ⟨z1, z2, z3, z4⟩ := hz; simp only [List.getElem?_toArray, List.getElem?_cons_succ, List.getElem?_cons_zero, Option.getD_some]; go_simp)⟩,
      .int .i64 node, .inl ⟨rfl, fun z hz => by (obtain ⟨z1, z2, z3, z4⟩ := hz; simp only [List.getElem?_toArray, List.getElem?_cons_succ, List.getElem?_cons_zero, Option.getD_some]; go_simp)⟩,
      .pointer (some ⟨q, 2, none⟩), .inl ⟨rfl, fun z hz => by (obtain ⟨z1, z2, z3, z4⟩ := hz; simp only [List.getElem?_toArray, List.getElem?_cons_succ, List.getElem?_cons_zero, Option.getD_some]; go_simp)⟩,
      .slice (some ⟨qb, ob, none⟩) L.length cb, .inl ⟨rfl, fun z hz => by (obtain ⟨z1, z2, z3, z4⟩ := hz; simp only [List.getElem?_toArray, List.getElem?_cons_succ, List.getElem?_cons_zero, Option.getD_some]; go_simp)⟩,
      .pointer (some ⟨q, 0, none⟩), .inl ⟨rfl, fun z hz => by (obtain ⟨z1, z2, z3, z4⟩ := hz; simp only [List.getElem?_toArray, List.getElem?_cons_succ, List.getElem?_cons_zero, Option.getD_some]; go_simp)⟩,
      .int .i64 ep, .inl ⟨rfl, fun z hz => by (obtain ⟨z1, z2, z3, z4⟩ := hz; simp only [List.getElem?_toArray, List.getElem?_cons_succ, List.getElem?_cons_zero, Option.getD_some]; go_simp)⟩,
      .int .i64 (ep + 1), .inl ⟨rfl, fun z hz => by (obtain ⟨z1, z2, z3, z4⟩ := hz; simp only [List.getElem?_toArray, List.getElem?_cons_succ, List.getElem?_cons_zero, Option.getD_some]; go_simp)⟩,
      .pointer (some ⟨q, 3, none⟩), .inl ⟨rfl, fun z hz => by (obtain ⟨z1, z2, z3, z4⟩ := hz; simp only [List.getElem?_toArray, List.getElem?_cons_succ, List.getElem?_cons_zero, Option.getD_some]; go_simp)⟩,
      .slice (some ⟨qc, oc, none⟩) L.length cc, .inl ⟨rfl, fun z hz => by (obtain ⟨z1, z2, z3, z4⟩ := hz; simp only [List.getElem?_toArray, List.getElem?_cons_succ, List.getElem?_cons_zero, Option.getD_some]; go_simp)⟩,
      .int .i64 boot, .inl ⟨rfl, fun z hz => by (obtain ⟨z1, z2, z3, z4⟩ := hz; simp only [List.getElem?_toArray, List.getElem?_cons_succ, List.getElem?_cons_zero, Option.getD_some]; go_simp)⟩,
      rfl⟩ ?_ ?_ ?_
  · intro β X hβ
    have b := fun i (hi : i ∈ [5, 7, 8, 11, 15, 16, 19, 21, 22, 23, 24, 25]) => hβ i hi
    refine ⟨?_, (Keeps.refl _ w1).drew, ?_, ?_, ?_, ?_, ?_, ?_, ?_, ?_, ?_⟩
    · rw [b 5 (by decide), b 7 (by decide), b 8 (by decide), b 11 (by decide), b 15 (by decide), b 16 (by decide), b 19 (by decide), b 21 (by decide), b 22 (by decide)]
      exact ⟨.blank, .blank, .blank, .blank, .blank, .blank⟩
    · rw [b 24 (by decide)]
      exact HL2.out
    · rw [b 8 (by decide)]; intro h; cases h
    · rw [b 11 (by decide)]; intro h; cases h
    · rw [b 16 (by decide)]; intro h; cases h
    · rw [b 19 (by decide)]; intro h; cases h
    · rw [b 22 (by decide)]; intro h; cases h
    · rw [b 23 (by decide)]; intro h; cases h
    · rw [b 24 (by decide)]; intro h; cases h
    · rw [b 25 (by decide)]; intro h; cases h
  · intro i hi β X u hJ hb hdep b ho hx K hK
    simp only [List.mem_cons, List.not_mem_nil, or_false] at hi
    rcases hi with rfl | rfl | rfl | rfl | rfl | rfl | rfl | rfl | rfl | rfl | rfl | rfl
    · have h23 : β 23 = false := ff hb fun e => (hJ.all22 (hJ.p23 e).1).1
      have h24 : β 24 = false := ff h23 hJ.i24
      have ha : β 8 = false := ff hb fun e => (hJ.w8 e).1
      have e1 : b.eval (.tmp 50) = .slice (some ⟨qa, oa, none⟩) L.length ca := by rw [ho 50 (by decide)]; go_simp
      refine wpOp_callx 30 50 22 _ rfl rfl rfl e1 (by kernel_rfl) ((clone_some u qa oa L.length ca _ F (HV.out.ch.keep hJ.k (fun k _ hk e => HFR.out k hk e)) (by rw [List.length_map]; omega)).mono fun e w' h => ?_)
      obtain ⟨v, he, hO, _, hB⟩ := h
      exact ⟨v, he, hK v w' (fun _ => held _ _ _ (hJ.come1 ha h24 hO (Nat.le_refl _) hB)) (hJ.come1 ha h24 hO (Nat.le_refl _) hB)⟩
    · have h23 : β 23 = false := ff hb fun e => (hJ.all22 (hJ.p23 e).1).2.1
      have h24 : β 24 = false := ff h23 hJ.i24
      have ha : β 8 = false := ff hb fun e => (hJ.w8 e).2
      have e1 : b.eval (.tmp 52) = .int .i64 node := by rw [ho 52 (by decide)]; go_simp
      exact wpOp_one 52 node rfl rfl rfl e1 (hK _ _ (fun _ => held _ _ _ (hJ.build1 ha h24)) (hJ.build1 ha h24))
    · have h23 : β 23 = false := ff hb fun e => (hJ.all22 (hJ.p23 e).1).2.2.1
      have h24 : β 24 = false := ff h23 hJ.i24
      have hcm : β 5 = true := edge_came rfl hdep 5 (by kernel_rfl)
      have hf : β 7 = true := edge_came rfl hdep 7 (by kernel_rfl)
      have e1 : b.eval (.tmp 51) = X 51 := hx 51 (by decide) (by simp [Act.put])
      have e2 : b.eval (.tmp 53) = X 53 := hx 53 (by decide) (by simp [Act.put])
      refine wpOp_of rfl (elInt.step u rfl (.tmp 51) (.tmp 53) rfl w1.heap.size _ _ e1 (hJ.rows.r1.own0 hcm hb) _ _ [node] e2 (hJ.rows.r1.sl hf hb) (by rw [List.length_map, List.length_singleton]; omega) hJ.k.size fun v' u' h1 h2 h3 => ?_)
      exact hK _ _ (fun _ => held _ _ _ (hJ.got1 hb hcm hf h24 h23 hr1 h1 h2 h3)) (hJ.got1 hb hcm hf h24 h23 hr1 h1 h2 h3)
    · have h23 : β 23 = false := ff hb fun e => (hJ.all22 (hJ.p23 e).1).2.2.2.1
      have h24 : β 24 = false := ff h23 hJ.i24
      have ha : β 16 = false := ff hb fun e => (hJ.w16 e).1
      have hp : β 8 = true := edge_came rfl hdep 8 (by kernel_rfl)
      have e1 : b.eval (.tmp 56) = .slice (some ⟨qb, ob, none⟩) L.length cb := by rw [ho 56 (by decide)]; go_simp
      refine wpOp_callx 30 56 22 _ rfl rfl rfl e1 (by kernel_rfl) ((clone_some u qb ob L.length cb _ F (HV.out.si.keep hJ.k (fun k _ hk e => HFR.out k hk e)) (by rw [List.length_map]; omega)).mono fun e w' h => ?_)
      obtain ⟨v, he, hO, _, hB⟩ := h
      exact ⟨v, he, hK v w' (fun _ => held _ _ _ (hJ.come2 ha hp h24 hO (Nat.le_refl _) hB)) (hJ.come2 ha hp h24 hO (Nat.le_refl _) hB)⟩
    · have h23 : β 23 = false := ff hb fun e => (hJ.all22 (hJ.p23 e).1).2.2.2.2.1
      have h24 : β 24 = false := ff h23 hJ.i24
      have ha : β 16 = false := ff hb fun e => (hJ.w16 e).2
      have e1 : b.eval (.tmp 60) = .int .i64 (ep + 1) := by rw [ho 60 (by decide)]; go_simp
      exact wpOp_one 60 (ep + 1) rfl rfl rfl e1 (hK _ _ (fun _ => held _ _ _ (hJ.build2 ha h24)) (hJ.build2 ha h24))
    · have h23 : β 23 = false := ff hb fun e => (hJ.all22 (hJ.p23 e).1).2.2.2.2.2.1
      have h24 : β 24 = false := ff h23 hJ.i24
      have hcm : β 11 = true := edge_came rfl hdep 11 (by kernel_rfl)
      have hf : β 15 = true := edge_came rfl hdep 15 (by kernel_rfl)
      have e1 : b.eval (.tmp 57) = X 57 := hx 57 (by decide) (by simp [Act.put])
      have e2 : b.eval (.tmp 61) = X 61 := hx 61 (by decide) (by simp [Act.put])
      refine wpOp_of rfl (elInt.step u rfl (.tmp 57) (.tmp 61) rfl w1.heap.size _ _ e1 (hJ.rows.r2.own0 hcm hb) _ _ [(ep + 1)] e2 (hJ.rows.r2.sl hf hb) (by rw [List.length_map, List.length_singleton]; omega) hJ.k.size fun v' u' h1 h2 h3 => ?_)
      exact hK _ _ (fun _ => held _ _ _ (hJ.got2 hb hcm hf h24 h23 hr1 h1 h2 h3)) (hJ.got2 hb hcm hf h24 h23 hr1 h1 h2 h3)
    · have h23 : β 23 = false := ff hb fun e => (hJ.all22 (hJ.p23 e).1).2.2.2.2.2.2.1
      have h24 : β 24 = false := ff h23 hJ.i24
      have ha : β 22 = false := ff hb fun e => (hJ.w22 e).1
      have hp : β 16 = true := edge_came rfl hdep 16 (by kernel_rfl)
      have e1 : b.eval (.tmp 64) = .slice (some ⟨qc, oc, none⟩) L.length cc := by rw [ho 64 (by decide)]; go_simp
      refine wpOp_callx 30 64 22 _ rfl rfl rfl e1 (by kernel_rfl) ((clone_some u qc oc L.length cc _ F (HV.out.bo.keep hJ.k (fun k _ hk e => HFR.out k hk e)) (by rw [List.length_map]; omega)).mono fun e w' h => ?_)
      obtain ⟨v, he, hO, _, hB⟩ := h
      exact ⟨v, he, hK v w' (fun _ => held _ _ _ (hJ.come3 ha hp h24 hO (Nat.le_refl _) hB)) (hJ.come3 ha hp h24 hO (Nat.le_refl _) hB)⟩
    · have h23 : β 23 = false := ff hb fun e => (hJ.all22 (hJ.p23 e).1).2.2.2.2.2.2.2
      have h24 : β 24 = false := ff h23 hJ.i24
      have ha : β 22 = false := ff hb fun e => (hJ.w22 e).2
      have e1 : b.eval (.tmp 66) = .int .i64 boot := by rw [ho 66 (by decide)]; go_simp
      exact wpOp_one 66 boot rfl rfl rfl e1 (hK _ _ (fun _ => held _ _ _ (hJ.build3 ha h24)) (hJ.build3 ha h24))
    · have h23 : β 23 = false := ff hb fun e => (hJ.p23 e).1
      have h24 : β 24 = false := ff h23 hJ.i24
      have hcm : β 19 = true := edge_came rfl hdep 19 (by kernel_rfl)
      have hf : β 21 = true := edge_came rfl hdep 21 (by kernel_rfl)
      have e1 : b.eval (.tmp 65) = X 65 := hx 65 (by decide) (by simp [Act.put])
      have e2 : b.eval (.tmp 67) = X 67 := hx 67 (by decide) (by simp [Act.put])
      refine wpOp_of rfl (elInt.step u rfl (.tmp 65) (.tmp 67) rfl w1.heap.size _ _ e1 (hJ.rows.r3.own0 hcm hb) _ _ [boot] e2 (hJ.rows.r3.sl hf hb) (by rw [List.length_map, List.length_singleton]; omega) hJ.k.size fun v' u' h1 h2 h3 => ?_)
      exact hK _ _ (fun _ => held _ _ _ (hJ.got3 hb hcm hf h24 h23 hr1 h1 h2 h3)) (hJ.got3 hb hcm hf h24 h23 hr1 h1 h2 h3)
    · have h22 : β 22 = true := edge_came rfl hdep 22 (by kernel_rfl)
      have h24 : β 24 = false := ff hb hJ.i24
      obtain ⟨h5, h7, h8, h11, h15, h16, h19, h21⟩ := hJ.all22 h22
      obtain ⟨Z1, z1, hz1, _, _⟩ := (hJ.rows.r1.own1 h5 h8).shape_ (n := L.length + 1) (by rw [List.length_append, List.length_map, List.length_singleton])
      obtain ⟨Z2, z2, hz2, _, _⟩ := (hJ.rows.r2.own1 h11 h16).shape_ (n := L.length + 1) (by rw [List.length_append, List.length_map, List.length_singleton])
      obtain ⟨Z3, z3, hz3, _, _⟩ := (hJ.rows.r3.own1 h19 h22).shape_ (n := L.length + 1) (by rw [List.length_append, List.length_map, List.length_singleton])
      have hz1 : X 54 = .slice Z1 (L.length + 1) z1 := hz1
      have hz2 : X 62 = .slice Z2 (L.length + 1) z2 := hz2
      have hz3 : X 68 = .slice Z3 (L.length + 1) z3 := hz3
      have e0 : b.eval (.tmp 48) = .int .i64 (ep + 1) := by rw [ho 48 (by decide)]; go_simp
      have e1 : b.eval (.tmp 54) = .slice Z1 (L.length + 1) z1 := (hx 54 (by decide) (by simp [Act.put])).trans hz1
      have e2 : b.eval (.tmp 62) = .slice Z2 (L.length + 1) z2 := (hx 62 (by decide) (by simp [Act.put])).trans hz2
      have e3 : b.eval (.tmp 68) = .slice Z3 (L.length + 1) z3 := (hx 68 (by decide) (by simp [Act.put])).trans hz3
      have hK1 := hK (.agg #[.int .i64 (ep + 1), X 54, X 62, X 68]) u (fun _ => held _ _ _ (hJ.aggd h22 h24)) (hJ.aggd h22 h24)
      rw [hz1, hz2, hz3] at hK1
      refine wpOp_of rfl ?_
      have e0' : (b.tmps[48]?).getD undef = .int .i64 (ep + 1) := by rw [← Array.getD_eq_getD_getElem?]; exact e0
      have e1' : (b.tmps[54]?).getD undef = .slice Z1 (L.length + 1) z1 := by rw [← Array.getD_eq_getD_getElem?]; exact e1
      have e2' : (b.tmps[62]?).getD undef = .slice Z2 (L.length + 1) z2 := by rw [← Array.getD_eq_getD_getElem?]; exact e2
      have e3' : (b.tmps[68]?).getD undef = .slice Z3 (L.length + 1) z3 := by rw [← Array.getD_eq_getD_getElem?]; exact e3
      clear ho hx hJ hK hdep hz1 hz2 hz3 e0 e1 e2 e3
      go_simp
      exact hK1
    · have h23 : β 23 = true := edge_came rfl hdep 23 (by kernel_rfl)
      have h22 := (hJ.p23 h23).1
      obtain ⟨h5, h7, h8, h11, h15, h16, h19, h21⟩ := hJ.all22 h22
      obtain ⟨Z1, z1, hz1, _, _⟩ := (hJ.rows.r1.own1 h5 h8).shape_ (n := L.length + 1) (by rw [List.length_append, List.length_map, List.length_singleton])
      obtain ⟨Z2, z2, hz2, _, _⟩ := (hJ.rows.r2.own1 h11 h16).shape_ (n := L.length + 1) (by rw [List.length_append, List.length_map, List.length_singleton])
      obtain ⟨Z3, z3, hz3, _, _⟩ := (hJ.rows.r3.own1 h19 h22).shape_ (n := L.length + 1) (by rw [List.length_append, List.length_map, List.length_singleton])
      have hz1 : X 54 = .slice Z1 (L.length + 1) z1 := hz1
      have hz2 : X 62 = .slice Z2 (L.length + 1) z2 := hz2
      have hz3 : X 68 = .slice Z3 (L.length + 1) z3 := hz3
      have h69 := (hJ.p23 h23).2
      have e1 : b.eval (.tmp 6) = .pointer (some ⟨r, 0, none⟩) := by rw [ho 6 (by decide)]; go_simp
      have e2 : b.eval (.tmp 69) = .agg #[.int .i64 (ep + 1), X 54, X 62, X 68] := (hx 69 (by decide) (by simp [Act.put])).trans h69
      have hc := hJ.early hb
      have y0 := cell_of_row u r 0 _ _ _ hc
      have y1 := cell_of_row u r 1 _ _ _ hc
      have y2 := cell_of_row u r 2 _ _ _ hc
      have y3 := cell_of_row u r 3 _ _ _ hc
      have x0 := frozen_block hc 0
      have x1 := frozen_block hc 1
      have x2 := frozen_block hc 2
      have x3 := frozen_block hc 3
      have hK1 := hK undef _ (fun h => absurd h (by omega)) (hJ.stored h23 hb hr1)
      rw [hz1, hz2, hz3] at hK1 e2
      refine wpOp_of rfl ?_
      have e1' : (b.tmps[6]?).getD undef = .pointer (some ⟨r, 0, none⟩) := by rw [← Array.getD_eq_getD_getElem?]; exact e1
      have e2' : (b.tmps[69]?).getD undef = .agg #[.int .i64 (ep + 1), .slice Z1 (L.length + 1) z1, .slice Z2 (L.length + 1) z2, .slice Z3 (L.length + 1) z3] := by rw [← Array.getD_eq_getD_getElem?]; exact e2
      clear ho hx hJ hK hdep hz1 hz2 hz3 e1 e2 hc h69
      go_simp
      exact hK1
    · have h24 : β 24 = true := edge_came rfl hdep 24 (by kernel_rfl)
      have hK1 := hK (.int .i64 0) u (fun h => absurd h (by omega)) (hJ.ended h24)
      refine wpOp_of rfl ?_
      clear ho hx hJ hK hdep
      go_simp
      exact hK1
  · intro β X u hJ hall
    have h22 := hall 22 (by decide)
    obtain ⟨h5, h7, h8, h11, h15, h16, h19, h21⟩ := hJ.all22 h22
    have hr1' := hJ.rows.r1.own1 h5 h8
    have hr2' := hJ.rows.r2.own1 h11 h16
    have hr3' := hJ.rows.r3.own1 h19 h22
    have hc := hJ.c
    rw [hall 24 (by decide)] at hc
    have hc : u.heap[r]? = some (.cells #[.int .i64 (ep + 1), X 54, X 62, X 68] 45 (0, 0)) := hc
    have hV : VwSl u (fun k => w1.heap.size ≤ k) ((⟨ep, L⟩ : Vw).withN node boot).L (X 54) (X 62) (X 68) := by
      refine ⟨?_, ?_, ?_⟩
      · show Sl u _ 1 intc (X 54) ((L ++ [_]).map Nd.node)
        rw [List.map_append]
        exact (hr1'.sl (fun _ => rfl)).mono fun k _ hk => (Own.lt hr1' k hk).1
      · show Sl u _ 1 intc (X 62) ((L ++ [_]).map Nd.since)
        rw [List.map_append]
        exact (hr2'.sl (fun _ => rfl)).mono fun k _ hk => (Own.lt hr2' k hk).1
      · show Sl u _ 1 intc (X 68) ((L ++ [_]).map Nd.boot)
        rw [List.map_append]
        exact (hr3'.sl (fun _ => rfl)).mono fun k _ hk => (Own.lt hr3' k hk).1
    have hVe := hV.mono (F' := fun k => w.heap.size ≤ k) (fun k _ hk => by have hk2 : w1.heap.size ≤ k := hk; have := HB1.out.size; show w.heap.size ≤ k; omega)
    have hBe := Below.keep HB1.out hJ.k HB1.out.size (fun k e => by have e2 : k = r := e; have := HQ.out; omega)
    have x7 := (hJ.w25 (hall 25 (by decide))).2
    obtain ⟨Z1, z1, hz1, _, _⟩ := hr1'.shape_ (n := L.length + 1) (by rw [List.length_append, List.length_map, List.length_singleton])
    obtain ⟨Z2, z2, hz2, _, _⟩ := hr2'.shape_ (n := L.length + 1) (by rw [List.length_append, List.length_map, List.length_singleton])
    obtain ⟨Z3, z3, hz3, _, _⟩ := hr3'.shape_ (n := L.length + 1) (by rw [List.length_append, List.length_map, List.length_singleton])
    have hz1 : X 54 = .slice Z1 (L.length + 1) z1 := hz1
    have hz2 : X 62 = .slice Z2 (L.length + 1) z2 := hz2
    have hz3 : X 68 = .slice Z3 (L.length + 1) z3 := hz3
    rw [hz1, hz2, hz3] at hc hVe
    have HVE := Lib.hid hVe
    have HBE := Lib.hid hBe
    have z0 := cell_of_row u r 0 _ _ _ hc
    have y1 := cell_of_row u r 1 _ _ _ hc
    have y2 := cell_of_row u r 2 _ _ _ hc
    have y3 := cell_of_row u r 3 _ _ _ hc
    clear hV hVe hBe hJ hall hr1' hr2' hr3' hc held c0 c1 c2 c3 hz1 hz2 hz3
    refine NoPanic.normal ?_
    simp only [putsL]
    rw [x7]
    generalize X 51 = x51
    generalize X 53 = x53
    generalize X 54 = x54
    generalize X 57 = x57
    generalize X 61 = x61
    generalize X 62 = x62
    generalize X 65 = x65
    generalize X 67 = x67
    generalize X 68 = x68
    generalize X 69 = x69
    simp only [List.getElem?_toArray, List.getElem?_cons_succ, List.getElem?_cons_zero, Option.getD_some, Act.put, List.setIfInBounds_toArray, List.set_cons_succ, List.set_cons_zero]
    go_wp2_with fail
    refine bodyPost_ret (v := .tuple #[.agg #[.int .i64 (ep + 1), .slice Z1 (L.length + 1) z1, .slice Z2 (L.length + 1) z2, .slice Z3 (L.length + 1) z3], .int .i64 0]) (by simp [results, Tryz.results48, go_sem, z0, y1, y2, y3]) rfl ⟨_, _, _, rfl, HVE.out, HBE.out⟩
theorem with_ok (w : World) (F : Nat → Prop) (ep : Int) (L : List Nd) (a b c : Value) (h : VwSl w F L a b c) (hr : RightV ⟨ep, L⟩) (node boot : Int) (g1 : 1 ≤ node) (g2 : node ≤ 100) (g3 : 0 ≤ boot) (g4 : boot ≤ 274877906944)
    (g5 : node ∉ L.map Nd.node) (g6 : L.length ≠ 6) (g7 : ep ≠ 274877906944) :
    Calls Tryz.prog 48 #[.agg #[.int .i64 ep, a, b, c], .int .i64 node, .int .i64 boot] w fun e w' => ∃ a' b' c', e = .returned (.tuple #[.agg #[.int .i64 (ep + 1), a', b', c'], .int .i64 0]) ∧ VwSl w' (fun k => w.heap.size ≤ k) ((⟨ep, L⟩ : Vw).withN node boot).L a' b' c' ∧ Below w.heap.size w w' :=
  with_ok' w (fun k => k < w.heap.size) (fun _ h => h) ep L a b c (h.mono (F' := fun k => k < w.heap.size) fun _ hk _ => hk) hr node boot g1 g2 g3 g4 g5 g6 g7
end Go.Proofs.YtoegdpcfhmjnaaaGreatDoor

/- The master has a node come in. Under the stated premises on sizes. -/
namespace Go.Proofs.YtoegdpcfhmjnaaaGreatDoor
open Go.RowKit Go.Bl
attribute [local go_sem ↓] Go.wp_at_zero Go.wp_at_succ

theorem join_bad (w : World) (m : Nat) (node boot now : Int) (hb : node < 1 ∨ 100 < node ∨ boot < 0 ∨ 274877906944 < boot) :
    Calls Tryz.prog 34 #[.pointer (some ⟨m, 0, none⟩), .int .i64 node, .int .i64 boot, .int .i64 now] w fun e w' => e = .returned (.slice none 0 0) ∧ w' = w := by
  by_cases h1 : node < 1
  · have d1 : decide (node < 1) = true := decide_eq_true h1
    clear h1 hb
    go_enter Tryz.func34, Tryz.ntmps34
    go_wp2_with fail
    go_ret
    exact ⟨rfl, rfl⟩
  have d1 : decide (node < 1) = false := decide_eq_false h1
  by_cases h2 : 100 < node
  · have d2 : decide (100 < node) = true := decide_eq_true h2
    clear h1 h2 hb
    go_enter Tryz.func34, Tryz.ntmps34
    go_wp2_with fail
    go_ret
    exact ⟨rfl, rfl⟩
  have d2 : decide (100 < node) = false := decide_eq_false h2
  by_cases h3 : boot < 0
  · have d3 : decide (boot < 0) = true := decide_eq_true h3
    clear h1 h2 h3 hb
    go_enter Tryz.func34, Tryz.ntmps34
    go_wp2_with fail
    go_ret
    exact ⟨rfl, rfl⟩
  have d3 : decide (boot < 0) = false := decide_eq_false h3
  have h4 : 274877906944 < boot := ((hb.resolve_left h1).resolve_left h2).resolve_left h3
  have d4 : decide (274877906944 < boot) = true := decide_eq_true h4
  clear h1 h2 h3 h4 hb
  go_enter Tryz.func34, Tryz.ntmps34
  go_wp2_with fail
  go_ret
  exact ⟨rfl, rfl⟩
set_option maxRecDepth 8000 in
set_option maxHeartbeats 2000000 in
theorem join_full {X : Nat → Prop} {w : World} {m p : Nat} {room fail : Int} {vs : List Vw} {s : Ms} {c : Nat} (h : Mst X w m p room fail vs s c) (node boot now : Int) (g1 : 1 ≤ node) (g2 : node ≤ 100) (g3 : 0 ≤ boot) (g4 : boot ≤ 274877906944)
    (hx : node ∈ s.v.nodes ∨ s.v.L.length = 6 ∨ s.v.ep = 274877906944) :
    Calls Tryz.prog 34 #[.pointer (some ⟨m, 0, none⟩), .int .i64 node, .int .i64 boot, .int .i64 now] w fun e w' => ∃ v o, e = .returned v ∧ Sl w' (fun k => w.heap.size ≤ k) 2 outc v [o] ∧ o.rcv = node ∧ VOut w' (fun k => w.heap.size ≤ k) s.v o ∧ Below w.heap.size w w' := by
  have H := Lib.hid h
  obtain ⟨Y, F, bh, br, va, vb, vc, h⟩ := h
  obtain ⟨c0, c1, c2, c3, c4, c5, c6, c7⟩ := h.cells
  have HW := Lib.hid (with_no w F s.v.ep s.v.L va vb vc h.sl h.right node boot g1 g2 g3 g4 hx)
  obtain ⟨A, ca, B, cb, C, cc, rfl, rfl, rfl, _⟩ := h.sl.shape
  have d1 : decide (node < 1) = false := decide_eq_false (by omega)
  have d2 : decide (100 < node) = false := decide_eq_false (by omega)
  have d3 : decide (boot < 0) = false := decide_eq_false (by omega)
  have d4 : decide (274877906944 < boot) = false := decide_eq_false (by omega)
  clear h hx
  go_enter Tryz.func34, Tryz.ntmps34
  go_wp2_with fail
  refine HW.out.mono ?_
  rintro e w1 ⟨er, her, rfl, hB1⟩
  have dq : (er != 0) = true := by simpa using her
  unfold zeroVw
  have HB1 := Lib.hid hB1
  clear hB1 her
  go_upto_region 4 with (fail)
  have HB2 := Lib.hid (HB1.out.alloc HB1.out.size (.cells #[.int .i64 0, .slice none 0 0, .slice none 0 0, .slice none 0 0] 45))
  generalize w1.alloc (.cells #[.int .i64 0, .slice none 0 0, .slice none 0 0, .slice none 0 0] 45) = w2 at HB2 ⊢
  have HT := Lib.hid (tell_any (H.out.fresh HB2.out) node)
  go_wp2_with fail
  refine HT.out.mono ?_
  rintro e w3 ⟨v, o, rfl, hS, hr, hV, hB3⟩
  have HE := Lib.hid (And.intro hS (And.intro hr (And.intro hV hB3)))
  clear hS hr hV hB3
  go_wp2_with fail
  go_ret
  obtain ⟨hS, hr, hV, hB3⟩ := HE.out
  have hs := HB2.out.size
  exact ⟨_, o, rfl, hS.mono fun k _ hk => Nat.le_trans hs hk, hr, hV.mono fun k _ hk => Nat.le_trans hs hk, HB2.out.trans (hB3.mono hs)⟩
set_option maxRecDepth 20000 in
set_option maxHeartbeats 8000000 in
theorem join_ok {X : Nat → Prop} {w : World} {m p : Nat} {room fail : Int} {vs : List Vw} {s : Ms} {c : Nat} (h : Mst X w m p room fail vs s c) (hc : c < 999999999) (node boot now : Int) (g1 : 1 ≤ node) (g2 : node ≤ 100) (g3 : 0 ≤ boot) (g4 : boot ≤ 274877906944)
    (g5 : node ∉ s.v.nodes) (g6 : s.v.L.length ≠ 6) (g7 : s.v.ep ≠ 274877906944) (hroom : 128 * ((vs.length : Int) + 1) ≤ room) :
    Calls Tryz.prog 34 #[.pointer (some ⟨m, 0, none⟩), .int .i64 node, .int .i64 boot, .int .i64 now] w fun e w' => ∃ v os, e = .returned v ∧ Sl w' (fun k => w.heap.size ≤ k) 2 outc v os ∧ VOuts w' (fun k => w.heap.size ≤ k) (s.v.withN node boot) (s.v.withN node boot).nodes os ∧
      Mst X w' m p room fail (keepV vs (s.v.withN node boot)) (s.come node boot now) (c + 1) ∧ Kx X w w' := by
  obtain ⟨Y, F, bh, br, va, vb, vc, h⟩ := h
  have H := Lib.hid h
  obtain ⟨c0, c1, c2, c3, c4, c5, c6, c7⟩ := h.cells
  have HW := Lib.hid (with_ok w F s.v.ep s.v.L va vb vc h.sl h.right node boot g1 g2 g3 g4 g5 g6 g7)
  have HRV := Lib.hid (h.right.withN g1 g2 g3 g4 g5 g6 g7)
  obtain ⟨A, ca, B, cb, C, cc, rfl, rfl, rfl, _⟩ := h.sl.shape
  have d1 : decide (node < 1) = false := decide_eq_false (by omega)
  have d2 : decide (100 < node) = false := decide_eq_false (by omega)
  have d3 : decide (boot < 0) = false := decide_eq_false (by omega)
  have d4 : decide (274877906944 < boot) = false := decide_eq_false (by omega)
  have HRM := Lib.hid hroom
  clear h hroom
  go_enter Tryz.func34, Tryz.ntmps34
  go_wp2_with fail
  refine HW.out.mono ?_
  rintro e w1 ⟨a, b, d, rfl, hV, hB1⟩
  obtain ⟨N, hN⟩ : ∃ N, (s.v.withN node boot).L.length = N := ⟨_, rfl⟩
  obtain ⟨A', ca', B', cb', C', cc', rfl, rfl, rfl, _⟩ := hV.shape
  rw [show (⟨s.v.ep, s.v.L⟩ : Vw) = s.v from rfl, hN] at hV ⊢
  have HN := Lib.hid hN
  have HB1 := Lib.hid hB1
  have HV1 := Lib.hid hV
  clear hV hB1 hN
  go_upto_region 4 with (fail)
  obtain ⟨g, hg⟩ : ∃ g, w1.heap.size = g := ⟨_, rfl⟩
  have hB2 := HB1.out.alloc HB1.out.size (.cells #[.int .i64 (s.v.ep + 1), .slice A' N ca', .slice B' N cb', .slice C' N cc'] 45)
  have hb12 : Below w1.heap.size w1 (w1.alloc (.cells #[.int .i64 (s.v.ep + 1), .slice A' N ca', .slice B' N cb', .slice C' N cc'] 45)) := (Below.refl _ w1).alloc (Nat.le_refl _) _
  have hk2 := heap_alloc_new w1 (.cells #[.int .i64 (s.v.ep + 1), .slice A' N ca', .slice B' N cb', .slice C' N cc'] 45)
  have HG := Lib.hid (show w.heap.size ≤ g by rw [← hg]; exact HB1.out.size)
  rw [hg] at hk2 ⊢
  generalize w1.alloc (.cells #[.int .i64 (s.v.ep + 1), .slice A' N ca', .slice B' N cb', .slice C' N cc'] 45) = w2 at hB2 hk2 hb12 ⊢
  have HB2 := Lib.hid hB2
  have HK2 := Lib.hid hk2
  have HV2 := Lib.hid (HV1.out.fresh hb12)
  clear hB2 hk2 hb12 hg c0 c1 c2 c3 c4 c5 c6 c7
  go_upto_region 6 with (fail)
  refine region_mid 5 rfl (by kernel_rfl) (by kernel_rfl) ?_
  simp only [List.take_succ_cons, List.take_zero, List.drop_succ_cons, List.drop_zero]
  change wpStill _ _ w2.drew _ _ _
  obtain ⟨wd, hwd⟩ : ∃ wd, w2.drew = wd := ⟨_, rfl⟩
  rw [hwd]
  have hBd : Below w2.heap.size w2 wd := hwd ▸ ⟨rfl, rfl, rfl, Nat.le_refl _, fun _ _ => rfl⟩
  have HBd := Lib.hid (HB2.out.trans (hBd.mono HB2.out.size))
  have HVd := Lib.hid (HV2.out.fresh hBd)
  have HKd := Lib.hid ((hBd.block g (Array.getElem?_eq_some_iff.1 HK2.out).1).trans HK2.out)
  have z0 : wd.cell? ⟨g, 0, none⟩ = some (.int .i64 (s.v.ep + 1)) := cell_of_row wd g 0 _ _ _ HKd.out
  have z1 : wd.cell? ⟨g, 1, none⟩ = some (.slice A' N ca') := cell_of_row wd g 1 _ _ _ HKd.out
  have z2 : wd.cell? ⟨g, 2, none⟩ = some (.slice B' N cb') := cell_of_row wd g 2 _ _ _ HKd.out
  have z3 : wd.cell? ⟨g, 3, none⟩ = some (.slice C' N cc') := cell_of_row wd g 3 _ _ _ HKd.out
  clear hBd
  have hd := H.out.fresh HBd.out
  obtain ⟨c0, -, -, -, -, -, -, -⟩ := hd.cells
  have HQ := keepQ (H.out.raw.wide HBd.out) (s.v.withN node boot) _ _ _ HVd.out HRV.out H.out.ups H.out.lenv HRM.out
  rw [show (s.v.withN node boot).ep = s.v.ep + 1 from rfl] at HQ
  have HQ := Lib.hid HQ
  clear hd
  refine still_of_quiet ?_
  repeat (go_big_quiet_step (fail))
  refine wpQuiet_nil ?_
  change wpList _ _ _ _ _ (World.drew _)
  rw [hwd]
  clear hwd
  go_wp2_with fail
  refine HQ.out.mono ?_
  rintro e we ⟨rfl, hQe, hKe⟩
  have HKe := Lib.hid hKe
  have HQe := Lib.hid hQe
  have hgd := (Array.getElem?_eq_some_iff.1 HKd.out).1
  have hmd := (H.out.fresh HBd.out).lt
  have hkm := hKe.block m hmd (fun h => h (.inl H.out.ym.1))
  have hkg := hKe.block g hgd (fun h => h (.inr ⟨HG.out, hgd⟩))
  have HM2 := Lib.hid (hkm.trans (H.out.fresh HBd.out).blk)
  have HGe := Lib.hid (hkg.trans HKd.out)
  clear hQe hKe c0 z0 z1 z2 z3 hkm hkg hgd hmd
  have z0 : we.cell? ⟨g, 0, none⟩ = some (.int .i64 (s.v.ep + 1)) := cell_of_row we g 0 _ _ _ HGe.out
  have z1 : we.cell? ⟨g, 1, none⟩ = some (.slice A' N ca') := cell_of_row we g 1 _ _ _ HGe.out
  have z2 : we.cell? ⟨g, 2, none⟩ = some (.slice B' N cb') := cell_of_row we g 2 _ _ _ HGe.out
  have z3 : we.cell? ⟨g, 3, none⟩ = some (.slice C' N cc') := cell_of_row we g 3 _ _ _ HGe.out
  have c1 : we.cell? ⟨m, 1, none⟩ = some (.int .i64 s.v.ep) := cell_of_row we m 1 _ _ _ HM2.out
  have c2 : we.cell? ⟨m, 2, none⟩ = some (.slice A s.v.L.length ca) := cell_of_row we m 2 _ _ _ HM2.out
  have c3 : we.cell? ⟨m, 3, none⟩ = some (.slice B s.v.L.length cb) := cell_of_row we m 3 _ _ _ HM2.out
  have c4 : we.cell? ⟨m, 4, none⟩ = some (.slice C s.v.L.length cc) := cell_of_row we m 4 _ _ _ HM2.out
  have f1 := frozen_block HM2.out 1
  have f2 := frozen_block HM2.out 2
  have f3 := frozen_block HM2.out 3
  have f4 := frozen_block HM2.out 4
  go_wp2_with fail
  unfold Go.Bl.Rest
  refine still_of_quiet ?_
  repeat (go_big_quiet_step (fail))
  refine wpQuiet_nil ?_
  go_upto_region 9 with (fail)
  have hst := view_keeps we m (.int .i64 (s.v.ep + 1)) (.slice A' N ca') (.slice B' N cb') (.slice C' N cc')
  have hbk := view_block HM2.out (.int .i64 (s.v.ep + 1)) (.slice A' N ca') (.slice B' N cb') (.slice C' N cc')
  generalize ((((we.setCell ⟨m, 1, none⟩ (.int .i64 (s.v.ep + 1))).setCell ⟨m, 2, none⟩ (.slice A' N ca')).setCell ⟨m, 3, none⟩ (.slice B' N cb')).setCell ⟨m, 4, none⟩ (.slice C' N cc')) = wf at hst hbk ⊢
  have hR := H.out.raw.turn HBd.out HVd.out HRV.out (show s.v.ep < s.v.ep + 1 by omega) HQe.out HKe.out hst hbk
  have HKf := Lib.hid (((Kx.of_below HBd.out).trans (HKe.out.mono fun k _ h1 h2 => h1 (.inl (H.out.xy k h2)))).trans (hst.mono fun k _ e h2 => H.out.xm.1 (by have e2 : k = m := e; exact e2 ▸ h2)))
  have HRf := Lib.hid hR
  have hsf : wd.heap.size ≤ wf.heap.size := Nat.le_trans HKe.out.size hst.size
  obtain ⟨-, -, -, -, -, -, c6, -⟩ := HRf.out.cells
  clear hst hbk hR z0 z1 z2 z3 c1 c2 c3 c4 f1 f2 f3 f4
  obtain ⟨wg, hrg, hg, hkg, hsg⟩ := HRf.out.put_heard (by omega) (x := node) (by unfold i64; omega) (.int .i64 now)
  have HRg := Lib.hid hg
  clear hg
  go_upto_region 10 with (fail)
  have hsg2 : wd.heap.size ≤ wg.heap.size := Nat.le_trans hsf hkg.size
  have HKg := Lib.hid (HKf.out.trans (hkg.mono fun k _ e h2 => H.out.xm.2.1 (by have e2 : k = bh := e; exact e2 ▸ h2)))
  clear hrg hkg hsg c6
  have HMg := Lib.hid (show Mst X wg m p room fail (keepV vs (s.v.withN node boot)) (s.come node boot now) (c + 1) from ⟨_, _, _, _, _, _, _, HRg.out.mst (s := s.come node boot now) (fun y => hdF_come y) (fun y => rfl) H.out.rdge⟩)
  have HA := Lib.hid (all_any HMg.out)
  have HSZ := Lib.hid (show w.heap.size ≤ wg.heap.size from Nat.le_trans HBd.out.size hsg2)
  go_wp2_with fail
  refine HA.out.mono ?_
  rintro e wh ⟨v, os, rfl, hS, hV, hB⟩
  have HE := Lib.hid (And.intro hS (And.intro hV hB))
  clear hS hV hB
  go_wp2_with fail
  go_ret
  obtain ⟨hS, hV, hB⟩ := HE.out
  have hs := HSZ.out
  exact ⟨_, os, rfl, hS.mono fun k _ hk => Nat.le_trans hs hk, ⟨hV.1, fun o ho => (hV.2 o ho).mono fun k _ hk => Nat.le_trans hs hk⟩, HMg.out.fresh hB, HKg.out.trans (Kx.of_below hB)⟩
end Go.Proofs.YtoegdpcfhmjnaaaGreatDoor

/- The master takes a Join of a stranger. Under the stated premises on sizes. -/
namespace Go.Proofs.YtoegdpcfhmjnaaaGreatDoor
open Go.RowKit Go.Bl
attribute [local go_sem ↓] Go.wp_at_zero Go.wp_at_succ

set_option maxRecDepth 8000 in
set_option maxHeartbeats 4000000 in
theorem takeK_other {X : Nat → Prop} {w : World} {m p : Nat} {room fail : Int} {vs : List Vw} {s : Ms} {c : Nat} (h : Mst X w m p room fail vs s c) (node boot frm now : Int) (hk : frm ∉ s.v.nodes) (hne : node ≠ frm) :
    Calls Tryz.prog 9 #[.pointer (some ⟨m, 0, none⟩), .int .i64 frm, .iface 48 (.agg #[.int .i64 node, .int .i64 boot]), .int .i64 now] w fun e w' => e = .returned (.slice none 0 0) ∧ Below w.heap.size w w' := by
  have dn : (node != frm) = true := by simpa using hne
  have hB0 : Below w.heap.size w ((w.alloc (.cells #[.int .i64 0, .int .i64 0, .int .i64 0] 76)).alloc (.cells #[.int .i64 node, .int .i64 boot] 48)) := ((Below.refl _ w).alloc (Nat.le_refl _) _).alloc (by simp) _
  have hblk : ((w.alloc (.cells #[.int .i64 0, .int .i64 0, .int .i64 0] 76)).alloc (.cells #[.int .i64 node, .int .i64 boot] 48)).heap[w.heap.size + 1]? = some (.cells #[.int .i64 node, .int .i64 boot] 48 (0, 0)) := by
    have := heap_alloc_new (w.alloc (.cells #[.int .i64 0, .int .i64 0, .int .i64 0] 76)) (.cells #[.int .i64 node, .int .i64 boot] 48)
    rw [World.size_alloc] at this
    exact this
  have H := Lib.hid (h.fresh hB0)
  have HB0 := Lib.hid hB0
  have HBK := Lib.hid hblk
  have hin := in_any (h.fresh hB0) frm
  rw [decide_eq_false hk] at hin
  have HIN := Lib.hid hin
  have hb := fun W => not_beat 48 (by decide) (.agg #[.int .i64 node, .int .i64 boot]) 39 W
  have hj := fun W => as_join (.agg #[.int .i64 node, .int .i64 boot]) 39 W
  clear h hB0 hin hblk
  go_enter Tryz.func9, Tryz.ntmps9
  go_upto_region 5 with (fail)
  obtain ⟨q, hq⟩ : ∃ q, w.heap.size + 1 = q := ⟨_, rfl⟩
  rw [hq] at HBK ⊢
  generalize (w.alloc (.cells #[.int .i64 0, .int .i64 0, .int .i64 0] 76)).alloc (.cells #[.int .i64 node, .int .i64 boot] 48) = w3 at HB0 H HIN HBK ⊢
  have z0 := cell_of_row w3 q 0 _ _ _ HBK.out
  have z1 := cell_of_row w3 q 1 _ _ _ HBK.out
  clear hb hj hq
  go_wp2_with fail
  refine HIN.out.mono ?_
  rintro e w2 ⟨rfl, rfl⟩
  go_wp2_with fail
  go_ret
  exact ⟨rfl, HB0.out⟩
set_option maxRecDepth 8000 in
set_option maxHeartbeats 4000000 in
theorem takeK_bad {X : Nat → Prop} {w : World} {m p : Nat} {room fail : Int} {vs : List Vw} {s : Ms} {c : Nat} (h : Mst X w m p room fail vs s c) (node boot frm now : Int) (hk : frm ∉ s.v.nodes) (hne : node = frm) (hbad : frm < 1 ∨ 100 < frm ∨ boot < 0 ∨ 274877906944 < boot) :
    Calls Tryz.prog 9 #[.pointer (some ⟨m, 0, none⟩), .int .i64 frm, .iface 48 (.agg #[.int .i64 node, .int .i64 boot]), .int .i64 now] w fun e w' => e = .returned (.slice none 0 0) ∧ Below w.heap.size w w' := by
  have dn : (node != frm) = false := by simpa using hne
  have HC := Lib.hid fun W => join_bad W m frm boot now hbad
  clear hne hbad
  have hB0 : Below w.heap.size w ((w.alloc (.cells #[.int .i64 0, .int .i64 0, .int .i64 0] 76)).alloc (.cells #[.int .i64 node, .int .i64 boot] 48)) := ((Below.refl _ w).alloc (Nat.le_refl _) _).alloc (by simp) _
  have hblk : ((w.alloc (.cells #[.int .i64 0, .int .i64 0, .int .i64 0] 76)).alloc (.cells #[.int .i64 node, .int .i64 boot] 48)).heap[w.heap.size + 1]? = some (.cells #[.int .i64 node, .int .i64 boot] 48 (0, 0)) := by
    have := heap_alloc_new (w.alloc (.cells #[.int .i64 0, .int .i64 0, .int .i64 0] 76)) (.cells #[.int .i64 node, .int .i64 boot] 48)
    rw [World.size_alloc] at this
    exact this
  have H := Lib.hid (h.fresh hB0)
  have HB0 := Lib.hid hB0
  have HBK := Lib.hid hblk
  have hin := in_any (h.fresh hB0) frm
  rw [decide_eq_false hk] at hin
  have HIN := Lib.hid hin
  have hb := fun W => not_beat 48 (by decide) (.agg #[.int .i64 node, .int .i64 boot]) 39 W
  have hj := fun W => as_join (.agg #[.int .i64 node, .int .i64 boot]) 39 W
  clear h hB0 hin hblk
  go_enter Tryz.func9, Tryz.ntmps9
  go_upto_region 5 with (fail)
  obtain ⟨q, hq⟩ : ∃ q, w.heap.size + 1 = q := ⟨_, rfl⟩
  rw [hq] at HBK ⊢
  generalize (w.alloc (.cells #[.int .i64 0, .int .i64 0, .int .i64 0] 76)).alloc (.cells #[.int .i64 node, .int .i64 boot] 48) = w3 at HB0 H HIN HBK ⊢
  have z0 := cell_of_row w3 q 0 _ _ _ HBK.out
  have z1 := cell_of_row w3 q 1 _ _ _ HBK.out
  clear hb hj hq
  go_wp2_with fail
  refine HIN.out.mono ?_
  rintro e w2 ⟨rfl, rfl⟩
  go_wp2_with fail
  refine (HC.out _).mono ?_
  rintro e w4 ⟨rfl, rfl⟩
  go_wp2_with fail
  go_ret
  exact ⟨rfl, HB0.out⟩
set_option maxRecDepth 8000 in
set_option maxHeartbeats 4000000 in
theorem takeK_full {X : Nat → Prop} {w : World} {m p : Nat} {room fail : Int} {vs : List Vw} {s : Ms} {c : Nat} (h : Mst X w m p room fail vs s c) (node boot frm now : Int) (hk : frm ∉ s.v.nodes) (hne : node = frm) (g1 : 1 ≤ frm) (g2 : frm ≤ 100) (g3 : 0 ≤ boot) (g4 : boot ≤ 274877906944)
    (hx : s.v.L.length = 6 ∨ s.v.ep = 274877906944) :
    Calls Tryz.prog 9 #[.pointer (some ⟨m, 0, none⟩), .int .i64 frm, .iface 48 (.agg #[.int .i64 node, .int .i64 boot]), .int .i64 now] w fun e w' => ∃ v o, e = .returned v ∧ Sl w' (fun k => w.heap.size ≤ k) 2 outc v [o] ∧ o.rcv = frm ∧ VOut w' (fun k => w.heap.size ≤ k) s.v o ∧ Below w.heap.size w w' := by
  have dn : (node != frm) = false := by simpa using hne
  clear hne
  have hB0 : Below w.heap.size w ((w.alloc (.cells #[.int .i64 0, .int .i64 0, .int .i64 0] 76)).alloc (.cells #[.int .i64 node, .int .i64 boot] 48)) := ((Below.refl _ w).alloc (Nat.le_refl _) _).alloc (by simp) _
  have hblk : ((w.alloc (.cells #[.int .i64 0, .int .i64 0, .int .i64 0] 76)).alloc (.cells #[.int .i64 node, .int .i64 boot] 48)).heap[w.heap.size + 1]? = some (.cells #[.int .i64 node, .int .i64 boot] 48 (0, 0)) := by
    have := heap_alloc_new (w.alloc (.cells #[.int .i64 0, .int .i64 0, .int .i64 0] 76)) (.cells #[.int .i64 node, .int .i64 boot] 48)
    rw [World.size_alloc] at this
    exact this
  have H := Lib.hid (h.fresh hB0)
  have HB0 := Lib.hid hB0
  have HBK := Lib.hid hblk
  have hin := in_any (h.fresh hB0) frm
  rw [decide_eq_false hk] at hin
  have HIN := Lib.hid hin
  have hb := fun W => not_beat 48 (by decide) (.agg #[.int .i64 node, .int .i64 boot]) 39 W
  have hj := fun W => as_join (.agg #[.int .i64 node, .int .i64 boot]) 39 W
  clear h hB0 hin hblk
  go_enter Tryz.func9, Tryz.ntmps9
  go_upto_region 5 with (fail)
  obtain ⟨q, hq⟩ : ∃ q, w.heap.size + 1 = q := ⟨_, rfl⟩
  rw [hq] at HBK ⊢
  generalize (w.alloc (.cells #[.int .i64 0, .int .i64 0, .int .i64 0] 76)).alloc (.cells #[.int .i64 node, .int .i64 boot] 48) = w3 at HB0 H HIN HBK ⊢
  have z0 := cell_of_row w3 q 0 _ _ _ HBK.out
  have z1 := cell_of_row w3 q 1 _ _ _ HBK.out
  clear hb hj hq
  go_wp2_with fail
  refine HIN.out.mono ?_
  rintro e w2 ⟨rfl, rfl⟩
  have HC := Lib.hid (join_full H.out frm boot now g1 g2 g3 g4 (.inr hx))
  clear hx
  go_wp2_with fail
  refine HC.out.mono ?_
  rintro e w5 ⟨v, o, rfl, hS, hr, hV, hB3⟩
  have HE := Lib.hid (And.intro hS (And.intro hr (And.intro hV hB3)))
  clear hS hr hV hB3
  go_wp2_with fail
  go_ret
  obtain ⟨hS, hr, hV, hB3⟩ := HE.out
  have hs := HB0.out.size
  exact ⟨_, o, rfl, hS.mono fun k _ hk => Nat.le_trans hs hk, hr, hV.mono fun k _ hk => Nat.le_trans hs hk, HB0.out.trans (hB3.mono hs)⟩
set_option maxRecDepth 8000 in
set_option maxHeartbeats 4000000 in
theorem takeK_ok {X : Nat → Prop} {w : World} {m p : Nat} {room fail : Int} {vs : List Vw} {s : Ms} {c : Nat} (h : Mst X w m p room fail vs s c) (hc : c < 999999999) (node boot frm now : Int) (hk : frm ∉ s.v.nodes) (hne : node = frm) (g1 : 1 ≤ frm) (g2 : frm ≤ 100) (g3 : 0 ≤ boot) (g4 : boot ≤ 274877906944)
    (g6 : s.v.L.length ≠ 6) (g7 : s.v.ep ≠ 274877906944) (hroom : 128 * ((vs.length : Int) + 1) ≤ room) :
    Calls Tryz.prog 9 #[.pointer (some ⟨m, 0, none⟩), .int .i64 frm, .iface 48 (.agg #[.int .i64 node, .int .i64 boot]), .int .i64 now] w fun e w' => ∃ v os, e = .returned v ∧ Sl w' (fun k => w.heap.size ≤ k) 2 outc v os ∧ VOuts w' (fun k => w.heap.size ≤ k) (s.v.withN frm boot) (s.v.withN frm boot).nodes os ∧
      Mst X w' m p room fail (keepV vs (s.v.withN frm boot)) (s.come frm boot now) (c + 1) ∧ Kx X w w' := by
  have dn : (node != frm) = false := by simpa using hne
  clear hne
  have HK := Lib.hid hk
  have hB0 : Below w.heap.size w ((w.alloc (.cells #[.int .i64 0, .int .i64 0, .int .i64 0] 76)).alloc (.cells #[.int .i64 node, .int .i64 boot] 48)) := ((Below.refl _ w).alloc (Nat.le_refl _) _).alloc (by simp) _
  have hblk : ((w.alloc (.cells #[.int .i64 0, .int .i64 0, .int .i64 0] 76)).alloc (.cells #[.int .i64 node, .int .i64 boot] 48)).heap[w.heap.size + 1]? = some (.cells #[.int .i64 node, .int .i64 boot] 48 (0, 0)) := by
    have := heap_alloc_new (w.alloc (.cells #[.int .i64 0, .int .i64 0, .int .i64 0] 76)) (.cells #[.int .i64 node, .int .i64 boot] 48)
    rw [World.size_alloc] at this
    exact this
  have H := Lib.hid (h.fresh hB0)
  have HB0 := Lib.hid hB0
  have HBK := Lib.hid hblk
  have hin := in_any (h.fresh hB0) frm
  rw [decide_eq_false hk] at hin
  have HIN := Lib.hid hin
  have hb := fun W => not_beat 48 (by decide) (.agg #[.int .i64 node, .int .i64 boot]) 39 W
  have hj := fun W => as_join (.agg #[.int .i64 node, .int .i64 boot]) 39 W
  clear h hB0 hin hblk
  go_enter Tryz.func9, Tryz.ntmps9
  go_upto_region 5 with (fail)
  obtain ⟨q, hq⟩ : ∃ q, w.heap.size + 1 = q := ⟨_, rfl⟩
  rw [hq] at HBK ⊢
  generalize (w.alloc (.cells #[.int .i64 0, .int .i64 0, .int .i64 0] 76)).alloc (.cells #[.int .i64 node, .int .i64 boot] 48) = w3 at HB0 H HIN HBK ⊢
  have z0 := cell_of_row w3 q 0 _ _ _ HBK.out
  have z1 := cell_of_row w3 q 1 _ _ _ HBK.out
  clear hb hj hq
  go_wp2_with fail
  refine HIN.out.mono ?_
  rintro e w2 ⟨rfl, rfl⟩
  have HC := Lib.hid (join_ok H.out hc frm boot now g1 g2 g3 g4 HK.out g6 g7 hroom)
  clear g6 g7 hroom
  go_wp2_with fail
  refine HC.out.mono ?_
  rintro e w5 ⟨v, os, rfl, hS, hV, hM, hB3⟩
  have HE := Lib.hid (And.intro hS (And.intro hV (And.intro hM hB3)))
  clear hS hV hM hB3
  go_wp2_with fail
  go_ret
  obtain ⟨hS, hV, hM, hB3⟩ := HE.out
  have hs := HB0.out.size
  exact ⟨_, os, rfl, hS.mono fun k _ hk => Nat.le_trans hs hk, ⟨hV.1, fun o ho => (hV.2 o ho).mono fun k _ hk => Nat.le_trans hs hk⟩, hM, (Kx.of_below HB0.out).trans hB3⟩
end Go.Proofs.YtoegdpcfhmjnaaaGreatDoor

/- What a master's Take makes, whatever an act says. Under the stated premises on sizes. -/
namespace Go.Proofs.YtoegdpcfhmjnaaaGreatDoor
open Go.RowKit Go.Bl

/-- What stays of a master behind a step. -/
structure StP (fail now : Int) (s s' : Ms) : Prop where
  heard : Heard s now → Heard s' now
  view : s'.v = s.v ∨ ∃ node boot : Int, 1 ≤ node ∧ node ≤ 100 ∧ 0 ≤ boot ∧ boot ≤ 274877906944 ∧ node ∉ s.v.nodes ∧ s.v.L.length ≠ 6 ∧ s.v.ep ≠ 274877906944 ∧ s'.v = s.v.withN node boot
  leases : ∀ l, Heard s now → Leases s fail now l → Leases s' fail now l
theorem StP.refl (fail now : Int) (s : Ms) : StP fail now s s := ⟨id, .inl rfl, fun _ _ h => h⟩
/-- What is told: a lease of one that was heard, or something else. -/
def OutP (fail now : Int) (s : Ms) (o : OutE) : Prop := o.T ≠ 64 ∨ (o.T = 64 ∧ ∃ u : Int, o.pay = .agg #[.int .i64 s.v.ep, .int .i64 u] ∧ now < u ∧ o.rcv ∈ s.v.nodes ∧ u ≤ s.hd o.rcv + fail / 2 ∧ u ≤ 1000000000000000000)
theorem VOut.outP {w : World} {F : Nat → Prop} {v : Vw} {o : OutE} (h : VOut w F v o) (fail now : Int) (s : Ms) : OutP fail now s o := .inl (by rw [h.1]; decide)
/-- What a Take makes. -/
def TakeR (X : Nat → Prop) (w w' : World) (m p : Nat) (room fail now : Int) (s : Ms) (c : Nat) (e : Ending) : Prop :=
  ∃ v os s' vs', e = .returned v ∧ Sl w' (fun k => w.heap.size ≤ k) 2 outc v os ∧ (∀ o ∈ os, OutP fail now s' o) ∧ os.length ≤ 10 ∧ StP fail now s s' ∧ Mst X w' m p room fail vs' s' (c + 2) ∧ Kx X w w'
theorem Mst.more {X : Nat → Prop} {w : World} {m p : Nat} {room fail : Int} {vs : List Vw} {s : Ms} {c c' : Nat} (h : Mst X w m p room fail vs s c) (hc : c ≤ c') : Mst X w m p room fail vs s c' := by
  obtain ⟨Y, F, bh, br, va, vb, vc, h⟩ := h
  exact ⟨_, _, _, _, _, _, _, h.more hc⟩
section
variable {X : Nat → Prop} {w : World} {m p : Nat} {room fail : Int} {vs : List Vw} {s : Ms} {c : Nat}
theorem take_beat (h : Mst X w m p room fail vs s c) (hc : c < 999999999) (node epoch frm now : Int) (hn0 : 0 ≤ now) (hn1 : now ≤ 1000000000000000) (hf0 : 4 ≤ fail) (hf1 : fail ≤ 1073741824) :
    Calls Tryz.prog 9 #[.pointer (some ⟨m, 0, none⟩), .int .i64 frm, .iface 76 (.agg #[.int .i64 node, .int .i64 epoch, .int .i64 0]), .int .i64 now] w fun e w' => TakeR X w w' m p room fail now s c e := by
  by_cases hk : frm ∈ s.v.nodes
  · refine (takeB_any h hc node epoch 0 frm now hk hn0 hn1 hf0 hf1).mono ?_
    rintro e w' ⟨v, os, rfl, hS, hB, hK⟩
    unfold BeatR at hB
    split at hB
    · obtain ⟨rfl, hM⟩ := hB
      exact ⟨v, [], s, vs, rfl, hS, (fun o ho => by cases ho), by simp, StP.refl _ _ _, hM.more (by omega), hK⟩
    · split at hB
      · obtain ⟨⟨o, rfl, hr, hV⟩, hM⟩ := hB
        exact ⟨v, [o], s.hear frm now, vs, rfl, hS, (fun o' ho => by rw [List.mem_singleton.1 ho]; exact hV.outP _ _ _), by simp, ⟨fun h => h.hear hn0, .inl rfl, fun l hh h => h.hear hh⟩, hM, hK⟩
      · rename_i hne
        obtain ⟨rfl, hM⟩ := hB
        have hep : epoch = s.v.ep := Decidable.byContradiction hne
        refine ⟨v, _, (s.hear frm now).makeReady frm epoch, vs, rfl, hS, (fun o' ho => ?_), by simp, ⟨fun h => h.hear hn0, .inl rfl, fun l hh h => h.hear hh⟩, hM, hK⟩
        rw [List.mem_singleton.1 ho]
        refine .inr ⟨rfl, now + fail / 2, by rw [hep]; rfl, by omega, hk, ?_, by omega⟩
        show now + fail / 2 ≤ (if frm = frm then now else s.hd frm) + fail / 2
        rw [if_pos rfl]
        exact Int.le_refl _
  · refine (takeX_any h node epoch 0 frm now hk).mono ?_
    rintro e w' ⟨v, o, rfl, hS, hr, hV, hB⟩
    exact ⟨v, [o], s, vs, rfl, hS, (fun o' ho => by rw [List.mem_singleton.1 ho]; exact hV.outP _ _ _), by simp, StP.refl _ _ _, (h.fresh hB).more (by omega), Kx.of_below hB⟩
theorem take_join (h : Mst X w m p room fail vs s c) (hc : c < 999999999) (node boot frm now : Int) (hn0 : 0 ≤ now) (hroom : 2816 ≤ room) :
    Calls Tryz.prog 9 #[.pointer (some ⟨m, 0, none⟩), .int .i64 frm, .iface 48 (.agg #[.int .i64 node, .int .i64 boot]), .int .i64 now] w fun e w' => TakeR X w w' m p room fail now s c e := by
  by_cases hk : frm ∈ s.v.nodes
  · refine (takeJ_any h node boot frm now hk).mono ?_
    rintro e w' ⟨v, o, rfl, hS, hr, hV, hB⟩
    exact ⟨v, [o], s, vs, rfl, hS, (fun o' ho => by rw [List.mem_singleton.1 ho]; exact hV.outP _ _ _), by simp, StP.refl _ _ _, (h.fresh hB).more (by omega), Kx.of_below hB⟩
  by_cases hne : node = frm
  · by_cases hbad : frm < 1 ∨ 100 < frm ∨ boot < 0 ∨ 274877906944 < boot
    · refine (takeK_bad h node boot frm now hk hne hbad).mono ?_
      rintro e w' ⟨rfl, hB⟩
      exact ⟨_, [], s, vs, rfl, Sl.nil_ _ _ _ _, (fun o ho => by cases ho), by simp, StP.refl _ _ _, (h.fresh hB).more (by omega), Kx.of_below hB⟩
    · by_cases hx : s.v.L.length = 6 ∨ s.v.ep = 274877906944
      · refine (takeK_full h node boot frm now hk hne (by omega) (by omega) (by omega) (by omega) hx).mono ?_
        rintro e w' ⟨v, o, rfl, hS, hr, hV, hB⟩
        exact ⟨v, [o], s, vs, rfl, hS, (fun o' ho => by rw [List.mem_singleton.1 ho]; exact hV.outP _ _ _), by simp, StP.refl _ _ _, (h.fresh hB).more (by omega), Kx.of_below hB⟩
      · have h6 : s.v.L.length ≠ 6 := fun e => hx (.inl e)
        have h7 : s.v.ep ≠ 274877906944 := fun e => hx (.inr e)
        have hlen : vs.length ≤ 21 := by obtain ⟨_, _, _, _, _, _, _, h⟩ := h; exact h.lenv
        have hn6 := h.right.n2
        refine (takeK_ok h hc node boot frm now hk hne (by omega) (by omega) (by omega) (by omega) h6 h7 (by omega)).mono ?_
        rintro e w' ⟨v, os, rfl, hS, hV, hM, hK⟩
        have hlo : os.length ≤ 10 := by
          have := congrArg List.length hV.1
          rw [List.length_map] at this
          rw [this]
          show ((s.v.withN frm boot).L.map Nd.node).length ≤ 10
          rw [List.length_map]
          show (s.v.L ++ [_]).length ≤ 10
          rw [List.length_append, List.length_singleton]
          omega
        exact ⟨v, os, s.come frm boot now, _, rfl, hS, (fun o ho => (hV.2 o ho).outP _ _ _), hlo, ⟨fun h => h.come hn0, .inr ⟨frm, boot, by omega, by omega, by omega, by omega, hk, h6, h7, rfl⟩, fun l _ h => h.come hk⟩, hM.more (by omega), hK⟩
  · refine (takeK_other h node boot frm now hk hne).mono ?_
    rintro e w' ⟨rfl, hB⟩
    exact ⟨_, [], s, vs, rfl, Sl.nil_ _ _ _ _, (fun o ho => by cases ho), by simp, StP.refl _ _ _, (h.fresh hB).more (by omega), Kx.of_below hB⟩
theorem take_where (h : Mst X w m p room fail vs s c) (id frm now : Int) :
    Calls Tryz.prog 9 #[.pointer (some ⟨m, 0, none⟩), .int .i64 frm, .iface 37 (.agg #[.int .i64 id]), .int .i64 now] w fun e w' => TakeR X w w' m p room fail now s c e := by
  refine (takeW_any h id frm now).mono ?_
  rintro e w' ⟨v, o, rfl, hS, hr, hV, hB⟩
  exact ⟨v, [o], s, vs, rfl, hS, (fun o' ho => by rw [List.mem_singleton.1 ho]; exact hV.outP _ _ _), by simp, StP.refl _ _ _, (h.fresh hB).more (by omega), Kx.of_below hB⟩
theorem take_said (h : Mst X w m p room fail vs s c) (hc : c < 999999999) (a : Ac) (x : Value) (hx : SaidM a x) (now : Int) (hn0 : 0 ≤ now) (hn1 : now ≤ 1000000000000000) (hf0 : 4 ≤ fail) (hf1 : fail ≤ 1073741824) (hroom : 2816 ≤ room) :
    Calls Tryz.prog 9 #[.pointer (some ⟨m, 0, none⟩), .int .i64 a.frm, x, .int .i64 now] w fun e w' => TakeR X w w' m p room fail now s c e := by
  rcases hx with ⟨ne, rfl⟩ | rfl | rfl
  · exact take_beat h hc a.node ne a.frm now hn0 hn1 hf0 hf1
  · exact take_join h hc a.node a.n a.frm now hn0 hroom
  · exact take_where h a.n a.frm now
end
end Go.Proofs.YtoegdpcfhmjnaaaGreatDoor

/- Open on a disk that keeps views. Under the stated premises on sizes. -/
namespace Go.Proofs.YtoegdpcfhmjnaaaGreatDoor
open Go.RowKit Go.Bl
attribute [local go_sem ↓] Go.wp_at_zero Go.wp_at_succ

theorem mvD_whole (room : Int) (vs : List Vw) : Whole (mvD room vs).L := by
  unfold mvD
  split
  · exact fun f hf => by cases hf
  · exact fun f hf => by rw [List.mem_singleton.1 hf]
/-- A crash changes nothing of a disk that keeps views. -/
theorem crash_kept {X : Nat → Prop} {w : World} {p : Nat} {room : Int} {vs : List Vw} (h : Qd X w p (mvD room vs)) (kv : Value) (keep : List Int) (hk : Sl w X 1 intc kv keep) :
    Calls Tryz.prog 19 #[.pointer (some ⟨p, 0, none⟩), kv] w fun e w' => e = .returned (.tuple #[]) ∧ Qd X w' p (mvD room vs) ∧ Kx X w w' := by
  refine (crashQ h kv keep hk).mono ?_
  rintro e w' ⟨he, ks, hN, hQ, hK⟩
  rw [crashN_again (mvD_whole room vs)] at hQ
  exact ⟨he, hQ, hK⟩
/-- Fewer blocks are kept away. -/
theorem Qd.less {X Y : Nat → Prop} {w : World} {p : Nat} {d : Dk} (h : Qd Y w p d) (hX : ∀ k, X k → Y k) (hl : ∀ k, k < 2 → X k) : Qd X w p d := ⟨h.tabs, hl, fun k hk => h.hX k (hX k hk), h.disk.more fun k hk => .inl (hX k hk)⟩
theorem Mst.disk {X : Nat → Prop} {w : World} {m p : Nat} {room fail : Int} {vs : List Vw} {s : Ms} {c : Nat} (h : Mst X w m p room fail vs s c) : Qd X w p (mvD room vs) ∧ VsUp 0 vs ∧ vs ≠ [] ∧ vs.length ≤ 21 ∧ lastV noV vs = s.v := by
  obtain ⟨_, _, _, _, _, _, _, h⟩ := h
  exact ⟨h.disk.less h.xy h.lx, h.ups, h.ne, h.lenv, h.last⟩
set_option maxRecDepth 20000 in
set_option maxHeartbeats 8000000 in
theorem open_kept {X : Nat → Prop} {w : World} {p : Nat} {room : Int} {vs : List Vw} (h : Qd X w p (mvD room vs)) (hu : VsUp 0 vs) (hne : vs ≠ []) (hlen : vs.length ≤ 21) (fv : Value) (fail now : Int) (hf0 : 4 ≤ fail) (hf1 : fail ≤ 1073741824) (hn : 0 ≤ now) :
    Calls Tryz.prog 8 #[.pointer (some ⟨p, 0, none⟩), fv, .int .i64 fail, .int .i64 now] w fun e w' => ∃ m, e = .returned (.tuple #[.pointer (some ⟨m, 0, none⟩), .int .i64 0]) ∧ Mst X w' m p room fail vs ⟨lastV noV vs, fun _ => now, fun _ => 0⟩ 6 ∧ Kx X w w' := by
  have d1 : decide (fail < 4) = false := decide_eq_false (by omega)
  have d2 : decide (1073741824 < fail) = false := decide_eq_false (by omega)
  have d3 : decide (now < 0) = false := decide_eq_false (by omega)
  have hvl : 1 ≤ vs.length := List.length_pos_iff.2 hne
  have d4 : ((vs.length : Int) == 0) = false := by rw [beq_eq_false_iff_ne]; omega
  have hrd := mvD_read room vs
  have hka := kept_any h vs hu (by omega) (hrd.imp fun _ h => h.1)
  have hrv : RightV (lastV noV vs) := lastV_right (a := noV) hu hne
  obtain ⟨v, hv⟩ : ∃ v, lastV noV vs = v := ⟨_, rfl⟩
  have HV := Lib.hid hv
  rw [hv] at hrv hka ⊢
  have HK := Lib.hid hka
  have HQ := Lib.hid h
  have HRV := Lib.hid hrv
  have HU := Lib.hid hu
  have HNE := Lib.hid hne
  obtain ⟨k, hk⟩ : ∃ k, v.L.length = k := ⟨_, rfl⟩
  have hk6 : k ≤ 6 := hk ▸ hrv.n2
  have HKL := Lib.hid hk
  clear h hu hne hrd hka hrv hv hk
  go_enter Tryz.func8, Tryz.ntmps8
  go_wp2_with fail
  refine HK.out.mono ?_
  rintro e w1 ⟨a, b, c, rfl, hV, hB1⟩
  obtain ⟨A, ca, B, cb, C, cc, rfl, rfl, rfl, _⟩ := hV.shape
  rw [HKL.out]
  rw [HKL.out] at hV
  have HV1 := Lib.hid hV
  have HB1 := Lib.hid hB1
  clear hV hB1
  go_upto_region 4 with (fail)
  obtain ⟨q, hq⟩ : ∃ q, w1.heap.size = q := ⟨_, rfl⟩
  have hal : Below w1.heap.size w1 (w1.alloc (.cells #[.int .i64 v.ep, .slice A k ca, .slice B k cb, .slice C k cc] 45)) := (Below.refl _ w1).alloc (Nat.le_refl _) _
  have hk2 := heap_alloc_new w1 (.cells #[.int .i64 v.ep, .slice A k ca, .slice B k cb, .slice C k cc] 45)
  rw [hq] at hk2 ⊢
  generalize w1.alloc (.cells #[.int .i64 v.ep, .slice A k ca, .slice B k cb, .slice C k cc] 45) = w7 at hal hk2 ⊢
  have HB6 := Lib.hid (HB1.out.trans (hal.mono HB1.out.size))
  have HV6 := Lib.hid ((HV1.out.fresh hal).mono (F' := fun b => w.heap.size ≤ b ∧ b < w7.heap.size) fun b hb2 h1 => ⟨h1, hb2⟩)
  have HQ7 := Lib.hid (HQ.out.fresh HB6.out)
  have q0 : w7.cell? ⟨q, 0, none⟩ = some (.int .i64 v.ep) := cell_of_row w7 q 0 _ _ _ hk2
  have q1 : w7.cell? ⟨q, 1, none⟩ = some (.slice A k ca) := cell_of_row w7 q 1 _ _ _ hk2
  have q2 : w7.cell? ⟨q, 2, none⟩ = some (.slice B k cb) := cell_of_row w7 q 2 _ _ _ hk2
  have q3 : w7.cell? ⟨q, 3, none⟩ = some (.slice C k cc) := cell_of_row w7 q 3 _ _ _ hk2
  have hmm := @run_makeMap Tryz.prog
  clear hal hk2 hq
  go_upto_region 19 with (fail)
  clear hmm
  obtain ⟨bh, hbh⟩ : ∃ bh, w7.heap.size = bh := ⟨_, rfl⟩
  obtain ⟨W, hW⟩ : ∃ W, ((w7.alloc (.map #[] 0)).alloc (.map #[] 0)).alloc (.cells #[.pointer (some ⟨p, 0, none⟩), .int .i64 v.ep, .slice A k ca, .slice B k cb, .slice C k cc, .int .i64 fail, .map (some w7.heap.size), .map (some (w7.heap.size + 1))] 89) = W := ⟨_, rfl⟩
  rw [hW, hbh]
  have hBW : Below w7.heap.size w7 W := hW ▸ ((((Below.refl _ w7).alloc (Nat.le_refl _) _).alloc (by simp) _).alloc (by rw [World.size_alloc, World.size_alloc]; omega) _)
  have hsW : W.heap.size = bh + 3 := by rw [← hW, World.size_alloc, World.size_alloc, World.size_alloc, hbh]
  have hWm : W.heap[bh + 2]? = some (.cells #[.pointer (some ⟨p, 0, none⟩), .int .i64 v.ep, .slice A k ca, .slice B k cb, .slice C k cc, .int .i64 fail, .map (some bh), .map (some (bh + 1))] 89 (0, 0)) := by
    have := heap_alloc_new ((w7.alloc (.map #[] 0)).alloc (.map #[] 0)) (.cells #[.pointer (some ⟨p, 0, none⟩), .int .i64 v.ep, .slice A k ca, .slice B k cb, .slice C k cc, .int .i64 fail, .map (some w7.heap.size), .map (some (w7.heap.size + 1))] 89)
    rw [hW, World.size_alloc, World.size_alloc, hbh] at this
    exact this
  have hM1 : MapI W bh (fun _ => none) 0 := by
    refine ⟨0, Nat.le_refl _, ?_⟩
    have := (MapV.made w7 Tryz.prog 3 intLit).keep (G := fun _ => False) (((Keeps.refl _ _).alloc (.map #[] 0)).alloc (.cells #[.pointer (some ⟨p, 0, none⟩), .int .i64 v.ep, .slice A k ca, .slice B k cb, .slice C k cc, .int .i64 fail, .map (some w7.heap.size), .map (some (w7.heap.size + 1))] 89)) id
    rw [hW, hbh] at this
    exact this
  have hM2 : MapI W (bh + 1) (fun _ => none) 0 := by
    refine ⟨0, Nat.le_refl _, ?_⟩
    have := (MapV.made (w7.alloc (.map #[] 0)) Tryz.prog 3 intLit).keep (G := fun _ => False) ((Keeps.refl _ _).alloc (.cells #[.pointer (some ⟨p, 0, none⟩), .int .i64 v.ep, .slice A k ca, .slice B k cb, .slice C k cc, .int .i64 fail, .map (some w7.heap.size), .map (some (w7.heap.size + 1))] 89)) id
    rw [hW, World.size_alloc, hbh] at this
    exact this
  have hs60 : w.heap.size ≤ bh := hbh ▸ HB6.out.size
  have hXl : ∀ b, X b → b < w.heap.size := fun b hb => HQ.out.hX b hb
  have hMR : MstR X W (bh + 2) p room fail vs v 0 (fun b => X b ∨ (w.heap.size ≤ b ∧ b < W.heap.size)) (fun b => w.heap.size ≤ b ∧ b < bh) bh (bh + 1) (.slice A k ca) (.slice B k cb) (.slice C k cc) (ghF v.nodes now 0) (fun _ => none) :=
    { disk := HQ.out.more (HB6.out.trans (hBW.mono HB6.out.size)) (fun b hb => hb.imp id And.left) (fun b hb => hb.elim (fun h => Nat.lt_of_lt_of_le (hXl b h) (by omega)) And.right) (fun b hb => .inl (HQ.out.low b hb))
      lx := HQ.out.low
      xy := fun b hb => .inl hb
      ym := ⟨.inr (by omega), .inr (by omega), .inr (by omega)⟩
      yf := fun b hb => .inr ⟨hb.1, by have := hb.2; omega⟩
      xm := ⟨fun h => by have := hXl _ h; omega, fun h => by have := hXl _ h; omega, fun h => by have := hXl _ h; omega⟩
      fm := ⟨fun h => by omega, fun h => by omega, fun h => by omega⟩
      hne := by omega
      blk := hWm
      sl := (hbh ▸ HV6.out).fresh hBW
      heard := hM1.congr fun x => by simp [ghF]
      ready := hM2
      ups := HU.out
      ne := HNE.out
      lenv := hlen
      last := HV.out
      xf := fun b hb hf => by have := hXl b hb; have := hf.1; omega
      right := HRV.out }
  have HKX : Hid (Kx X w W) := Lib.hid ((Kx.of_below HB6.out).trans (Kx.of_below hBW))
  have HXb : Hid (¬ X bh) := Lib.hid fun h => by have := hXl _ h; omega
  have HMR := Lib.hid hMR
  have q1 : W.cell? ⟨q, 1, none⟩ = some (.slice A k ca) := (hBW.cell (p := ⟨q, 1, none⟩) (World.block_lt_of_cell? _ _ q1)).trans q1
  clear hW hbh hBW hsW hWm hM1 hM2 hs60 hXl hMR q0 q2 q3
  go_wp2_with fail
  go_loopw [81] (fun i wx => ∃ j : Nat, j ≤ k ∧ i = .int .i64 j ∧ MstR X wx (bh + 2) p room fail vs v j (fun b => X b ∨ (w.heap.size ≤ b ∧ b < W.heap.size)) (fun b => w.heap.size ≤ b ∧ b < bh) bh (bh + 1) (.slice A k ca) (.slice B k cb) (.slice C k cc) (ghF v.nodes now j) (fun _ => none) ∧ Keeps (fun b => b = bh) W wx) (fun i _ => k - (intOf i).toNat)
  case atStart => exact ⟨0, Nat.zero_le _, rfl, HMR.out, Keeps.refl _ _⟩
  case round =>
    obtain ⟨j, hj, rfl, hM, hKj⟩ := hrel
    have HM := Lib.hid hM
    have HKJ := Lib.hid hKj
    clear hM hKj
    have HNL := Lib.hid (show v.nodes.length = k from (List.length_map _).trans HKL.out)
    by_cases hlt2 : j < k
    · have d5 : decide ((j : Int) < (k : Int)) = true := decide_eq_true (by omega)
      have hjf : j < v.nodes.length := by rw [HNL.out]; exact hlt2
      have hch := HM.out.sl.ch
      obtain ⟨b, o, rfl, _, _, hxx⟩ := hch.cell_ (i := j) hjf
      have x0 := hxx 0 _ rfl
      rw [Nat.mul_one, Nat.add_zero] at x0
      obtain ⟨x, hx⟩ : ∃ x, (List.map Nd.node v.L)[j]'hjf = x := ⟨_, rfl⟩
      rw [hx] at x0
      have hx : v.nodes[j] = x := hx
      have hxb : 1 ≤ x ∧ x ≤ 100 := by
        obtain ⟨y, hy, hyx⟩ := List.mem_map.1 (show x ∈ v.L.map Nd.node from hx ▸ List.getElem_mem hjf)
        have hb := HRV.out.bd y hy
        rw [hyx] at hb
        exact ⟨hb.1, hb.2.1⟩
      have HXE := Lib.hid (show ∀ y, (if y = x then some (Value.int .i64 now) else ghF v.nodes now j y) = ghF v.nodes now (j + 1) y from fun y => by
        unfold ghF
        have ht := List.take_succ_eq_append_getElem hjf
        rw [hx] at ht
        rw [ht]
        by_cases e : y = x
        · rw [if_pos e, if_pos (by simp [e])]
        · rw [if_neg e]
          by_cases e2 : y ∈ v.nodes.take j
          · rw [if_pos e2, if_pos (by simp [e2])]
          · rw [if_neg e2, if_neg (by simp [e2, e])])
      obtain ⟨-, -, -, -, -, -, y6, -⟩ := HM.out.cells
      obtain ⟨wy, hry, hMy, hky, hsy⟩ := HM.out.put_heard (by omega) (x := x) (by unfold i64; omega) (.int .i64 now)
      have HMy := Lib.hid hMy
      have HKy := Lib.hid (HKJ.out.trans hky)
      have hjl : j < k := hlt2
      clear hch hxx hx hMy hky hsy
      go_wp2_with fail
      go_roundw
      case rel => exact ⟨j + 1, hlt2, by go_num, { HMy.out with heard := HMy.out.heard.congr HXE.out }, HKy.out⟩
      case measure => simp [intOf]; omega
    · have hjk : j = k := by omega
      subst hjk
      have d5 : decide ((j : Int) < (j : Int)) = false := by simp
      go_wp2_with fail
      refine bodyPost_ret (v := .tuple #[.pointer (some ⟨bh + 2, 0, none⟩), .int .i64 0]) (by simp [results, Tryz.results8, go_sem]) rfl ⟨bh + 2, rfl, ⟨_, _, _, _, _, _, _, MstIn.more (HM.out.mst (s := ⟨v, fun _ => now, fun _ => 0⟩) (fun x => ?_) (fun x => ?_) (fun _ => Int.le_refl _)) hk6⟩, HKX.out.trans (HKJ.out.mono fun b _ e h => HXb.out (by have e2 : b = bh := e; exact e2 ▸ h))⟩
      · show ghF v.nodes now j x = if x ∈ v.nodes then some (Value.int .i64 now) else none
        unfold ghF
        rw [List.take_of_length_le (by rw [HNL.out]; exact Nat.le_refl _)]
      · unfold rdF
        rw [if_pos rfl]
end Go.Proofs.YtoegdpcfhmjnaaaGreatDoor

namespace Go.Proofs.YtoegdpcfhmjnaaaGreatDoor
open Go.RowKit Go.Bl

/-- The lease that is told, if it is one. -/
def payU : Value → Int
  | .agg a => (match a.toList with | [_, .int _ u] => u | _ => 0)
  | _ => 0
def newL (o : OutE) : List (Int × Int) := if o.T = 64 then [(o.rcv, payU o.pay)] else []
def lec (p : Int × Int) : List Value := [.int .i64 p.1, .int .i64 p.2]
theorem lec_one (p : Int × Int) (u : Value) (h : u ∈ lec p) : u.oneCell' = true := by
  unfold lec at h
  simp only [List.mem_cons, List.not_mem_nil, or_false] at h
  rcases h with rfl | rfl <;> rfl
theorem infoLL : (Tryz.prog.info? 67).map (fun i => (i.zero, i.size, i.bytes)) = some (some (.agg #[.int .i64 0, .int .i64 0]), 2, 16) := by kernel_rfl
theorem elLL : El Tryz.prog 55 67 2 16 lec := ⟨Tryz.underlying55, ⟨_, infoLL, rfl⟩, by decide, by decide, fun _ => rfl, lec_one⟩
theorem newL_none {o : OutE} (h : o.T ≠ 64) : newL o = [] := by unfold newL; rw [if_neg h]
theorem newL_some {o : OutE} {e u : Int} (h : o.T = 64) (hp : o.pay = .agg #[.int .i64 e, .int .i64 u]) : newL o = [(o.rcv, u)] := by unfold newL; rw [if_pos h, hp]; rfl
theorem newL_len (o : OutE) : (newL o).length ≤ 1 := by
  unfold newL
  split <;> simp
theorem newLs_len : ∀ os : List OutE, (os.flatMap newL).length ≤ os.length
  | [] => by simp
  | o :: os => by
    rw [List.flatMap_cons, List.length_append, List.length_cons]
    have := newL_len o
    have := newLs_len os
    omega
theorem newLs_none : ∀ {os : List OutE}, (∀ o ∈ os, o.T ≠ 64) → os.flatMap newL = []
  | [], _ => rfl
  | o :: os, h => by rw [List.flatMap_cons, newL_none (h o List.mem_cons_self), newLs_none fun o' ho => h o' (List.mem_cons_of_mem _ ho)]; rfl
theorem Leases.told {s : Ms} {fail now : Int} {l : List (Int × Int)} (h : Leases s fail now l) : ∀ {os : List OutE}, (∀ o ∈ os, OutP fail now s o) → Leases s fail now (l ++ os.flatMap newL) := fun {os} ho p hp => by
  rcases List.mem_append.1 hp with hp | hp
  · exact h p hp
  · obtain ⟨o, hom, hpo⟩ := List.mem_flatMap.1 hp
    rcases ho o hom with h1 | ⟨h1, u, h2, h3, h4, h5, _⟩
    · rw [newL_none h1] at hpo
      cases hpo
    · rw [newL_some h1 h2, List.mem_singleton] at hpo
      subst hpo
      exact .inr ⟨h4, h5⟩
theorem tickF_ep (fail now : Int) : ∀ (f : Nat) (s : Ms), (s.tickF fail now f).v.ep ≤ s.v.ep + f
  | 0, s => by show s.v.ep ≤ _; omega
  | f + 1, s => by
    unfold Ms.tickF
    cases hf : s.v.nodes.find? (s.silent fail now) with
    | none => show s.v.ep ≤ _; omega
    | some k =>
      show (if s.v.ep = 274877906944 then s else (s.out k).tickF fail now f).v.ep ≤ _
      split
      · omega
      · have := tickF_ep fail now f (s.out k)
        have e : (s.out k).v.ep = s.v.ep + 1 := rfl
        omega
theorem StP.ep {fail now : Int} {s s' : Ms} (h : StP fail now s s') : s'.v.ep ≤ s.v.ep + 1 := by
  rcases h.view with e | ⟨_, _, _, _, _, _, _, _, _, e⟩
  · rw [e]; omega
  · rw [e]; show s.v.ep + 1 ≤ _; omega
/-- Opened again: all are heard now. -/
theorem Leases.again {s : Ms} {fail now : Int} {l : List (Int × Int)} (h : Leases s fail now l) (hh : Heard s now) (v : Vw) (hv : v = s.v) : Leases ⟨v, fun _ => now, fun _ => 0⟩ fail now l := fun p hp => (h p hp).imp id fun ⟨h1, h2⟩ => ⟨by rw [hv]; exact h1, by
  show p.2 ≤ now + fail / 2
  have := (hh p.1 h1).2
  omega⟩
theorem Heard.again {now : Int} (h0 : 0 ≤ now) (v : Vw) : Heard ⟨v, fun _ => now, fun _ => 0⟩ now := fun _ _ => ⟨h0, Int.le_refl _⟩
/-- A row beside the master is one of the kept blocks, though it grows. -/
theorem Mst.grow {X X' G : Nat → Prop} {w w' : World} {m p : Nat} {room fail : Int} {vs : List Vw} {s : Ms} {c : Nat} (h : Mst X w m p room fail vs s c) (hk : Keeps G w w') (hG : ∀ k, G k → X k ∧ 2 ≤ k) (hX : ∀ k, X' k → X k ∨ (w.heap.size ≤ k ∧ k < w'.heap.size)) (hl : ∀ k, k < 2 → X' k) : Mst X' w' m p room fail vs s c := by
  obtain ⟨Y, F, bh, br, va, vb, vc, h⟩ := h
  exact ⟨_, _, _, _, _, _, _, (h.raw.grow hk (fun k hk => ⟨h.xy k (hG k hk).1, (hG k hk).2, fun e => h.xm.1 (e ▸ (hG k hk).1), fun e => h.xm.2.1 (e ▸ (hG k hk).1), fun e => h.xm.2.2 (e ▸ (hG k hk).1), h.xf k (hG k hk).1⟩) hX hl).mst (fun _ => rfl) (fun _ => rfl) h.rdge⟩
/-- The master and the leases in memory. -/
structure LeIn (X : Nat → Prop) (w : World) (base g : Nat) (p m : Nat) (fail now : Int) (s : Ms) (vs : List Vw) (c : Nat) (lv : Value) (l : List (Int × Int)) (wr : World) : Prop where
  mst : Mst (fun k => X k ∨ lv.ownBlock = some k) wr m p 100000 fail vs s c
  own : Go.Bl.Own wr base 67 2 lec lv l
  heard : Heard s now
  leases : Leases s fail now l
  below : Below w.heap.size w wr
  sz : base ≤ wr.heap.size
  pair : wr.cell? ⟨g, 0, none⟩ = some (.pointer (some ⟨p, 0, none⟩))
theorem LeIn.fresh {X : Nat → Prop} {w : World} {base g : Nat} {p m : Nat} {fail now : Int} {s : Ms} {vs : List Vw} {c : Nat} {lv : Value} {l : List (Int × Int)} {wr wx : World} (h : LeIn X w base g p m fail now s vs c lv l wr) (hB : Below wr.heap.size wr wx) : LeIn X w base g p m fail now s vs c lv l wx :=
  ⟨h.mst.fresh hB, h.own.fresh hB, h.heard, h.leases, h.below.trans (hB.mono h.below.size), Nat.le_trans h.sz hB.size, (hB.cell (p := ⟨g, 0, none⟩) (World.block_lt_of_cell? _ _ h.pair)).trans h.pair⟩
/-- What stays the same of a round of the law. -/
structure LeK (i : Nat) (now : Int) (s : Ms) (c : Nat) (l : List (Int × Int)) : Prop where
  n0 : 0 ≤ now
  n1 : now ≤ i * 4294967296
  c1 : c ≤ 6 + 2 * i
  e1 : s.v.ep ≤ 1 + 6 * i
  l1 : l.length ≤ 10 * i
end Go.Proofs.YtoegdpcfhmjnaaaGreatDoor
