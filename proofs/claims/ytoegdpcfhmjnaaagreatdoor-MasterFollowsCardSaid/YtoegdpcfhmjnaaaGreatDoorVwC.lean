/- Views: told as a message. Under the stated premises on sizes. -/
import Derived.Test.YtoegdpcfhmjnaaaGreatDoorVwB
import Derived.Deep.RegionHeld3
namespace Go.Proofs.YtoegdpcfhmjnaaaGreatDoor
open Go.RowKit Go.Bl
attribute [local go_sem ↓] Go.wp_at_zero Go.wp_at_succ

theorem VwSl.some_ {w : World} {F : Nat → Prop} {L : List Nd} {a b c : Value} (h : VwSl w F L a b c) (hL : 0 < L.length) : ∃ qa oa ca qb ob cb qc oc cc, a = .slice (some ⟨qa, oa, none⟩) L.length ca ∧ b = .slice (some ⟨qb, ob, none⟩) L.length cb ∧ c = .slice (some ⟨qc, oc, none⟩) L.length cc ∧
    L.length ≤ ca ∧ ca ≤ 9223372036854775807 ∧ L.length ≤ cb ∧ L.length ≤ cc := by
  obtain ⟨A, ca, B, cb, C, cc, rfl, rfl, rfl, h1, h2, h3, h4⟩ := h.shape
  obtain ⟨qa, oa, rfl, _⟩ := h.ch.cell_ (i := 0) (by rw [List.length_map]; exact hL)
  obtain ⟨qb, ob, rfl, _⟩ := h.si.cell_ (i := 0) (by rw [List.length_map]; exact hL)
  obtain ⟨qc, oc, rfl, _⟩ := h.bo.cell_ (i := 0) (by rw [List.length_map]; exact hL)
  exact ⟨qa, oa, ca, qb, ob, cb, qc, oc, cc, rfl, rfl, rfl, h1, h2, h3, h4⟩
/-- A row of the call's own, made behind a world that is known. -/
theorem Own.since {w w' : World} {base : Nat} {v : Value} {l : List Int} (h : Own w' base 3 1 intc v l) (hb : w.heap.size ≤ base) : Sl w' (fun k => w.heap.size ≤ k) 1 intc v l :=
  (h.sl (fun _ => rfl)).mono fun k _ hk => Nat.le_trans hb (h.lt k hk).1
theorem four_keeps (w : World) (r : Nat) (v0 v1 v2 v3 : Value) : Keeps (fun k => k = r) w ((((w.setCell ⟨r, 0, none⟩ v0).setCell ⟨r, 1, none⟩ v1).setCell ⟨r, 2, none⟩ v2).setCell ⟨r, 3, none⟩ v3) :=
  ((((Keeps.refl (fun k => k = r) w).setCell (p := ⟨r, 0, none⟩) (fun _ => rfl) v0).setCell (p := ⟨r, 1, none⟩) (fun _ => rfl) v1).setCell (p := ⟨r, 2, none⟩) (fun _ => rfl) v2).setCell (p := ⟨r, 3, none⟩) (fun _ => rfl) v3
theorem four_other {w : World} {r : Nat} {v0 v1 v2 v3 : Value} {q o : Nat} {u : Value} (h : q < r) (hc : w.cell? ⟨q, o, none⟩ = some u) : ((((w.setCell ⟨r, 0, none⟩ v0).setCell ⟨r, 1, none⟩ v1).setCell ⟨r, 2, none⟩ v2).setCell ⟨r, 3, none⟩ v3).cell? ⟨q, o, none⟩ = some u :=
  ((four_keeps w r v0 v1 v2 v3).cell (a := ⟨q, o, none⟩) (World.block_lt_of_cell? _ _ hc) (fun e => by have : q = r := e; omega)).trans hc
theorem four_block {w : World} {r : Nat} {a0 a1 a2 a3 : Value} {t : TypeId} (h : w.heap[r]? = some (.cells #[a0, a1, a2, a3] t (0, 0))) (v0 v1 v2 v3 : Value) :
    ((((w.setCell ⟨r, 0, none⟩ v0).setCell ⟨r, 1, none⟩ v1).setCell ⟨r, 2, none⟩ v2).setCell ⟨r, 3, none⟩ v3).heap[r]? = some (.cells #[v0, v1, v2, v3] t (0, 0)) :=
  setCell_block (o := 3) (setCell_block (o := 2) (setCell_block (o := 1) (setCell_block (o := 0) h v0) v1) v2) v3
set_option maxRecDepth 20000 in
set_option maxHeartbeats 4000000 in
theorem message_any (w : World) (F : Nat → Prop) (ep : Int) (L : List Nd) (a b c : Value) (h : VwSl w F L a b c) (hL : 0 < L.length) (hm : L.length ≤ 1000000) :
    Calls Tryz.prog 59 #[.agg #[.int .i64 ep, a, b, c]] w fun e w' => ∃ a' b' c', e = .returned (.agg #[.int .i64 ep, a', b', c']) ∧ VwSl w' (fun k => w.heap.size ≤ k) L a' b' c' ∧ Below w.heap.size w w' := by
  obtain ⟨qa, oa, ca, qb, ob, cb, qc, oc, cc, rfl, rfl, rfl, hca, hcm, hcb, hcc⟩ := h.some_ hL
  have hB0 : Below w.heap.size w ((w.alloc (.cells #[.int .i64 ep, .slice (some ⟨qa, oa, none⟩) L.length ca, .slice (some ⟨qb, ob, none⟩) L.length cb, .slice (some ⟨qc, oc, none⟩) L.length cc] 45)).alloc (.cells #[.int .i64 0, .slice none 0 0, .slice none 0 0, .slice none 0 0] 122)) := ((Below.refl _ w).alloc (Nat.le_refl _) _).alloc (by simp) _
  have hb1 : ((w.alloc (.cells #[.int .i64 ep, .slice (some ⟨qa, oa, none⟩) L.length ca, .slice (some ⟨qb, ob, none⟩) L.length cb, .slice (some ⟨qc, oc, none⟩) L.length cc] 45)).alloc (.cells #[.int .i64 0, .slice none 0 0, .slice none 0 0, .slice none 0 0] 122)).heap[w.heap.size]? = some (.cells #[.int .i64 ep, .slice (some ⟨qa, oa, none⟩) L.length ca, .slice (some ⟨qb, ob, none⟩) L.length cb, .slice (some ⟨qc, oc, none⟩) L.length cc] 45 (0, 0)) := (Below.heap_alloc _ _ _ (by simp)).trans (heap_alloc_new w _)
  have hb2 : ((w.alloc (.cells #[.int .i64 ep, .slice (some ⟨qa, oa, none⟩) L.length ca, .slice (some ⟨qb, ob, none⟩) L.length cb, .slice (some ⟨qc, oc, none⟩) L.length cc] 45)).alloc (.cells #[.int .i64 0, .slice none 0 0, .slice none 0 0, .slice none 0 0] 122)).heap[w.heap.size + 1]? = some (.cells #[.int .i64 0, .slice none 0 0, .slice none 0 0, .slice none 0 0] 122 (0, 0)) := by
    have := heap_alloc_new (w.alloc (.cells #[.int .i64 ep, .slice (some ⟨qa, oa, none⟩) L.length ca, .slice (some ⟨qb, ob, none⟩) L.length cb, .slice (some ⟨qc, oc, none⟩) L.length cc] 45)) (.cells #[.int .i64 0, .slice none 0 0, .slice none 0 0, .slice none 0 0] 122)
    rw [World.size_alloc] at this
    exact this
  have H := Lib.hid h
  clear h
  go_enter Tryz.func59, Tryz.ntmps59
  go_upto_region 1 with (fail)
  generalize (w.alloc (.cells #[.int .i64 ep, .slice (some ⟨qa, oa, none⟩) L.length ca, .slice (some ⟨qb, ob, none⟩) L.length cb, .slice (some ⟨qc, oc, none⟩) L.length cc] 45)).alloc (.cells #[.int .i64 0, .slice none 0 0, .slice none 0 0, .slice none 0 0] 122) = w1 at hB0 hb1 hb2 ⊢
  obtain ⟨q, hq⟩ : ∃ q, w.heap.size = q := ⟨_, rfl⟩
  have HQ := Lib.hid hq
  have HB0 := Lib.hid hB0
  rw [hq] at hb1 hb2 ⊢
  obtain ⟨r, hr⟩ : ∃ r, q + 1 = r := ⟨_, rfl⟩
  rw [hr] at hb2 ⊢
  have hqr : q < r := by omega
  have hq1 : q < w1.heap.size := (Array.getElem?_eq_some_iff.1 hb1).1
  have hr1 : r < w1.heap.size := (Array.getElem?_eq_some_iff.1 hb2).1
  have c0 : w1.cell? ⟨q, 0, none⟩ = some (.int .i64 ep) := cell_of_row w1 q 0 _ _ _ hb1
  have c1 : w1.cell? ⟨q, 1, none⟩ = some (.slice (some ⟨qa, oa, none⟩) L.length ca) := cell_of_row w1 q 1 _ _ _ hb1
  have c2 : w1.cell? ⟨q, 2, none⟩ = some (.slice (some ⟨qb, ob, none⟩) L.length cb) := cell_of_row w1 q 2 _ _ _ hb1
  have c3 : w1.cell? ⟨q, 3, none⟩ = some (.slice (some ⟨qc, oc, none⟩) L.length cc) := cell_of_row w1 q 3 _ _ _ hb1
  have r0 : w1.cell? ⟨r, 0, none⟩ = some (.int .i64 0) := cell_of_row w1 r 0 _ _ _ hb2
  have r1 : w1.cell? ⟨r, 1, none⟩ = some (.slice none 0 0) := cell_of_row w1 r 1 _ _ _ hb2
  have r2 : w1.cell? ⟨r, 2, none⟩ = some (.slice none 0 0) := cell_of_row w1 r 2 _ _ _ hb2
  have r3 : w1.cell? ⟨r, 3, none⟩ = some (.slice none 0 0) := cell_of_row w1 r 3 _ _ _ hb2
  have g0 := frozen_block hb2 0
  have g1 := frozen_block hb2 1
  have g2 := frozen_block hb2 2
  have g3 := frozen_block hb2 3
  have HV := Lib.hid (H.out.fresh HB0.out)
  have HB2 := Lib.hid hb2
  clear hq hr hb1 hb2 hB0 H
  have HA0 := Lib.hid (show Below w1.heap.size w1 w1.drew from ⟨rfl, rfl, rfl, Nat.le_refl _, fun _ _ => rfl⟩)
  go_region_held3 (fun x => x.cell? ⟨q, 0, none⟩ = some (.int .i64 ep) ∧ x.cell? ⟨q, 1, none⟩ = some (.slice (some ⟨qa, oa, none⟩) L.length ca) ∧ x.cell? ⟨q, 2, none⟩ = some (.slice (some ⟨qb, ob, none⟩) L.length cb) ∧ x.cell? ⟨q, 3, none⟩ = some (.slice (some ⟨qc, oc, none⟩) L.length cc))
    (first | with_reducible exact ⟨y0, y1, y2, y3⟩ | with_reducible exact ⟨four_other hqr y0, four_other hqr y1, four_other hqr y2, four_other hqr y3⟩ | with_reducible exact ⟨c0, c1, c2, c3⟩ | go_keep)
    (first
      | (go_at_call 30
         with_reducible refine (clone_some _ qa oa L.length ca _ F (HV.out.fresh HA0.out).ch (by rw [List.length_map]; omega)).mono ?_
         rintro e w2 ⟨v1, rfl, hO, hne1, hB⟩
         have HA := Lib.hid (show Below w1.heap.size w1 w2 from HA0.out.trans hB)
         have HO1 := Lib.hid (hO.lower (show w1.heap.size ≤ _ from Nat.le_refl _))
         obtain ⟨X1, x1, rfl, hx1, _⟩ := HO1.out.shape_ (n := L.length) (List.length_map _)
         have y0 := (HA.out.cell (p := ⟨q, 0, none⟩) hq1).trans c0
         have y1 := (HA.out.cell (p := ⟨q, 1, none⟩) hq1).trans c1
         have y2 := (HA.out.cell (p := ⟨q, 2, none⟩) hq1).trans c2
         have y3 := (HA.out.cell (p := ⟨q, 3, none⟩) hq1).trans c3
         have m0 := (HA.out.cell (p := ⟨r, 0, none⟩) hr1).trans r0
         have m1 := (HA.out.cell (p := ⟨r, 1, none⟩) hr1).trans r1
         have m2 := (HA.out.cell (p := ⟨r, 2, none⟩) hr1).trans r2
         have m3 := (HA.out.cell (p := ⟨r, 3, none⟩) hr1).trans r3
         have f0 := (HA.out.frozen (p := ⟨r, 0, none⟩) hr1).trans g0
         have f1 := (HA.out.frozen (p := ⟨r, 1, none⟩) hr1).trans g1
         have f2 := (HA.out.frozen (p := ⟨r, 2, none⟩) hr1).trans g2
         have f3 := (HA.out.frozen (p := ⟨r, 3, none⟩) hr1).trans g3
         clear hO hne1 hB)
      | (go_at_call 30
         with_reducible refine (clone_some _ qb ob L.length cb _ F (HV.out.fresh HA.out).si (by rw [List.length_map]; omega)).mono ?_
         rintro e w3 ⟨v2, rfl, hO, hne1, hB⟩
         have HO1 := Lib.hid (HO1.out.fresh hB)
         have HO2 := Lib.hid (hO.lower (show w1.heap.size ≤ _ from HA.out.size))
         have HA := Lib.hid (HA.out.trans (hB.mono HA.out.size))
         obtain ⟨X2, x2, rfl, hx2, _⟩ := HO2.out.shape_ (n := L.length) (List.length_map _)
         have y0 := (HA.out.cell (p := ⟨q, 0, none⟩) hq1).trans c0
         have y1 := (HA.out.cell (p := ⟨q, 1, none⟩) hq1).trans c1
         have y2 := (HA.out.cell (p := ⟨q, 2, none⟩) hq1).trans c2
         have y3 := (HA.out.cell (p := ⟨q, 3, none⟩) hq1).trans c3
         have m0 := (HA.out.cell (p := ⟨r, 0, none⟩) hr1).trans r0
         have m1 := (HA.out.cell (p := ⟨r, 1, none⟩) hr1).trans r1
         have m2 := (HA.out.cell (p := ⟨r, 2, none⟩) hr1).trans r2
         have m3 := (HA.out.cell (p := ⟨r, 3, none⟩) hr1).trans r3
         have f0 := (HA.out.frozen (p := ⟨r, 0, none⟩) hr1).trans g0
         have f1 := (HA.out.frozen (p := ⟨r, 1, none⟩) hr1).trans g1
         have f2 := (HA.out.frozen (p := ⟨r, 2, none⟩) hr1).trans g2
         have f3 := (HA.out.frozen (p := ⟨r, 3, none⟩) hr1).trans g3
         clear hO hne1 hB)
      | (go_at_call 30
         with_reducible refine (clone_some _ qc oc L.length cc _ F (HV.out.fresh HA.out).bo (by rw [List.length_map]; omega)).mono ?_
         rintro e w4 ⟨v3, rfl, hO, hne1, hB⟩
         have HO1 := Lib.hid (HO1.out.fresh hB)
         have HO2 := Lib.hid (HO2.out.fresh hB)
         have HO3 := Lib.hid (hO.lower (show w1.heap.size ≤ _ from HA.out.size))
         have HA := Lib.hid (HA.out.trans (hB.mono HA.out.size))
         obtain ⟨X3, x3, rfl, hx3, _⟩ := HO3.out.shape_ (n := L.length) (List.length_map _)
         have y0 := (HA.out.cell (p := ⟨q, 0, none⟩) hq1).trans c0
         have y1 := (HA.out.cell (p := ⟨q, 1, none⟩) hq1).trans c1
         have y2 := (HA.out.cell (p := ⟨q, 2, none⟩) hq1).trans c2
         have y3 := (HA.out.cell (p := ⟨q, 3, none⟩) hq1).trans c3
         have m0 := (HA.out.cell (p := ⟨r, 0, none⟩) hr1).trans r0
         have m1 := (HA.out.cell (p := ⟨r, 1, none⟩) hr1).trans r1
         have m2 := (HA.out.cell (p := ⟨r, 2, none⟩) hr1).trans r2
         have m3 := (HA.out.cell (p := ⟨r, 3, none⟩) hr1).trans r3
         have f0 := (HA.out.frozen (p := ⟨r, 0, none⟩) hr1).trans g0
         have f1 := (HA.out.frozen (p := ⟨r, 1, none⟩) hr1).trans g1
         have f2 := (HA.out.frozen (p := ⟨r, 2, none⟩) hr1).trans g2
         have f3 := (HA.out.frozen (p := ⟨r, 3, none⟩) hr1).trans g3
         clear hO hne1 hB))
  have hb4 := four_block ((HA.out.block r hr1).trans HB2.out) (.int .i64 ep) (.slice X1 L.length x1) (.slice X2 L.length x2) (.slice X3 L.length x3)
  have hk4 := four_keeps w4 r (.int .i64 ep) (.slice X1 L.length x1) (.slice X2 L.length x2) (.slice X3 L.length x3)
  have hBe : Below w.heap.size w ((((w4.setCell ⟨r, 0, none⟩ (.int .i64 ep)).setCell ⟨r, 1, none⟩ (.slice X1 L.length x1)).setCell ⟨r, 2, none⟩ (.slice X2 L.length x2)).setCell ⟨r, 3, none⟩ (.slice X3 L.length x3)) :=
    Below.keep (HB0.out.trans (HA.out.mono HB0.out.size)) hk4 (Nat.le_trans HB0.out.size HA.out.size) (fun k e => by have := HQ.out; omega)
  have hn1 : ∀ v l, Own w4 w1.heap.size 3 1 intc v l → Sl ((((w4.setCell ⟨r, 0, none⟩ (.int .i64 ep)).setCell ⟨r, 1, none⟩ (.slice X1 L.length x1)).setCell ⟨r, 2, none⟩ (.slice X2 L.length x2)).setCell ⟨r, 3, none⟩ (.slice X3 L.length x3)) (fun k => w.heap.size ≤ k) 1 intc v l := fun v l ho =>
    Own.since (w := w) (Own.keep ho hk4 (fun b hb e => by have := (Own.lt ho b hb).1; have e2 : b = r := e; omega)) HB0.out.size
  generalize ((((w4.setCell ⟨r, 0, none⟩ (.int .i64 ep)).setCell ⟨r, 1, none⟩ (.slice X1 L.length x1)).setCell ⟨r, 2, none⟩ (.slice X2 L.length x2)).setCell ⟨r, 3, none⟩ (.slice X3 L.length x3)) = w5 at hb4 hBe hn1 ⊢
  have z0 := cell_of_row w5 r 0 _ _ _ hb4
  have z1 := cell_of_row w5 r 1 _ _ _ hb4
  have z2 := cell_of_row w5 r 2 _ _ _ hb4
  have z3 := cell_of_row w5 r 3 _ _ _ hb4
  have HE := Lib.hid (show VwSl w5 (fun k => w.heap.size ≤ k) L (.slice X1 L.length x1) (.slice X2 L.length x2) (.slice X3 L.length x3) from ⟨hn1 _ _ HO1.out, hn1 _ _ HO2.out, hn1 _ _ HO3.out⟩)
  have HBE := Lib.hid hBe
  clear hb4 hk4 hBe hn1
  go_wp2_with fail
  refine bodyPost_ret (v := .agg #[.int .i64 ep, .slice X1 L.length x1, .slice X2 L.length x2, .slice X3 L.length x3]) (by simp [results, Tryz.results59, go_sem, z0, z1, z2, z3]) rfl ⟨_, _, _, rfl, HE.out, HBE.out⟩
end Go.Proofs.YtoegdpcfhmjnaaaGreatDoor
