/- What was put is taken: record.Take. Under the tables that utf8 lays. -/
import Derived.Test.YtimfoijajafdpaaDoorCodW
namespace Go.Proofs.YtimfoijajafdpaaDoor
open Go.RowKit Go.Bl
attribute [local go_sem ↓] Go.wp_at_zero Go.wp_at_succ

/-- What Take leaves. -/
def TookE (w : World) (a : Ent) (r : List UInt8) (e : Ending) (w' : World) : Prop :=
  ∃ v, e = .returned (.tuple #[.agg #[.int .i64 a.pos, .int .i64 a.epoch, .string a.stream, .int .i64 a.expect, .int .i64 a.session, .int .i64 a.seq, v], .string (Bl r), .int .i64 0]) ∧ Own w' w.heap.size 55 2 evc v a.evs ∧ Below w.heap.size w w'
set_option maxRecDepth 10000 in
set_option maxHeartbeats 4000000 in
theorem rtake_ok (w : World) (hT : Tabs w) (a : Ent) (hr : rightB a = true) (r : List UInt8) (hrl : r.length ≤ 400000) :
    Calls Tryd.prog 23 #[.string (Bl (entL a ++ r))] w (TookE w a r) := by
  obtain ⟨h1, h2, h3⟩ := right_fits hr
  have hlen := batL_len h3
  have hfz := fits_zero h3
  have hns := name_size hfz.1
  have hevs : ∀ e ∈ a.evs, EvOk e := fun e he => by have := rightE_sizes (hfz.2.2.2.2.2.2 e he); exact ⟨by omega, by omega⟩
  have hev8 := hfz.2.2.2.2.2.1
  have e2 := numL_len (n := a.epoch.toNat) (by omega)
  have e0 : entL a ++ r = numL a.pos.toNat ++ (numL a.epoch.toNat ++ (batL a ++ r)) := by unfold entL; simp only [List.append_assoc]
  have c1 := fun W => take_num W a.pos.toNat (by omega) (numL a.epoch.toNat ++ (batL a ++ r)) (by simp only [List.length_append]; omega)
  have c2 := fun W => take_num W a.epoch.toNat (by omega) (batL a ++ r) (by simp only [List.length_append]; omega)
  rw [← e0, show ((a.pos.toNat : Nat) : Int) = a.pos by omega] at c1
  rw [show ((a.epoch.toNat : Nat) : Int) = a.epoch by omega] at c2
  have C1 := Lib.hid c1
  have C2 := Lib.hid c2
  have HT := Lib.hid hT
  have H3 := Lib.hid h3
  have HE := Lib.hid hevs
  have HR := Lib.hid hr
  have hB0 : Below w.heap.size w ((w.alloc (.cells #[.int .i64 0, .int .i64 0, .string ⟨#[]⟩, .int .i64 0, .int .i64 0, .int .i64 0, .slice none 0 0] 29)).alloc (.cells #[.int .i64 0, .int .i64 0, .string ⟨#[]⟩, .int .i64 0, .int .i64 0, .int .i64 0, .slice none 0 0] 29)) := ((Below.refl _ w).alloc (Nat.le_refl _) _).alloc (by simp) _
  have hb1 : ((w.alloc (.cells #[.int .i64 0, .int .i64 0, .string ⟨#[]⟩, .int .i64 0, .int .i64 0, .int .i64 0, .slice none 0 0] 29)).alloc (.cells #[.int .i64 0, .int .i64 0, .string ⟨#[]⟩, .int .i64 0, .int .i64 0, .int .i64 0, .slice none 0 0] 29)).heap[w.heap.size]? = some (.cells #[.int .i64 0, .int .i64 0, .string ⟨#[]⟩, .int .i64 0, .int .i64 0, .int .i64 0, .slice none 0 0] 29 (0, 0)) := (Below.heap_alloc _ _ _ (by simp)).trans (heap_alloc_new w _)
  have hb2 := heap_alloc_new (w.alloc (.cells #[.int .i64 0, .int .i64 0, .string ⟨#[]⟩, .int .i64 0, .int .i64 0, .int .i64 0, .slice none 0 0] 29)) (.cells #[.int .i64 0, .int .i64 0, .string ⟨#[]⟩, .int .i64 0, .int .i64 0, .int .i64 0, .slice none 0 0] 29)
  rw [World.size_alloc] at hb2
  clear c1 c2 hT h3 hevs hr e0 hfz
  go_enter Tryd.func23, Tryd.ntmps23
  go_upto_region 3 with (fail)
  generalize (w.alloc (.cells #[.int .i64 0, .int .i64 0, .string ⟨#[]⟩, .int .i64 0, .int .i64 0, .int .i64 0, .slice none 0 0] 29)).alloc (.cells #[.int .i64 0, .int .i64 0, .string ⟨#[]⟩, .int .i64 0, .int .i64 0, .int .i64 0, .slice none 0 0] 29) = w1 at hB0 hb1 hb2 ⊢
  obtain ⟨g, hg⟩ : ∃ g, w.heap.size = g := ⟨_, rfl⟩
  have HG := Lib.hid hg
  have HB := Lib.hid hB0
  rw [hg] at hb1 hb2 ⊢
  obtain ⟨q, hq⟩ : ∃ q, g + 1 = q := ⟨_, rfl⟩
  rw [hq] at hb2 ⊢
  have hgq : g < q := by omega
  have HZ := Lib.hid hb1
  have HQ := Lib.hid hb2
  clear hg hq hb1 hb2 hB0
  go_wp2_with fail
  refine (C1.out w1).mono ?_
  rintro x w2 ⟨rfl, hB2⟩
  have HZ := Lib.hid ((Keeps.of_fresh hB2 (fun _ => False)).grownTo HZ.out id)
  have hq2 := (Keeps.of_fresh hB2 (fun _ => False)).grownTo HQ.out id
  have HB := Lib.hid (HB.out.trans (hB2.mono HB.out.size))
  have z0 : w2.cell? ⟨q, 0, none⟩ = some (.int .i64 0) := cell_of_row w2 q 0 _ _ _ hq2
  have f0 : w2.frozen? ⟨q, 0, none⟩ = false := frozen_block hq2 0
  clear hB2 C1
  go_upto_region 5 with (fail)
  have hkS : Keeps (fun k => k = q) w2 (w2.setCell ⟨q, 0, none⟩ (.int .i64 a.pos)) := (Keeps.refl (fun k => k = q) w2).setCell (p := ⟨q, 0, none⟩) (fun _ => rfl) _
  have hq3 := setCell_block' (o := 0) hq2 (.int .i64 a.pos)
  have HZ := Lib.hid (hkS.grownTo HZ.out (fun e => by omega))
  have HB := Lib.hid (HB.out.trans (hkS.below HB.out.size (fun k e => by have := HG.out; omega)))
  generalize w2.setCell ⟨q, 0, none⟩ (.int .i64 a.pos) = w3 at hkS hq3 HZ HB ⊢
  have HQ := Lib.hid hq3
  clear hkS hq3 hq2 z0 f0
  go_wp2_with fail
  refine (C2.out w3).mono ?_
  rintro x w4 ⟨rfl, hB2⟩
  have HZ := Lib.hid ((Keeps.of_fresh hB2 (fun _ => False)).grownTo HZ.out id)
  have hq4 := (Keeps.of_fresh hB2 (fun _ => False)).grownTo HQ.out id
  have HB := Lib.hid (HB.out.trans (hB2.mono HB.out.size))
  have z1 : w4.cell? ⟨q, 1, none⟩ = some (.int .i64 0) := cell_of_row w4 q 1 _ _ _ hq4
  have f1 : w4.frozen? ⟨q, 1, none⟩ = false := frozen_block hq4 1
  clear hB2 C2
  go_upto_region 7 with (fail)
  have hkS : Keeps (fun k => k = q) w4 (w4.setCell ⟨q, 1, none⟩ (.int .i64 a.epoch)) := (Keeps.refl (fun k => k = q) w4).setCell (p := ⟨q, 1, none⟩) (fun _ => rfl) _
  have hq5 := setCell_block' (o := 1) hq4 (.int .i64 a.epoch)
  have HZ := Lib.hid (hkS.grownTo HZ.out (fun e => by omega))
  have HB := Lib.hid (HB.out.trans (hkS.below HB.out.size (fun k e => by have := HG.out; omega)))
  generalize w4.setCell ⟨q, 1, none⟩ (.int .i64 a.epoch) = w5 at hkS hq5 HZ HB ⊢
  have HQ := Lib.hid hq5
  clear hkS hq5 hq4 z1 f1
  go_wp2_with fail
  refine (takeBatch_ok w5 (HT.out.fresh HB.out) a H3.out r (by omega)).mono ?_
  rintro x w6 ⟨v, rfl, hO6, hB2⟩
  obtain ⟨Av, cv, rfl, _, _⟩ := hO6.shape_ rfl
  have HZ := Lib.hid ((Keeps.of_fresh hB2 (fun _ => False)).grownTo HZ.out id)
  have hq6 := (Keeps.of_fresh hB2 (fun _ => False)).grownTo HQ.out id
  have hqw5 := (Array.getElem?_eq_some_iff.1 HQ.out).1
  have HO := Lib.hid hO6
  have HB := Lib.hid (HB.out.trans (hB2.mono HB.out.size))
  have hw5 : w.heap.size ≤ w5.heap.size := by have := HG.out; omega
  replace hq6 := show w6.heap[q]? = some (.cells #[.int .i64 a.pos, .int .i64 a.epoch, .string ⟨#[]⟩, .int .i64 0, .int .i64 0, .int .i64 0, .slice none 0 0] 29 (0, 0)) from hq6
  have z0 : w6.cell? ⟨q, 0, none⟩ = some (.int .i64 a.pos) := cell_of_row w6 q 0 _ _ _ hq6
  have z1 : w6.cell? ⟨q, 1, none⟩ = some (.int .i64 a.epoch) := cell_of_row w6 q 1 _ _ _ hq6
  have z2 : w6.cell? ⟨q, 2, none⟩ = some (.string ⟨#[]⟩) := cell_of_row w6 q 2 _ _ _ hq6
  have z3 : w6.cell? ⟨q, 3, none⟩ = some (.int .i64 0) := cell_of_row w6 q 3 _ _ _ hq6
  have z4 : w6.cell? ⟨q, 4, none⟩ = some (.int .i64 0) := cell_of_row w6 q 4 _ _ _ hq6
  have z5 : w6.cell? ⟨q, 5, none⟩ = some (.int .i64 0) := cell_of_row w6 q 5 _ _ _ hq6
  have z6 : w6.cell? ⟨q, 6, none⟩ = some (.slice none 0 0) := cell_of_row w6 q 6 _ _ _ hq6
  have f0 : w6.frozen? ⟨q, 0, none⟩ = false := frozen_block hq6 0
  have f1 : w6.frozen? ⟨q, 1, none⟩ = false := frozen_block hq6 1
  have f2 : w6.frozen? ⟨q, 2, none⟩ = false := frozen_block hq6 2
  have f3 : w6.frozen? ⟨q, 3, none⟩ = false := frozen_block hq6 3
  have f4 : w6.frozen? ⟨q, 4, none⟩ = false := frozen_block hq6 4
  have f5 : w6.frozen? ⟨q, 5, none⟩ = false := frozen_block hq6 5
  have f6 : w6.frozen? ⟨q, 6, none⟩ = false := frozen_block hq6 6
  clear hB2 hO6
  go_upto_region 10 with (fail)
  have hkS : Keeps (fun k => k = q) w6 _ := ((((Keeps.refl (fun k => k = q) w6).setCell (p := ⟨q, 2, none⟩) (fun _ => rfl) (.string a.stream)).setCell (p := ⟨q, 3, none⟩) (fun _ => rfl) (.int .i64 a.expect)).setCell (p := ⟨q, 4, none⟩) (fun _ => rfl) (.int .i64 a.session)).setCell (p := ⟨q, 5, none⟩) (fun _ => rfl) (.int .i64 a.seq)
  have hkS := hkS.setCell (p := ⟨q, 6, none⟩) (fun _ => rfl) (.slice Av a.evs.length cv)
  have hq7 := setCell_block' (o := 6) (v := .slice Av a.evs.length cv) (setCell_block' (o := 5) (v := .int .i64 a.seq) (setCell_block' (o := 4) (v := .int .i64 a.session) (setCell_block' (o := 3) (v := .int .i64 a.expect) (setCell_block' (o := 2) (v := .string a.stream) hq6))))
  have HZ := Lib.hid (hkS.grownTo HZ.out (fun e => by omega))
  have HB := Lib.hid (HB.out.trans (hkS.below HB.out.size (fun k e => by have := HG.out; omega)))
  have HO := Lib.hid (HO.out.keep hkS (fun b hb e => by have := (HO.out.lt b hb).1; omega))
  clear f0 f1 f2 f3 f4 f5 f6 z0 z1 z2 z3 z4 z5 z6
  generalize ((((w6.setCell ⟨q, 2, none⟩ (.string a.stream)).setCell ⟨q, 3, none⟩ (.int .i64 a.expect)).setCell ⟨q, 4, none⟩ (.int .i64 a.session)).setCell ⟨q, 5, none⟩ (.int .i64 a.seq)).setCell ⟨q, 6, none⟩ (.slice Av a.evs.length cv) = w7 at hkS hq7 HZ HB HO ⊢
  replace hq7 := show w7.heap[q]? = some (.cells #[.int .i64 a.pos, .int .i64 a.epoch, .string a.stream, .int .i64 a.expect, .int .i64 a.session, .int .i64 a.seq, .slice Av a.evs.length cv] 29 (0, 0)) from hq7
  have x0 : w7.cell? ⟨q, 0, none⟩ = some (.int .i64 a.pos) := cell_of_row w7 q 0 _ _ _ hq7
  have x1 : w7.cell? ⟨q, 1, none⟩ = some (.int .i64 a.epoch) := cell_of_row w7 q 1 _ _ _ hq7
  have x2 : w7.cell? ⟨q, 2, none⟩ = some (.string a.stream) := cell_of_row w7 q 2 _ _ _ hq7
  have x3 : w7.cell? ⟨q, 3, none⟩ = some (.int .i64 a.expect) := cell_of_row w7 q 3 _ _ _ hq7
  have x4 : w7.cell? ⟨q, 4, none⟩ = some (.int .i64 a.session) := cell_of_row w7 q 4 _ _ _ hq7
  have x5 : w7.cell? ⟨q, 5, none⟩ = some (.int .i64 a.seq) := cell_of_row w7 q 5 _ _ _ hq7
  have x6 : w7.cell? ⟨q, 6, none⟩ = some (.slice Av a.evs.length cv) := cell_of_row w7 q 6 _ _ _ hq7
  have hri := right_any w7 (HT.out.fresh HB.out) _ ⟨a.pos, a.epoch, a.stream, a.expect, a.session, a.seq, .slice Av a.evs.length cv, a.evs⟩ ⟨HO.out.sl elEvW.len, HE.out, by show a.stream.size ≤ _; omega, by show a.evs.length ≤ _; omega⟩
  rw [show rightB ⟨a.pos, a.epoch, a.stream, a.expect, a.session, a.seq, .slice Av a.evs.length cv, a.evs⟩ = rightB a from rfl, HR.out] at hri
  have HRI := Lib.hid hri
  have HQ := Lib.hid hq7
  clear hkS hri hq6 hq7
  go_wp2_with fail
  refine HRI.out.mono ?_
  rintro x w8 ⟨rfl, hB2⟩
  have hz8 := (Keeps.of_fresh hB2 (fun _ => False)).grownTo HZ.out id
  have hq8 := (Keeps.of_fresh hB2 (fun _ => False)).grownTo HQ.out id
  have HB := Lib.hid (HB.out.trans (hB2.mono HB.out.size))
  have HO := Lib.hid (HO.out.fresh hB2)
  have x0 : w8.cell? ⟨q, 0, none⟩ = some (.int .i64 a.pos) := cell_of_row w8 q 0 _ _ _ hq8
  have x1 : w8.cell? ⟨q, 1, none⟩ = some (.int .i64 a.epoch) := cell_of_row w8 q 1 _ _ _ hq8
  have x2 : w8.cell? ⟨q, 2, none⟩ = some (.string a.stream) := cell_of_row w8 q 2 _ _ _ hq8
  have x3 : w8.cell? ⟨q, 3, none⟩ = some (.int .i64 a.expect) := cell_of_row w8 q 3 _ _ _ hq8
  have x4 : w8.cell? ⟨q, 4, none⟩ = some (.int .i64 a.session) := cell_of_row w8 q 4 _ _ _ hq8
  have x5 : w8.cell? ⟨q, 5, none⟩ = some (.int .i64 a.seq) := cell_of_row w8 q 5 _ _ _ hq8
  have x6 : w8.cell? ⟨q, 6, none⟩ = some (.slice Av a.evs.length cv) := cell_of_row w8 q 6 _ _ _ hq8
  have z0 : w8.cell? ⟨g, 0, none⟩ = some (.int .i64 0) := cell_of_row w8 g 0 _ _ _ hz8
  have z1 : w8.cell? ⟨g, 1, none⟩ = some (.int .i64 0) := cell_of_row w8 g 1 _ _ _ hz8
  have z2 : w8.cell? ⟨g, 2, none⟩ = some (.string ⟨#[]⟩) := cell_of_row w8 g 2 _ _ _ hz8
  have z3 : w8.cell? ⟨g, 3, none⟩ = some (.int .i64 0) := cell_of_row w8 g 3 _ _ _ hz8
  have z4 : w8.cell? ⟨g, 4, none⟩ = some (.int .i64 0) := cell_of_row w8 g 4 _ _ _ hz8
  have z5 : w8.cell? ⟨g, 5, none⟩ = some (.int .i64 0) := cell_of_row w8 g 5 _ _ _ hz8
  have z6 : w8.cell? ⟨g, 6, none⟩ = some (.slice none 0 0) := cell_of_row w8 g 6 _ _ _ hz8
  have f0 : w8.frozen? ⟨g, 0, none⟩ = false := frozen_block hz8 0
  have f1 : w8.frozen? ⟨g, 1, none⟩ = false := frozen_block hz8 1
  have f2 : w8.frozen? ⟨g, 2, none⟩ = false := frozen_block hz8 2
  have f3 : w8.frozen? ⟨g, 3, none⟩ = false := frozen_block hz8 3
  have f4 : w8.frozen? ⟨g, 4, none⟩ = false := frozen_block hz8 4
  have f5 : w8.frozen? ⟨g, 5, none⟩ = false := frozen_block hz8 5
  have f6 : w8.frozen? ⟨g, 6, none⟩ = false := frozen_block hz8 6
  have HZ8 := Lib.hid hz8
  clear hB2 hz8 hq8
  go_wp2_with fail
  have hkS : Keeps (fun k => k = g) w8 _ := ((((Keeps.refl (fun k => k = g) w8).setCell (p := ⟨g, 0, none⟩) (fun _ => rfl) (.int .i64 a.pos)).setCell (p := ⟨g, 1, none⟩) (fun _ => rfl) (.int .i64 a.epoch)).setCell (p := ⟨g, 2, none⟩) (fun _ => rfl) (.string a.stream)).setCell (p := ⟨g, 3, none⟩) (fun _ => rfl) (.int .i64 a.expect)
  have hkS := ((hkS.setCell (p := ⟨g, 4, none⟩) (fun _ => rfl) (.int .i64 a.session)).setCell (p := ⟨g, 5, none⟩) (fun _ => rfl) (.int .i64 a.seq)).setCell (p := ⟨g, 6, none⟩) (fun _ => rfl) (.slice Av a.evs.length cv)
  have hk7 := setCell_block' (o := 6) (v := .slice Av a.evs.length cv) (setCell_block' (o := 5) (v := .int .i64 a.seq) (setCell_block' (o := 4) (v := .int .i64 a.session) (setCell_block' (o := 3) (v := .int .i64 a.expect) (setCell_block' (o := 2) (v := .string a.stream) (setCell_block' (o := 1) (v := .int .i64 a.epoch) (setCell_block' (o := 0) (v := .int .i64 a.pos) HZ8.out))))))
  generalize ((((((w8.setCell ⟨g, 0, none⟩ (.int .i64 a.pos)).setCell ⟨g, 1, none⟩ (.int .i64 a.epoch)).setCell ⟨g, 2, none⟩ (.string a.stream)).setCell ⟨g, 3, none⟩ (.int .i64 a.expect)).setCell ⟨g, 4, none⟩ (.int .i64 a.session)).setCell ⟨g, 5, none⟩ (.int .i64 a.seq)).setCell ⟨g, 6, none⟩ (.slice Av a.evs.length cv) = w9 at hkS hk7 ⊢
  have q0 : w9.cell? ⟨g, 0, none⟩ = some (.int .i64 a.pos) := cell_of_row w9 _ 0 _ _ _ hk7
  have q1 : w9.cell? ⟨g, 1, none⟩ = some (.int .i64 a.epoch) := cell_of_row w9 _ 1 _ _ _ hk7
  have q2 : w9.cell? ⟨g, 2, none⟩ = some (.string a.stream) := cell_of_row w9 _ 2 _ _ _ hk7
  have q3 : w9.cell? ⟨g, 3, none⟩ = some (.int .i64 a.expect) := cell_of_row w9 _ 3 _ _ _ hk7
  have q4 : w9.cell? ⟨g, 4, none⟩ = some (.int .i64 a.session) := cell_of_row w9 _ 4 _ _ _ hk7
  have q5 : w9.cell? ⟨g, 5, none⟩ = some (.int .i64 a.seq) := cell_of_row w9 _ 5 _ _ _ hk7
  have q6 : w9.cell? ⟨g, 6, none⟩ = some (.slice Av a.evs.length cv) := cell_of_row w9 _ 6 _ _ _ hk7
  refine bodyPost_ret (v := .tuple #[.agg #[.int .i64 a.pos, .int .i64 a.epoch, .string a.stream, .int .i64 a.expect, .int .i64 a.session, .int .i64 a.seq, .slice Av a.evs.length cv], .string (Bl r), .int .i64 0]) (by simp [results, Tryd.results23, go_sem, q0, q1, q2, q3, q4, q5, q6]) rfl ⟨.slice Av a.evs.length cv, rfl, ?_, ?_⟩
  · exact Own.lower (HO.out.keep hkS (fun b hb e => by have := (HO.out.lt b hb).1; have := HG.out; omega)) hw5
  · exact HB.out.trans (hkS.below HB.out.size (fun k e => by have := HG.out; omega))
end Go.Proofs.YtimfoijajafdpaaDoor
