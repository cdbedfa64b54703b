/- MasterFollows answers true. Under the stated premises on sizes. -/
import Derived.Test.YtoegdpcfhmjnaaaGreatDoorMstU
import Derived.Test.YtoegdpcfhmjnaaaGreatDoorVwH
import Derived.Test.YtoegdpcfhmjnaaaGreatDoorLeaA
import Derived.Test.YtoegdpcfhmjnaaaGreatDoorVwB
import Derived.Test.YtoegdpcfhmjnaaaGreatDoorVwC
import Derived.Shelf.SlicesE.Equal
import Derived.Test.YtoegdpcfhmjnaaaGreatDoorMstL
import Derived.Test.YtoegdpcfhmjnaaaGreatDoorMstN
import Derived.Deep.CutBlock
import Derived.Deep.DeepCutAuto
import Derived.Deep.RegionHeld3
/- The master has a node come in. Under the stated premises on sizes. -/
namespace Go.Proofs.YtoegdpcfhmjnaaaGreatDoor
open Go.RowKit Go.Bl
attribute [local go_sem ↓] Go.wp_at_zero Go.wp_at_succ

theorem join_bad (w : World) (m : Nat) (node boot now : Int) (hb : node < 1 ∨ 100 < node ∨ boot < 0 ∨ 274877906944 < boot) :
    Calls Tryz.prog 34 #[.pointer (some ⟨m, 0, none⟩), .int .i64 node, .int .i64 boot, .int .i64 now] w fun e w' => e = .returned (.slice none 0 0) ∧ w' = w := by
  by_cases h1 : node < 1
  · have d1 : decide (node < 1) = true := decide_eq_true h1
    clear h1 hb
    go_enter Tryz.func34, Tryz.ntmps34
    go_wp2_with fail
    go_ret
    exact ⟨rfl, rfl⟩
  have d1 : decide (node < 1) = false := decide_eq_false h1
  by_cases h2 : 100 < node
  · have d2 : decide (100 < node) = true := decide_eq_true h2
    clear h1 h2 hb
    go_enter Tryz.func34, Tryz.ntmps34
    go_wp2_with fail
    go_ret
    exact ⟨rfl, rfl⟩
  have d2 : decide (100 < node) = false := decide_eq_false h2
  by_cases h3 : boot < 0
  · have d3 : decide (boot < 0) = true := decide_eq_true h3
    clear h1 h2 h3 hb
    go_enter Tryz.func34, Tryz.ntmps34
    go_wp2_with fail
    go_ret
    exact ⟨rfl, rfl⟩
  have d3 : decide (boot < 0) = false := decide_eq_false h3
  have h4 : 274877906944 < boot := ((hb.resolve_left h1).resolve_left h2).resolve_left h3
  have d4 : decide (274877906944 < boot) = true := decide_eq_true h4
  clear h1 h2 h3 h4 hb
  go_enter Tryz.func34, Tryz.ntmps34
  go_wp2_with fail
  go_ret
  exact ⟨rfl, rfl⟩
set_option maxRecDepth 8000 in
set_option maxHeartbeats 2000000 in
theorem join_full {X : Nat → Prop} {w : World} {m p : Nat} {room fail : Int} {vs : List Vw} {s : Ms} {c : Nat} (h : Mst X w m p room fail vs s c) (node boot now : Int) (g1 : 1 ≤ node) (g2 : node ≤ 100) (g3 : 0 ≤ boot) (g4 : boot ≤ 274877906944)
    (hx : node ∈ s.v.nodes ∨ s.v.L.length = 6 ∨ s.v.ep = 274877906944) :
    Calls Tryz.prog 34 #[.pointer (some ⟨m, 0, none⟩), .int .i64 node, .int .i64 boot, .int .i64 now] w fun e w' => ∃ v o, e = .returned v ∧ Sl w' (fun k => w.heap.size ≤ k) 2 outc v [o] ∧ o.rcv = node ∧ VOut w' (fun k => w.heap.size ≤ k) s.v o ∧ Below w.heap.size w w' := by
  have H := Lib.hid h
  obtain ⟨Y, F, bh, br, va, vb, vc, h⟩ := h
  obtain ⟨c0, c1, c2, c3, c4, c5, c6, c7⟩ := h.cells
  have HW := Lib.hid (with_no w F s.v.ep s.v.L va vb vc h.sl h.right node boot g1 g2 g3 g4 hx)
  obtain ⟨A, ca, B, cb, C, cc, rfl, rfl, rfl, _⟩ := h.sl.shape
  have d1 : decide (node < 1) = false := decide_eq_false (by omega)
  have d2 : decide (100 < node) = false := decide_eq_false (by omega)
  have d3 : decide (boot < 0) = false := decide_eq_false (by omega)
  have d4 : decide (274877906944 < boot) = false := decide_eq_false (by omega)
  clear h hx
  go_enter Tryz.func34, Tryz.ntmps34
  go_wp2_with fail
  refine HW.out.mono ?_
  rintro e w1 ⟨er, her, rfl, hB1⟩
  have dq : (er != 0) = true := by simpa using her
  unfold zeroVw
  have HB1 := Lib.hid hB1
  clear hB1 her
  go_upto_region 4 with (fail)
  have HB2 := Lib.hid (HB1.out.alloc HB1.out.size (.cells #[.int .i64 0, .slice none 0 0, .slice none 0 0, .slice none 0 0] 45))
  generalize w1.alloc (.cells #[.int .i64 0, .slice none 0 0, .slice none 0 0, .slice none 0 0] 45) = w2 at HB2 ⊢
  have HT := Lib.hid (tell_any (H.out.fresh HB2.out) node)
  go_wp2_with fail
  refine HT.out.mono ?_
  rintro e w3 ⟨v, o, rfl, hS, hr, hV, hB3⟩
  have HE := Lib.hid (And.intro hS (And.intro hr (And.intro hV hB3)))
  clear hS hr hV hB3
  go_wp2_with fail
  go_ret
  obtain ⟨hS, hr, hV, hB3⟩ := HE.out
  have hs := HB2.out.size
  exact ⟨_, o, rfl, hS.mono fun k _ hk => Nat.le_trans hs hk, hr, hV.mono fun k _ hk => Nat.le_trans hs hk, HB2.out.trans (hB3.mono hs)⟩
set_option maxRecDepth 20000 in
set_option maxHeartbeats 8000000 in
theorem join_ok {X : Nat → Prop} {w : World} {m p : Nat} {room fail : Int} {vs : List Vw} {s : Ms} {c : Nat} (h : Mst X w m p room fail vs s c) (hc : c < 999999999) (node boot now : Int) (g1 : 1 ≤ node) (g2 : node ≤ 100) (g3 : 0 ≤ boot) (g4 : boot ≤ 274877906944)
    (g5 : node ∉ s.v.nodes) (g6 : s.v.L.length ≠ 6) (g7 : s.v.ep ≠ 274877906944) (hroom : 128 * ((vs.length : Int) + 1) ≤ room) :
    Calls Tryz.prog 34 #[.pointer (some ⟨m, 0, none⟩), .int .i64 node, .int .i64 boot, .int .i64 now] w fun e w' => ∃ v os, e = .returned v ∧ Sl w' (fun k => w.heap.size ≤ k) 2 outc v os ∧ VOuts w' (fun k => w.heap.size ≤ k) (s.v.withN node boot) (s.v.withN node boot).nodes os ∧
      Mst X w' m p room fail (keepV vs (s.v.withN node boot)) (s.come node boot now) (c + 1) ∧ Kx X w w' := by
  obtain ⟨Y, F, bh, br, va, vb, vc, h⟩ := h
  have H := Lib.hid h
  obtain ⟨c0, c1, c2, c3, c4, c5, c6, c7⟩ := h.cells
  have HW := Lib.hid (with_ok w F s.v.ep s.v.L va vb vc h.sl h.right node boot g1 g2 g3 g4 g5 g6 g7)
  have HRV := Lib.hid (h.right.withN g1 g2 g3 g4 g5 g6 g7)
  obtain ⟨A, ca, B, cb, C, cc, rfl, rfl, rfl, _⟩ := h.sl.shape
  have d1 : decide (node < 1) = false := decide_eq_false (by omega)
  have d2 : decide (100 < node) = false := decide_eq_false (by omega)
  have d3 : decide (boot < 0) = false := decide_eq_false (by omega)
  have d4 : decide (274877906944 < boot) = false := decide_eq_false (by omega)
  have HRM := Lib.hid hroom
  clear h hroom
  go_enter Tryz.func34, Tryz.ntmps34
  go_wp2_with fail
  refine HW.out.mono ?_
  rintro e w1 ⟨a, b, d, rfl, hV, hB1⟩
  obtain ⟨N, hN⟩ : ∃ N, (s.v.withN node boot).L.length = N := ⟨_, rfl⟩
  obtain ⟨A', ca', B', cb', C', cc', rfl, rfl, rfl, _⟩ := hV.shape
  rw [show (⟨s.v.ep, s.v.L⟩ : Vw) = s.v from rfl, hN] at hV ⊢
  have HN := Lib.hid hN
  have HB1 := Lib.hid hB1
  have HV1 := Lib.hid hV
  clear hV hB1 hN
  go_upto_region 4 with (fail)
  obtain ⟨g, hg⟩ : ∃ g, w1.heap.size = g := ⟨_, rfl⟩
  have hB2 := HB1.out.alloc HB1.out.size (.cells #[.int .i64 (s.v.ep + 1), .slice A' N ca', .slice B' N cb', .slice C' N cc'] 45)
  have hb12 : Below w1.heap.size w1 (w1.alloc (.cells #[.int .i64 (s.v.ep + 1), .slice A' N ca', .slice B' N cb', .slice C' N cc'] 45)) := (Below.refl _ w1).alloc (Nat.le_refl _) _
  have hk2 := heap_alloc_new w1 (.cells #[.int .i64 (s.v.ep + 1), .slice A' N ca', .slice B' N cb', .slice C' N cc'] 45)
  have HG := Lib.hid (show w.heap.size ≤ g by rw [← hg]; exact HB1.out.size)
  rw [hg] at hk2 ⊢
  generalize w1.alloc (.cells #[.int .i64 (s.v.ep + 1), .slice A' N ca', .slice B' N cb', .slice C' N cc'] 45) = w2 at hB2 hk2 hb12 ⊢
  have HB2 := Lib.hid hB2
  have HK2 := Lib.hid hk2
  have HV2 := Lib.hid (HV1.out.fresh hb12)
  clear hB2 hk2 hb12 hg c0 c1 c2 c3 c4 c5 c6 c7
  go_upto_region 6 with (fail)
  refine region_mid 5 rfl (by kernel_rfl) (by kernel_rfl) ?_
  simp only [List.take_succ_cons, List.take_zero, List.drop_succ_cons, List.drop_zero]
  change wpStill _ _ w2.drew _ _ _
  obtain ⟨wd, hwd⟩ : ∃ wd, w2.drew = wd := ⟨_, rfl⟩
  rw [hwd]
  have hBd : Below w2.heap.size w2 wd := hwd ▸ ⟨rfl, rfl, rfl, Nat.le_refl _, fun _ _ => rfl⟩
  have HBd := Lib.hid (HB2.out.trans (hBd.mono HB2.out.size))
  have HVd := Lib.hid (HV2.out.fresh hBd)
  have HKd := Lib.hid ((hBd.block g (Array.getElem?_eq_some_iff.1 HK2.out).1).trans HK2.out)
  have z0 : wd.cell? ⟨g, 0, none⟩ = some (.int .i64 (s.v.ep + 1)) := cell_of_row wd g 0 _ _ _ HKd.out
  have z1 : wd.cell? ⟨g, 1, none⟩ = some (.slice A' N ca') := cell_of_row wd g 1 _ _ _ HKd.out
  have z2 : wd.cell? ⟨g, 2, none⟩ = some (.slice B' N cb') := cell_of_row wd g 2 _ _ _ HKd.out
  have z3 : wd.cell? ⟨g, 3, none⟩ = some (.slice C' N cc') := cell_of_row wd g 3 _ _ _ HKd.out
  clear hBd
  have hd := H.out.fresh HBd.out
  obtain ⟨c0, -, -, -, -, -, -, -⟩ := hd.cells
  have HQ := keepQ (H.out.raw.wide HBd.out) (s.v.withN node boot) _ _ _ HVd.out HRV.out H.out.ups H.out.lenv HRM.out
  rw [show (s.v.withN node boot).ep = s.v.ep + 1 from rfl] at HQ
  have HQ := Lib.hid HQ
  clear hd
  refine still_of_quiet ?_
  repeat (go_big_quiet_step (fail))
  refine wpQuiet_nil ?_
  change wpList _ _ _ _ _ (World.drew _)
  rw [hwd]
  clear hwd
  go_wp2_with fail
  refine HQ.out.mono ?_
  rintro e we ⟨rfl, hQe, hKe⟩
  have HKe := Lib.hid hKe
  have HQe := Lib.hid hQe
  have hgd := (Array.getElem?_eq_some_iff.1 HKd.out).1
  have hmd := (H.out.fresh HBd.out).lt
  have hkm := hKe.block m hmd (fun h => h (.inl H.out.ym.1))
  have hkg := hKe.block g hgd (fun h => h (.inr ⟨HG.out, hgd⟩))
  have HM2 := Lib.hid (hkm.trans (H.out.fresh HBd.out).blk)
  have HGe := Lib.hid (hkg.trans HKd.out)
  clear hQe hKe c0 z0 z1 z2 z3 hkm hkg hgd hmd
  have z0 : we.cell? ⟨g, 0, none⟩ = some (.int .i64 (s.v.ep + 1)) := cell_of_row we g 0 _ _ _ HGe.out
  have z1 : we.cell? ⟨g, 1, none⟩ = some (.slice A' N ca') := cell_of_row we g 1 _ _ _ HGe.out
  have z2 : we.cell? ⟨g, 2, none⟩ = some (.slice B' N cb') := cell_of_row we g 2 _ _ _ HGe.out
  have z3 : we.cell? ⟨g, 3, none⟩ = some (.slice C' N cc') := cell_of_row we g 3 _ _ _ HGe.out
  have c1 : we.cell? ⟨m, 1, none⟩ = some (.int .i64 s.v.ep) := cell_of_row we m 1 _ _ _ HM2.out
  have c2 : we.cell? ⟨m, 2, none⟩ = some (.slice A s.v.L.length ca) := cell_of_row we m 2 _ _ _ HM2.out
  have c3 : we.cell? ⟨m, 3, none⟩ = some (.slice B s.v.L.length cb) := cell_of_row we m 3 _ _ _ HM2.out
  have c4 : we.cell? ⟨m, 4, none⟩ = some (.slice C s.v.L.length cc) := cell_of_row we m 4 _ _ _ HM2.out
  have f1 := frozen_block HM2.out 1
  have f2 := frozen_block HM2.out 2
  have f3 := frozen_block HM2.out 3
  have f4 := frozen_block HM2.out 4
  go_wp2_with fail
  unfold Go.Bl.Rest
  refine still_of_quiet ?_
  repeat (go_big_quiet_step (fail))
  refine wpQuiet_nil ?_
  go_upto_region 9 with (fail)
  have hst := view_keeps we m (.int .i64 (s.v.ep + 1)) (.slice A' N ca') (.slice B' N cb') (.slice C' N cc')
  have hbk := view_block HM2.out (.int .i64 (s.v.ep + 1)) (.slice A' N ca') (.slice B' N cb') (.slice C' N cc')
  generalize ((((we.setCell ⟨m, 1, none⟩ (.int .i64 (s.v.ep + 1))).setCell ⟨m, 2, none⟩ (.slice A' N ca')).setCell ⟨m, 3, none⟩ (.slice B' N cb')).setCell ⟨m, 4, none⟩ (.slice C' N cc')) = wf at hst hbk ⊢
  have hR := H.out.raw.turn HBd.out HVd.out HRV.out (show s.v.ep < s.v.ep + 1 by omega) HQe.out HKe.out hst hbk
  have HKf := Lib.hid (((Kx.of_below HBd.out).trans (HKe.out.mono fun k _ h1 h2 => h1 (.inl (H.out.xy k h2)))).trans (hst.mono fun k _ e h2 => H.out.xm.1 (by have e2 : k = m := e; exact e2 ▸ h2)))
  have HRf := Lib.hid hR
  have hsf : wd.heap.size ≤ wf.heap.size := Nat.le_trans HKe.out.size hst.size
  obtain ⟨-, -, -, -, -, -, c6, -⟩ := HRf.out.cells
  clear hst hbk hR z0 z1 z2 z3 c1 c2 c3 c4 f1 f2 f3 f4
  obtain ⟨wg, hrg, hg, hkg, hsg⟩ := HRf.out.put_heard (by omega) (x := node) (by unfold i64; omega) (.int .i64 now)
  have HRg := Lib.hid hg
  clear hg
  go_upto_region 10 with (fail)
  have hsg2 : wd.heap.size ≤ wg.heap.size := Nat.le_trans hsf hkg.size
  have HKg := Lib.hid (HKf.out.trans (hkg.mono fun k _ e h2 => H.out.xm.2.1 (by have e2 : k = bh := e; exact e2 ▸ h2)))
  clear hrg hkg hsg c6
  have HMg := Lib.hid (show Mst X wg m p room fail (keepV vs (s.v.withN node boot)) (s.come node boot now) (c + 1) from ⟨_, _, _, _, _, _, _, HRg.out.mst (s := s.come node boot now) (fun y => hdF_come y) (fun y => rfl) H.out.rdge⟩)
  have HA := Lib.hid (all_any HMg.out)
  have HSZ := Lib.hid (show w.heap.size ≤ wg.heap.size from Nat.le_trans HBd.out.size hsg2)
  go_wp2_with fail
  refine HA.out.mono ?_
  rintro e wh ⟨v, os, rfl, hS, hV, hB⟩
  have HE := Lib.hid (And.intro hS (And.intro hV hB))
  clear hS hV hB
  go_wp2_with fail
  go_ret
  obtain ⟨hS, hV, hB⟩ := HE.out
  have hs := HSZ.out
  exact ⟨_, os, rfl, hS.mono fun k _ hk => Nat.le_trans hs hk, ⟨hV.1, fun o ho => (hV.2 o ho).mono fun k _ hk => Nat.le_trans hs hk⟩, HMg.out.fresh hB, HKg.out.trans (Kx.of_below hB)⟩
end Go.Proofs.YtoegdpcfhmjnaaaGreatDoor

/- The master takes a Join of a stranger. Under the stated premises on sizes. -/
namespace Go.Proofs.YtoegdpcfhmjnaaaGreatDoor
open Go.RowKit Go.Bl
attribute [local go_sem ↓] Go.wp_at_zero Go.wp_at_succ

set_option maxRecDepth 8000 in
set_option maxHeartbeats 4000000 in
theorem takeK_other {X : Nat → Prop} {w : World} {m p : Nat} {room fail : Int} {vs : List Vw} {s : Ms} {c : Nat} (h : Mst X w m p room fail vs s c) (node boot frm now : Int) (hk : frm ∉ s.v.nodes) (hne : node ≠ frm) :
    Calls Tryz.prog 9 #[.pointer (some ⟨m, 0, none⟩), .int .i64 frm, .iface 48 (.agg #[.int .i64 node, .int .i64 boot]), .int .i64 now] w fun e w' => e = .returned (.slice none 0 0) ∧ Below w.heap.size w w' := by
  have dn : (node != frm) = true := by simpa using hne
  have hB0 : Below w.heap.size w ((w.alloc (.cells #[.int .i64 0, .int .i64 0, .int .i64 0] 76)).alloc (.cells #[.int .i64 node, .int .i64 boot] 48)) := ((Below.refl _ w).alloc (Nat.le_refl _) _).alloc (by simp) _
  have hblk : ((w.alloc (.cells #[.int .i64 0, .int .i64 0, .int .i64 0] 76)).alloc (.cells #[.int .i64 node, .int .i64 boot] 48)).heap[w.heap.size + 1]? = some (.cells #[.int .i64 node, .int .i64 boot] 48 (0, 0)) := by
    have := heap_alloc_new (w.alloc (.cells #[.int .i64 0, .int .i64 0, .int .i64 0] 76)) (.cells #[.int .i64 node, .int .i64 boot] 48)
    rw [World.size_alloc] at this
    exact this
  have H := Lib.hid (h.fresh hB0)
  have HB0 := Lib.hid hB0
  have HBK := Lib.hid hblk
  have hin := in_any (h.fresh hB0) frm
  rw [decide_eq_false hk] at hin
  have HIN := Lib.hid hin
  have hb := fun W => not_beat 48 (by decide) (.agg #[.int .i64 node, .int .i64 boot]) 39 W
  have hj := fun W => as_join (.agg #[.int .i64 node, .int .i64 boot]) 39 W
  clear h hB0 hin hblk
  go_enter Tryz.func9, Tryz.ntmps9
  go_upto_region 5 with (fail)
  obtain ⟨q, hq⟩ : ∃ q, w.heap.size + 1 = q := ⟨_, rfl⟩
  rw [hq] at HBK ⊢
  generalize (w.alloc (.cells #[.int .i64 0, .int .i64 0, .int .i64 0] 76)).alloc (.cells #[.int .i64 node, .int .i64 boot] 48) = w3 at HB0 H HIN HBK ⊢
  have z0 := cell_of_row w3 q 0 _ _ _ HBK.out
  have z1 := cell_of_row w3 q 1 _ _ _ HBK.out
  clear hb hj hq
  go_wp2_with fail
  refine HIN.out.mono ?_
  rintro e w2 ⟨rfl, rfl⟩
  go_wp2_with fail
  go_ret
  exact ⟨rfl, HB0.out⟩
set_option maxRecDepth 8000 in
set_option maxHeartbeats 4000000 in
theorem takeK_bad {X : Nat → Prop} {w : World} {m p : Nat} {room fail : Int} {vs : List Vw} {s : Ms} {c : Nat} (h : Mst X w m p room fail vs s c) (node boot frm now : Int) (hk : frm ∉ s.v.nodes) (hne : node = frm) (hbad : frm < 1 ∨ 100 < frm ∨ boot < 0 ∨ 274877906944 < boot) :
    Calls Tryz.prog 9 #[.pointer (some ⟨m, 0, none⟩), .int .i64 frm, .iface 48 (.agg #[.int .i64 node, .int .i64 boot]), .int .i64 now] w fun e w' => e = .returned (.slice none 0 0) ∧ Below w.heap.size w w' := by
  have dn : (node != frm) = false := by simpa using hne
  have HC := Lib.hid fun W => join_bad W m frm boot now hbad
  clear hne hbad
  have hB0 : Below w.heap.size w ((w.alloc (.cells #[.int .i64 0, .int .i64 0, .int .i64 0] 76)).alloc (.cells #[.int .i64 node, .int .i64 boot] 48)) := ((Below.refl _ w).alloc (Nat.le_refl _) _).alloc (by simp) _
  have hblk : ((w.alloc (.cells #[.int .i64 0, .int .i64 0, .int .i64 0] 76)).alloc (.cells #[.int .i64 node, .int .i64 boot] 48)).heap[w.heap.size + 1]? = some (.cells #[.int .i64 node, .int .i64 boot] 48 (0, 0)) := by
    have := heap_alloc_new (w.alloc (.cells #[.int .i64 0, .int .i64 0, .int .i64 0] 76)) (.cells #[.int .i64 node, .int .i64 boot] 48)
    rw [World.size_alloc] at this
    exact this
  have H := Lib.hid (h.fresh hB0)
  have HB0 := Lib.hid hB0
  have HBK := Lib.hid hblk
  have hin := in_any (h.fresh hB0) frm
  rw [decide_eq_false hk] at hin
  have HIN := Lib.hid hin
  have hb := fun W => not_beat 48 (by decide) (.agg #[.int .i64 node, .int .i64 boot]) 39 W
  have hj := fun W => as_join (.agg #[.int .i64 node, .int .i64 boot]) 39 W
  clear h hB0 hin hblk
  go_enter Tryz.func9, Tryz.ntmps9
  go_upto_region 5 with (fail)
  obtain ⟨q, hq⟩ : ∃ q, w.heap.size + 1 = q := ⟨_, rfl⟩
  rw [hq] at HBK ⊢
  generalize (w.alloc (.cells #[.int .i64 0, .int .i64 0, .int .i64 0] 76)).alloc (.cells #[.int .i64 node, .int .i64 boot] 48) = w3 at HB0 H HIN HBK ⊢
  have z0 := cell_of_row w3 q 0 _ _ _ HBK.out
  have z1 := cell_of_row w3 q 1 _ _ _ HBK.out
  clear hb hj hq
  go_wp2_with fail
  refine HIN.out.mono ?_
  rintro e w2 ⟨rfl, rfl⟩
  go_wp2_with fail
  refine (HC.out _).mono ?_
  rintro e w4 ⟨rfl, rfl⟩
  go_wp2_with fail
  go_ret
  exact ⟨rfl, HB0.out⟩
set_option maxRecDepth 8000 in
set_option maxHeartbeats 4000000 in
theorem takeK_full {X : Nat → Prop} {w : World} {m p : Nat} {room fail : Int} {vs : List Vw} {s : Ms} {c : Nat} (h : Mst X w m p room fail vs s c) (node boot frm now : Int) (hk : frm ∉ s.v.nodes) (hne : node = frm) (g1 : 1 ≤ frm) (g2 : frm ≤ 100) (g3 : 0 ≤ boot) (g4 : boot ≤ 274877906944)
    (hx : s.v.L.length = 6 ∨ s.v.ep = 274877906944) :
    Calls Tryz.prog 9 #[.pointer (some ⟨m, 0, none⟩), .int .i64 frm, .iface 48 (.agg #[.int .i64 node, .int .i64 boot]), .int .i64 now] w fun e w' => ∃ v o, e = .returned v ∧ Sl w' (fun k => w.heap.size ≤ k) 2 outc v [o] ∧ o.rcv = frm ∧ VOut w' (fun k => w.heap.size ≤ k) s.v o ∧ Below w.heap.size w w' := by
  have dn : (node != frm) = false := by simpa using hne
  clear hne
  have hB0 : Below w.heap.size w ((w.alloc (.cells #[.int .i64 0, .int .i64 0, .int .i64 0] 76)).alloc (.cells #[.int .i64 node, .int .i64 boot] 48)) := ((Below.refl _ w).alloc (Nat.le_refl _) _).alloc (by simp) _
  have hblk : ((w.alloc (.cells #[.int .i64 0, .int .i64 0, .int .i64 0] 76)).alloc (.cells #[.int .i64 node, .int .i64 boot] 48)).heap[w.heap.size + 1]? = some (.cells #[.int .i64 node, .int .i64 boot] 48 (0, 0)) := by
    have := heap_alloc_new (w.alloc (.cells #[.int .i64 0, .int .i64 0, .int .i64 0] 76)) (.cells #[.int .i64 node, .int .i64 boot] 48)
    rw [World.size_alloc] at this
    exact this
  have H := Lib.hid (h.fresh hB0)
  have HB0 := Lib.hid hB0
  have HBK := Lib.hid hblk
  have hin := in_any (h.fresh hB0) frm
  rw [decide_eq_false hk] at hin
  have HIN := Lib.hid hin
  have hb := fun W => not_beat 48 (by decide) (.agg #[.int .i64 node, .int .i64 boot]) 39 W
  have hj := fun W => as_join (.agg #[.int .i64 node, .int .i64 boot]) 39 W
  clear h hB0 hin hblk
  go_enter Tryz.func9, Tryz.ntmps9
  go_upto_region 5 with (fail)
  obtain ⟨q, hq⟩ : ∃ q, w.heap.size + 1 = q := ⟨_, rfl⟩
  rw [hq] at HBK ⊢
  generalize (w.alloc (.cells #[.int .i64 0, .int .i64 0, .int .i64 0] 76)).alloc (.cells #[.int .i64 node, .int .i64 boot] 48) = w3 at HB0 H HIN HBK ⊢
  have z0 := cell_of_row w3 q 0 _ _ _ HBK.out
  have z1 := cell_of_row w3 q 1 _ _ _ HBK.out
  clear hb hj hq
  go_wp2_with fail
  refine HIN.out.mono ?_
  rintro e w2 ⟨rfl, rfl⟩
  have HC := Lib.hid (join_full H.out frm boot now g1 g2 g3 g4 (.inr hx))
  clear hx
  go_wp2_with fail
  refine HC.out.mono ?_
  rintro e w5 ⟨v, o, rfl, hS, hr, hV, hB3⟩
  have HE := Lib.hid (And.intro hS (And.intro hr (And.intro hV hB3)))
  clear hS hr hV hB3
  go_wp2_with fail
  go_ret
  obtain ⟨hS, hr, hV, hB3⟩ := HE.out
  have hs := HB0.out.size
  exact ⟨_, o, rfl, hS.mono fun k _ hk => Nat.le_trans hs hk, hr, hV.mono fun k _ hk => Nat.le_trans hs hk, HB0.out.trans (hB3.mono hs)⟩
set_option maxRecDepth 8000 in
set_option maxHeartbeats 4000000 in
theorem takeK_ok {X : Nat → Prop} {w : World} {m p : Nat} {room fail : Int} {vs : List Vw} {s : Ms} {c : Nat} (h : Mst X w m p room fail vs s c) (hc : c < 999999999) (node boot frm now : Int) (hk : frm ∉ s.v.nodes) (hne : node = frm) (g1 : 1 ≤ frm) (g2 : frm ≤ 100) (g3 : 0 ≤ boot) (g4 : boot ≤ 274877906944)
    (g6 : s.v.L.length ≠ 6) (g7 : s.v.ep ≠ 274877906944) (hroom : 128 * ((vs.length : Int) + 1) ≤ room) :
    Calls Tryz.prog 9 #[.pointer (some ⟨m, 0, none⟩), .int .i64 frm, .iface 48 (.agg #[.int .i64 node, .int .i64 boot]), .int .i64 now] w fun e w' => ∃ v os, e = .returned v ∧ Sl w' (fun k => w.heap.size ≤ k) 2 outc v os ∧ VOuts w' (fun k => w.heap.size ≤ k) (s.v.withN frm boot) (s.v.withN frm boot).nodes os ∧
      Mst X w' m p room fail (keepV vs (s.v.withN frm boot)) (s.come frm boot now) (c + 1) ∧ Kx X w w' := by
  have dn : (node != frm) = false := by simpa using hne
  clear hne
  have HK := Lib.hid hk
  have hB0 : Below w.heap.size w ((w.alloc (.cells #[.int .i64 0, .int .i64 0, .int .i64 0] 76)).alloc (.cells #[.int .i64 node, .int .i64 boot] 48)) := ((Below.refl _ w).alloc (Nat.le_refl _) _).alloc (by simp) _
  have hblk : ((w.alloc (.cells #[.int .i64 0, .int .i64 0, .int .i64 0] 76)).alloc (.cells #[.int .i64 node, .int .i64 boot] 48)).heap[w.heap.size + 1]? = some (.cells #[.int .i64 node, .int .i64 boot] 48 (0, 0)) := by
    have := heap_alloc_new (w.alloc (.cells #[.int .i64 0, .int .i64 0, .int .i64 0] 76)) (.cells #[.int .i64 node, .int .i64 boot] 48)
    rw [World.size_alloc] at this
    exact this
  have H := Lib.hid (h.fresh hB0)
  have HB0 := Lib.hid hB0
  have HBK := Lib.hid hblk
  have hin := in_any (h.fresh hB0) frm
  rw [decide_eq_false hk] at hin
  have HIN := Lib.hid hin
  have hb := fun W => not_beat 48 (by decide) (.agg #[.int .i64 node, .int .i64 boot]) 39 W
  have hj := fun W => as_join (.agg #[.int .i64 node, .int .i64 boot]) 39 W
  clear h hB0 hin hblk
  go_enter Tryz.func9, Tryz.ntmps9
  go_upto_region 5 with (fail)
  obtain ⟨q, hq⟩ : ∃ q, w.heap.size + 1 = q := ⟨_, rfl⟩
  rw [hq] at HBK ⊢
  generalize (w.alloc (.cells #[.int .i64 0, .int .i64 0, .int .i64 0] 76)).alloc (.cells #[.int .i64 node, .int .i64 boot] 48) = w3 at HB0 H HIN HBK ⊢
  have z0 := cell_of_row w3 q 0 _ _ _ HBK.out
  have z1 := cell_of_row w3 q 1 _ _ _ HBK.out
  clear hb hj hq
  go_wp2_with fail
  refine HIN.out.mono ?_
  rintro e w2 ⟨rfl, rfl⟩
  have HC := Lib.hid (join_ok H.out hc frm boot now g1 g2 g3 g4 HK.out g6 g7 hroom)
  clear g6 g7 hroom
  go_wp2_with fail
  refine HC.out.mono ?_
  rintro e w5 ⟨v, os, rfl, hS, hV, hM, hB3⟩
  have HE := Lib.hid (And.intro hS (And.intro hV (And.intro hM hB3)))
  clear hS hV hM hB3
  go_wp2_with fail
  go_ret
  obtain ⟨hS, hV, hM, hB3⟩ := HE.out
  have hs := HB0.out.size
  exact ⟨_, os, rfl, hS.mono fun k _ hk => Nat.le_trans hs hk, ⟨hV.1, fun o ho => (hV.2 o ho).mono fun k _ hk => Nat.le_trans hs hk⟩, hM, (Kx.of_below HB0.out).trans hB3⟩
end Go.Proofs.YtoegdpcfhmjnaaaGreatDoor

/- What a master's Take makes, whatever an act says. Under the stated premises on sizes. -/
namespace Go.Proofs.YtoegdpcfhmjnaaaGreatDoor
open Go.RowKit Go.Bl

/-- What stays of a master behind a step. -/
structure StP (fail now : Int) (s s' : Ms) : Prop where
  heard : Heard s now → Heard s' now
  view : s'.v = s.v ∨ ∃ node boot : Int, 1 ≤ node ∧ node ≤ 100 ∧ 0 ≤ boot ∧ boot ≤ 274877906944 ∧ node ∉ s.v.nodes ∧ s.v.L.length ≠ 6 ∧ s.v.ep ≠ 274877906944 ∧ s'.v = s.v.withN node boot
  leases : ∀ l, Heard s now → Leases s fail now l → Leases s' fail now l
theorem StP.refl (fail now : Int) (s : Ms) : StP fail now s s := ⟨id, .inl rfl, fun _ _ h => h⟩
/-- What is told: a lease of one that was heard, or something else. -/
def OutP (fail now : Int) (s : Ms) (o : OutE) : Prop := o.T ≠ 64 ∨ (o.T = 64 ∧ ∃ u : Int, o.pay = .agg #[.int .i64 s.v.ep, .int .i64 u] ∧ now < u ∧ o.rcv ∈ s.v.nodes ∧ u ≤ s.hd o.rcv + fail / 2 ∧ u ≤ 1000000000000000000)
theorem VOut.outP {w : World} {F : Nat → Prop} {v : Vw} {o : OutE} (h : VOut w F v o) (fail now : Int) (s : Ms) : OutP fail now s o := .inl (by rw [h.1]; decide)
/-- What a Take makes. -/
def TakeR (X : Nat → Prop) (w w' : World) (m p : Nat) (room fail now : Int) (s : Ms) (c : Nat) (e : Ending) : Prop :=
  ∃ v os s' vs', e = .returned v ∧ Sl w' (fun k => w.heap.size ≤ k) 2 outc v os ∧ (∀ o ∈ os, OutP fail now s' o) ∧ os.length ≤ 10 ∧ StP fail now s s' ∧ Mst X w' m p room fail vs' s' (c + 2) ∧ Kx X w w'
theorem Mst.more {X : Nat → Prop} {w : World} {m p : Nat} {room fail : Int} {vs : List Vw} {s : Ms} {c c' : Nat} (h : Mst X w m p room fail vs s c) (hc : c ≤ c') : Mst X w m p room fail vs s c' := by
  obtain ⟨Y, F, bh, br, va, vb, vc, h⟩ := h
  exact ⟨_, _, _, _, _, _, _, h.more hc⟩
section
variable {X : Nat → Prop} {w : World} {m p : Nat} {room fail : Int} {vs : List Vw} {s : Ms} {c : Nat}
theorem take_beat (h : Mst X w m p room fail vs s c) (hc : c < 999999999) (node epoch frm now : Int) (hn0 : 0 ≤ now) (hn1 : now ≤ 1000000000000000) (hf0 : 4 ≤ fail) (hf1 : fail ≤ 1073741824) :
    Calls Tryz.prog 9 #[.pointer (some ⟨m, 0, none⟩), .int .i64 frm, .iface 76 (.agg #[.int .i64 node, .int .i64 epoch, .int .i64 0]), .int .i64 now] w fun e w' => TakeR X w w' m p room fail now s c e := by
  by_cases hk : frm ∈ s.v.nodes
  · refine (takeB_any h hc node epoch 0 frm now hk hn0 hn1 hf0 hf1).mono ?_
    rintro e w' ⟨v, os, rfl, hS, hB, hK⟩
    unfold BeatR at hB
    split at hB
    · obtain ⟨rfl, hM⟩ := hB
      exact ⟨v, [], s, vs, rfl, hS, (fun o ho => by cases ho), by simp, StP.refl _ _ _, hM.more (by omega), hK⟩
    · split at hB
      · obtain ⟨⟨o, rfl, hr, hV⟩, hM⟩ := hB
        exact ⟨v, [o], s.hear frm now, vs, rfl, hS, (fun o' ho => by rw [List.mem_singleton.1 ho]; exact hV.outP _ _ _), by simp, ⟨fun h => h.hear hn0, .inl rfl, fun l hh h => h.hear hh⟩, hM, hK⟩
      · rename_i hne
        obtain ⟨rfl, hM⟩ := hB
        have hep : epoch = s.v.ep := Decidable.byContradiction hne
        refine ⟨v, _, (s.hear frm now).makeReady frm epoch, vs, rfl, hS, (fun o' ho => ?_), by simp, ⟨fun h => h.hear hn0, .inl rfl, fun l hh h => h.hear hh⟩, hM, hK⟩
        rw [List.mem_singleton.1 ho]
        refine .inr ⟨rfl, now + fail / 2, by rw [hep]; rfl, by omega, hk, ?_, by omega⟩
        show now + fail / 2 ≤ (if frm = frm then now else s.hd frm) + fail / 2
        rw [if_pos rfl]
        exact Int.le_refl _
  · refine (takeX_any h node epoch 0 frm now hk).mono ?_
    rintro e w' ⟨v, o, rfl, hS, hr, hV, hB⟩
    exact ⟨v, [o], s, vs, rfl, hS, (fun o' ho => by rw [List.mem_singleton.1 ho]; exact hV.outP _ _ _), by simp, StP.refl _ _ _, (h.fresh hB).more (by omega), Kx.of_below hB⟩
theorem take_join (h : Mst X w m p room fail vs s c) (hc : c < 999999999) (node boot frm now : Int) (hn0 : 0 ≤ now) (hroom : 2816 ≤ room) :
    Calls Tryz.prog 9 #[.pointer (some ⟨m, 0, none⟩), .int .i64 frm, .iface 48 (.agg #[.int .i64 node, .int .i64 boot]), .int .i64 now] w fun e w' => TakeR X w w' m p room fail now s c e := by
  by_cases hk : frm ∈ s.v.nodes
  · refine (takeJ_any h node boot frm now hk).mono ?_
    rintro e w' ⟨v, o, rfl, hS, hr, hV, hB⟩
    exact ⟨v, [o], s, vs, rfl, hS, (fun o' ho => by rw [List.mem_singleton.1 ho]; exact hV.outP _ _ _), by simp, StP.refl _ _ _, (h.fresh hB).more (by omega), Kx.of_below hB⟩
  by_cases hne : node = frm
  · by_cases hbad : frm < 1 ∨ 100 < frm ∨ boot < 0 ∨ 274877906944 < boot
    · refine (takeK_bad h node boot frm now hk hne hbad).mono ?_
      rintro e w' ⟨rfl, hB⟩
      exact ⟨_, [], s, vs, rfl, Sl.nil_ _ _ _ _, (fun o ho => by cases ho), by simp, StP.refl _ _ _, (h.fresh hB).more (by omega), Kx.of_below hB⟩
    · by_cases hx : s.v.L.length = 6 ∨ s.v.ep = 274877906944
      · refine (takeK_full h node boot frm now hk hne (by omega) (by omega) (by omega) (by omega) hx).mono ?_
        rintro e w' ⟨v, o, rfl, hS, hr, hV, hB⟩
        exact ⟨v, [o], s, vs, rfl, hS, (fun o' ho => by rw [List.mem_singleton.1 ho]; exact hV.outP _ _ _), by simp, StP.refl _ _ _, (h.fresh hB).more (by omega), Kx.of_below hB⟩
      · have h6 : s.v.L.length ≠ 6 := fun e => hx (.inl e)
        have h7 : s.v.ep ≠ 274877906944 := fun e => hx (.inr e)
        have hlen : vs.length ≤ 21 := by obtain ⟨_, _, _, _, _, _, _, h⟩ := h; exact h.lenv
        have hn6 := h.right.n2
        refine (takeK_ok h hc node boot frm now hk hne (by omega) (by omega) (by omega) (by omega) h6 h7 (by omega)).mono ?_
        rintro e w' ⟨v, os, rfl, hS, hV, hM, hK⟩
        have hlo : os.length ≤ 10 := by
          have := congrArg List.length hV.1
          rw [List.length_map] at this
          rw [this]
          show ((s.v.withN frm boot).L.map Nd.node).length ≤ 10
          rw [List.length_map]
          show (s.v.L ++ [_]).length ≤ 10
          rw [List.length_append, List.length_singleton]
          omega
        exact ⟨v, os, s.come frm boot now, _, rfl, hS, (fun o ho => (hV.2 o ho).outP _ _ _), hlo, ⟨fun h => h.come hn0, .inr ⟨frm, boot, by omega, by omega, by omega, by omega, hk, h6, h7, rfl⟩, fun l _ h => h.come hk⟩, hM.more (by omega), hK⟩
  · refine (takeK_other h node boot frm now hk hne).mono ?_
    rintro e w' ⟨rfl, hB⟩
    exact ⟨_, [], s, vs, rfl, Sl.nil_ _ _ _ _, (fun o ho => by cases ho), by simp, StP.refl _ _ _, (h.fresh hB).more (by omega), Kx.of_below hB⟩
theorem take_where (h : Mst X w m p room fail vs s c) (id frm now : Int) :
    Calls Tryz.prog 9 #[.pointer (some ⟨m, 0, none⟩), .int .i64 frm, .iface 37 (.agg #[.int .i64 id]), .int .i64 now] w fun e w' => TakeR X w w' m p room fail now s c e := by
  refine (takeW_any h id frm now).mono ?_
  rintro e w' ⟨v, o, rfl, hS, hr, hV, hB⟩
  exact ⟨v, [o], s, vs, rfl, hS, (fun o' ho => by rw [List.mem_singleton.1 ho]; exact hV.outP _ _ _), by simp, StP.refl _ _ _, (h.fresh hB).more (by omega), Kx.of_below hB⟩
theorem take_said (h : Mst X w m p room fail vs s c) (hc : c < 999999999) (a : Ac) (x : Value) (hx : SaidM a x) (now : Int) (hn0 : 0 ≤ now) (hn1 : now ≤ 1000000000000000) (hf0 : 4 ≤ fail) (hf1 : fail ≤ 1073741824) (hroom : 2816 ≤ room) :
    Calls Tryz.prog 9 #[.pointer (some ⟨m, 0, none⟩), .int .i64 a.frm, x, .int .i64 now] w fun e w' => TakeR X w w' m p room fail now s c e := by
  rcases hx with ⟨ne, rfl⟩ | rfl | rfl
  · exact take_beat h hc a.node ne a.frm now hn0 hn1 hf0 hf1
  · exact take_join h hc a.node a.n a.frm now hn0 hroom
  · exact take_where h a.n a.frm now
end
end Go.Proofs.YtoegdpcfhmjnaaaGreatDoor

/- Who stands last in a view. Under the stated premises on sizes. -/
namespace Go.Proofs.YtoegdpcfhmjnaaaGreatDoor
open Go.RowKit Go.Bl
attribute [local go_sem ↓] Go.wp_at_zero Go.wp_at_succ

set_option maxRecDepth 8000 in
set_option maxHeartbeats 1000000 in
theorem tail_any (w : World) (F : Nat → Prop) (ep : Int) (L0 : List Nd) (x : Nd) (a b c : Value) (h : VwSl w F (L0 ++ [x]) a b c) (hr : RightV ⟨ep, L0 ++ [x]⟩) :
    Calls Tryz.prog 13 #[.agg #[.int .i64 ep, a, b, c]] w fun e w' => e = .returned (.int .i64 x.node) ∧ Below w.heap.size w w' := by
  have hn2 := hr.n2
  change (L0 ++ [x]).length ≤ 6 at hn2
  obtain ⟨n, hn⟩ : ∃ n, n = L0.length := ⟨_, rfl⟩
  have hlen : (L0 ++ [x]).length = n + 1 := by rw [List.length_append, List.length_singleton, hn]
  have hR := fun W (hB : Below w.heap.size w W) => right_any W F ep (L0 ++ [x]) a b c (h.fresh hB)
  rw [rightV_iff.2 hr] at hR
  obtain ⟨A, ca, B, cb, C, cc, rfl, rfl, rfl, hca, hcm, hcb, hcc⟩ := h.shape
  rw [hlen] at hR hca hn2 ⊢
  obtain ⟨qa, oa, rfl, _, _, hxx⟩ := h.ch.cell_ (i := n) (by rw [List.length_map, hlen]; omega)
  have x0 := hxx 0 _ rfl
  rw [Nat.mul_one, Nat.add_zero, List.getElem_map, List.getElem_append_right (by omega)] at x0
  simp only [hn, Nat.sub_self, List.getElem_cons_zero] at x0
  rw [← hn] at x0
  have hB0 : Below w.heap.size w (w.alloc (.cells #[.int .i64 ep, .slice (some ⟨qa, oa, none⟩) (n + 1) ca, .slice B (n + 1) cb, .slice C (n + 1) cc] 45)) := (Below.refl _ w).alloc (Nat.le_refl _) _
  have hblk := heap_alloc_new w (.cells #[.int .i64 ep, .slice (some ⟨qa, oa, none⟩) (n + 1) ca, .slice B (n + 1) cb, .slice C (n + 1) cc] 45)
  have HR := Lib.hid hR
  have HB := Lib.hid hB0
  have HBK := Lib.hid hblk
  have X0 := Lib.hid x0
  obtain ⟨y, hy⟩ : ∃ y, x.node = y := ⟨_, rfl⟩
  rw [hy] at X0 ⊢
  clear h hB0 hblk hR hxx x0 hlen hn hr hy
  go_enter Tryz.func13, Tryz.ntmps13
  go_upto_region 1 with (fail)
  obtain ⟨q, hq⟩ : ∃ q, w.heap.size = q := ⟨_, rfl⟩
  have HQ := Lib.hid hq
  rw [hq] at HBK ⊢
  generalize w.alloc (.cells #[.int .i64 ep, .slice (some ⟨qa, oa, none⟩) (n + 1) ca, .slice B (n + 1) cb, .slice C (n + 1) cc] 45) = w1 at HB HBK ⊢
  have c0 : w1.cell? ⟨q, 0, none⟩ = some (.int .i64 ep) := cell_of_row w1 q 0 _ _ _ HBK.out
  have c1 : w1.cell? ⟨q, 1, none⟩ = some (.slice (some ⟨qa, oa, none⟩) (n + 1) ca) := cell_of_row w1 q 1 _ _ _ HBK.out
  have c2 : w1.cell? ⟨q, 2, none⟩ = some (.slice B (n + 1) cb) := cell_of_row w1 q 2 _ _ _ HBK.out
  have c3 : w1.cell? ⟨q, 3, none⟩ = some (.slice C (n + 1) cc) := cell_of_row w1 q 3 _ _ _ HBK.out
  have HRW := Lib.hid (HR.out w1 HB.out)
  clear hq
  go_wp2_with fail
  refine HRW.out.mono ?_
  rintro e w2 ⟨rfl, hB2⟩
  have hw1 : q < w1.heap.size := (Array.getElem?_eq_some_iff.1 HBK.out).1
  have e1 : w2.cell? ⟨q, 1, none⟩ = some (.slice (some ⟨qa, oa, none⟩) (n + 1) ca) := (hB2.cell (p := ⟨q, 1, none⟩) hw1).trans c1
  have hBB := HB.out.trans (hB2.mono HB.out.size)
  have x0 := (hBB.cell (p := ⟨qa, oa + n, none⟩) (World.block_lt_of_cell? _ _ X0.out)).trans X0.out
  have HB2 := Lib.hid hBB
  have hwn : IntKind.i64.wrap (((n + 1 : Nat) : Int) - 1) = (n : Int) := by rw [IntWalk.i64_in _ (by omega)]; omega
  clear hB2 hBB c0 c1 c2 c3
  go_wp2_with fail
  go_ret
  exact ⟨rfl, HB2.out⟩
end Go.Proofs.YtoegdpcfhmjnaaaGreatDoor

/- Views: with which boot a node came in; whether two are one. Under the stated premises on sizes. -/
namespace Go.Proofs.YtoegdpcfhmjnaaaGreatDoor
open Go.RowKit Go.Bl Go.Shelf
attribute [local go_sem ↓] Go.wp_at_zero Go.wp_at_succ

set_option maxRecDepth 8000 in
set_option maxHeartbeats 1000000 in
theorem boot_any (w : World) (F : Nat → Prop) (ep : Int) (L : List Nd) (a b c : Value) (h : VwSl w F L a b c) (hr : RightV ⟨ep, L⟩) (x : Int) (hx : x ∈ L.map Nd.node) :
    Calls Tryz.prog 49 #[.agg #[.int .i64 ep, a, b, c], .int .i64 x] w fun e w' => ∃ y ∈ L, y.node = x ∧ e = .returned (.int .i64 y.boot) ∧ Below w.heap.size w w' := by
  have hn2 := hr.n2
  change L.length ≤ 6 at hn2
  obtain ⟨i, hi, hg⟩ := idxI_get x 0 (L.map Nd.node) (Int.le_refl _) hx
  rw [Int.zero_add] at hi
  have hil : i < L.length := by have := (List.getElem?_eq_some_iff.1 hg).1; rwa [List.length_map] at this
  have hny : (L[i]).node = x := by
    rw [List.getElem?_map, List.getElem?_eq_getElem hil] at hg
    exact Option.some.inj hg
  have hP := fun W (hB : Below w.heap.size w W) => place_any W F ep L a b c (h.fresh hB) hr x
  rw [hi] at hP
  obtain ⟨A, ca, B, cb, C, cc, rfl, rfl, rfl, hca, hcm, hcb, hcc⟩ := h.shape
  obtain ⟨qc, oc, rfl, _, _, hxx⟩ := h.bo.cell_ (i := i) (by rw [List.length_map]; exact hil)
  have x0 := hxx 0 _ rfl
  rw [Nat.mul_one, Nat.add_zero, List.getElem_map] at x0
  have hB0 : Below w.heap.size w (w.alloc (.cells #[.int .i64 ep, .slice A L.length ca, .slice B L.length cb, .slice (some ⟨qc, oc, none⟩) L.length cc] 45)) := (Below.refl _ w).alloc (Nat.le_refl _) _
  have hblk := heap_alloc_new w (.cells #[.int .i64 ep, .slice A L.length ca, .slice B L.length cb, .slice (some ⟨qc, oc, none⟩) L.length cc] 45)
  have HP := Lib.hid hP
  have HB := Lib.hid hB0
  have HBK := Lib.hid hblk
  have X0 := Lib.hid x0
  have HY : Hid (∃ y ∈ L, y.node = x ∧ y.boot = (L[i]).boot) := Lib.hid ⟨L[i], List.getElem_mem hil, hny, rfl⟩
  obtain ⟨bt, hbt⟩ : ∃ bt, (L[i]).boot = bt := ⟨_, rfl⟩
  rw [hbt] at X0 HY
  have d0 : decide ((0 : Int) ≤ (i : Int)) = true := decide_eq_true (by omega)
  have hi1 : (i : Int) < (L.length : Int) := by omega
  clear h hB0 hblk hP hxx x0 hny hg hx hr hbt
  go_enter Tryz.func49, Tryz.ntmps49
  go_upto_region 1 with (fail)
  obtain ⟨q, hq⟩ : ∃ q, w.heap.size = q := ⟨_, rfl⟩
  rw [hq] at HBK ⊢
  generalize w.alloc (.cells #[.int .i64 ep, .slice A L.length ca, .slice B L.length cb, .slice (some ⟨qc, oc, none⟩) L.length cc] 45) = w1 at HB HBK ⊢
  have c0 : w1.cell? ⟨q, 0, none⟩ = some (.int .i64 ep) := cell_of_row w1 q 0 _ _ _ HBK.out
  have c1 : w1.cell? ⟨q, 1, none⟩ = some (.slice A L.length ca) := cell_of_row w1 q 1 _ _ _ HBK.out
  have c2 : w1.cell? ⟨q, 2, none⟩ = some (.slice B L.length cb) := cell_of_row w1 q 2 _ _ _ HBK.out
  have c3 : w1.cell? ⟨q, 3, none⟩ = some (.slice (some ⟨qc, oc, none⟩) L.length cc) := cell_of_row w1 q 3 _ _ _ HBK.out
  have HRW := Lib.hid (HP.out w1 HB.out)
  clear hq
  go_wp2_with fail
  refine HRW.out.mono ?_
  rintro e w2 ⟨rfl, hB2⟩
  have hw1 : q < w1.heap.size := (Array.getElem?_eq_some_iff.1 HBK.out).1
  have e3 : w2.cell? ⟨q, 3, none⟩ = some (.slice (some ⟨qc, oc, none⟩) L.length cc) := (hB2.cell (p := ⟨q, 3, none⟩) hw1).trans c3
  have hBB := HB.out.trans (hB2.mono HB.out.size)
  have x0 := (hBB.cell (p := ⟨qc, oc + i, none⟩) (World.block_lt_of_cell? _ _ X0.out)).trans X0.out
  have HB2 := Lib.hid hBB
  clear hB2 hBB c0 c1 c2 c3
  go_wp2_with fail
  go_ret
  obtain ⟨y, hy, h1, h2⟩ := HY.out
  exact ⟨y, hy, h1, by rw [h2]; rfl, HB2.out⟩
theorem allEq_self (l : List Int) : Lib.allEq (fun x y : Int => x == y) l l = true := by
  induction l with
  | nil => rfl
  | cons x l ih => simp [Lib.allEq, ih]
theorem equal_any (w : World) (F F' : Nat → Prop) (b1 o1 n c b2 o2 m d : Nat) (l l' : List Int) (h : Sl w F 1 intc (.slice (some ⟨b1, o1, none⟩) n c) l) (h' : Sl w F' 1 intc (.slice (some ⟨b2, o2, none⟩) m d) l') (hl : l.length ≤ 1000000) (hl' : l'.length ≤ 1000000) :
    Calls Tryz.prog 65 #[.slice (some ⟨b1, o1, none⟩) n c, .slice (some ⟨b2, o2, none⟩) m d] w fun e w' => ∃ B, e = .returned (.bool B) ∧ (l = l' → B = true) ∧ Below w.heap.size w w' := by
  have hn := h.len_
  have hm := h'.len_
  subst hn
  subst hm
  have hc : ∀ {b o n c : Nat} {F : Nat → Prop} {l : List Int}, Sl w F 1 intc (.slice (some ⟨b, o, none⟩) n c) l → ∀ j, j < l.length → w.cell? ⟨b, o + j, none⟩ = some (Value.int .i64 l[j]!) := fun {b o n c F l} h j hj => by
    obtain ⟨b', o', e, _, _, hxx⟩ := h.cell_ hj
    cases e
    have := hxx 0 _ rfl
    rw [Nat.mul_one, Nat.add_zero] at this
    rw [this, getElem!_pos l j hj]
  refine (AnyE.slices_Equal Tryz.equal65 (Value.int .i64) (fun x y => x == y) (NeqAt.int _ _ _) b1 o1 l.length c b2 o2 l'.length d l l' w (Nat.le_refl _) (Nat.le_refl _) (by omega) (by omega) (hc h) (hc h')).mono ?_
  rintro e w' ⟨rfl, q, rfl⟩
  refine ⟨_, rfl, fun e => ?_, ⟨rfl, rfl, rfl, Nat.le_refl _, fun _ _ => rfl⟩⟩
  rw [List.take_length, List.take_length, e]
  exact allEq_self _
set_option maxRecDepth 20000 in
set_option maxHeartbeats 4000000 in
theorem same_any (w : World) (F F' : Nat → Prop) (ep ep' : Int) (L L' : List Nd) (a b c a' b' c' : Value) (h : VwSl w F L a b c) (h' : VwSl w F' L' a' b' c') (hL : 1 ≤ L.length) (hL6 : L.length ≤ 10) (hL' : 1 ≤ L'.length) (hL6' : L'.length ≤ 10) :
    Calls Tryz.prog 50 #[.agg #[.int .i64 ep, a, b, c], .agg #[.int .i64 ep', a', b', c']] w fun e w' => ∃ B, e = .returned (.bool B) ∧ (ep = ep' → L = L' → B = true) ∧ Below w.heap.size w w' := by
  obtain ⟨qa, oa, ca, qb, ob, cb, qc, oc, cc, rfl, rfl, rfl, hca, hcm, hcb, hcc⟩ := h.some_ hL
  obtain ⟨ra, pa, da, rb, pb, db, rc, pc, dc, rfl, rfl, rfl, hda, hdm, hdb, hdc⟩ := h'.some_ hL'
  obtain ⟨n, hn⟩ : ∃ n, L.length = n := ⟨_, rfl⟩
  obtain ⟨m, hm⟩ : ∃ m, L'.length = m := ⟨_, rfl⟩
  have E := fun W (hW : Below w.heap.size w W) => equal_any W F F' qa oa n ca ra pa m da (L.map Nd.node) (L'.map Nd.node) (hn ▸ (h.fresh hW).ch) (hm ▸ (h'.fresh hW).ch) (by rw [List.length_map]; omega) (by rw [List.length_map]; omega)
  have E2 := fun W (hW : Below w.heap.size w W) => equal_any W F F' qb ob n cb rb pb m db (L.map Nd.since) (L'.map Nd.since) (hn ▸ (h.fresh hW).si) (hm ▸ (h'.fresh hW).si) (by rw [List.length_map]; omega) (by rw [List.length_map]; omega)
  have E3 := fun W (hW : Below w.heap.size w W) => equal_any W F F' qc oc n cc rc pc m dc (L.map Nd.boot) (L'.map Nd.boot) (hn ▸ (h.fresh hW).bo) (hm ▸ (h'.fresh hW).bo) (by rw [List.length_map]; omega) (by rw [List.length_map]; omega)
  have HE1 := Lib.hid E
  have HE2 := Lib.hid E2
  have HE3 := Lib.hid E3
  rw [hn] at hca ⊢
  rw [hm] at hda ⊢
  clear E E2 E3 h h' hn hm hL hL6 hL' hL6'
  obtain ⟨W, hW⟩ : ∃ W, (w.alloc (.cells #[.int .i64 ep, .slice (some ⟨qa, oa, none⟩) n ca, .slice (some ⟨qb, ob, none⟩) n cb, .slice (some ⟨qc, oc, none⟩) n cc] 45)).alloc (.cells #[.int .i64 ep', .slice (some ⟨ra, pa, none⟩) m da, .slice (some ⟨rb, pb, none⟩) m db, .slice (some ⟨rc, pc, none⟩) m dc] 45) = W := ⟨_, rfl⟩
  have hB0 : Below w.heap.size w W := hW ▸ ((Below.refl _ w).alloc (Nat.le_refl _) _).alloc (by simp) _
  have hb1 : W.heap[w.heap.size]? = some (.cells #[.int .i64 ep, .slice (some ⟨qa, oa, none⟩) n ca, .slice (some ⟨qb, ob, none⟩) n cb, .slice (some ⟨qc, oc, none⟩) n cc] 45 (0, 0)) := by rw [← hW]; exact (Below.heap_alloc _ _ _ (by simp)).trans (heap_alloc_new w _)
  have hb2 : W.heap[w.heap.size + 1]? = some (.cells #[.int .i64 ep', .slice (some ⟨ra, pa, none⟩) m da, .slice (some ⟨rb, pb, none⟩) m db, .slice (some ⟨rc, pc, none⟩) m dc] 45 (0, 0)) := by
    have := heap_alloc_new (w.alloc (.cells #[.int .i64 ep, .slice (some ⟨qa, oa, none⟩) n ca, .slice (some ⟨qb, ob, none⟩) n cb, .slice (some ⟨qc, oc, none⟩) n cc] 45)) (.cells #[.int .i64 ep', .slice (some ⟨ra, pa, none⟩) m da, .slice (some ⟨rb, pb, none⟩) m db, .slice (some ⟨rc, pc, none⟩) m dc] 45)
    rw [World.size_alloc, hW] at this
    exact this
  have HB0 := Lib.hid hB0
  have HK1 := Lib.hid hb1
  have HK2 := Lib.hid hb2
  clear hB0 hb1 hb2
  go_enter Tryz.func50, Tryz.ntmps50
  go_upto_region 1 with (fail)
  obtain ⟨q, hq⟩ : ∃ q, w.heap.size = q := ⟨_, rfl⟩
  rw [hq] at HK1 HK2 ⊢
  clear hW
  have hq1 := (Array.getElem?_eq_some_iff.1 HK1.out).1
  have hq2 := (Array.getElem?_eq_some_iff.1 HK2.out).1
  have c0 := cell_of_row W q 0 _ _ _ HK1.out
  have c1 := cell_of_row W q 1 _ _ _ HK1.out
  have d0 := cell_of_row W (q + 1) 0 _ _ _ HK2.out
  have d1 := cell_of_row W (q + 1) 1 _ _ _ HK2.out
  by_cases he : ep = ep'
  · have e0 : (ep == ep') = true := by rw [beq_iff_eq]; exact he
    clear he
    go_wp2_with fail
    refine (HE1.out W HB0.out).mono ?_
    rintro e w1 ⟨B1, rfl, hB1, hb1⟩
    have HBE1 := Lib.hid hB1
    have HX1 := Lib.hid hb1
    have c2 := (hb1.cell (p := ⟨q, 2, none⟩) hq1).trans (cell_of_row W q 2 _ _ _ HK1.out)
    have d2 := (hb1.cell (p := ⟨q + 1, 2, none⟩) hq2).trans (cell_of_row W (q + 1) 2 _ _ _ HK2.out)
    have HBX1 := Lib.hid (HB0.out.trans (hb1.mono HB0.out.size))
    clear hB1 hb1 c0 c1 d0 d1
    cases B1
    · go_wp2_with fail
      go_ret
      exact ⟨false, rfl, (fun _ e => by have := HBE1.out (by rw [e]); cases this), HBX1.out⟩
    go_wp2_with fail
    refine (HE2.out w1 HBX1.out).mono ?_
    rintro e w2 ⟨B2, rfl, hB2, hb2⟩
    have HBE2 := Lib.hid hB2
    have c3 := ((HX1.out.trans (hb2.mono HX1.out.size)).cell (p := ⟨q, 3, none⟩) hq1).trans (cell_of_row W q 3 _ _ _ HK1.out)
    have d3 := ((HX1.out.trans (hb2.mono HX1.out.size)).cell (p := ⟨q + 1, 3, none⟩) hq2).trans (cell_of_row W (q + 1) 3 _ _ _ HK2.out)
    have HBX2 := Lib.hid (HBX1.out.trans (hb2.mono HBX1.out.size))
    clear hB2 hb2 c2 d2
    cases B2
    · go_wp2_with fail
      go_ret
      exact ⟨false, rfl, (fun _ e => by have := HBE2.out (by rw [e]); cases this), HBX2.out⟩
    go_wp2_with fail
    refine (HE3.out w2 HBX2.out).mono ?_
    rintro e w3 ⟨B3, rfl, hB3, hb3⟩
    have HBE3 := Lib.hid hB3
    have HBX3 := Lib.hid (HBX2.out.trans (hb3.mono HBX2.out.size))
    clear hB3 hb3 c3 d3
    go_wp2_with fail
    go_ret
    exact ⟨B3, rfl, fun _ e => HBE3.out (by rw [e]), HBX3.out⟩
  · have e0 : (ep == ep') = false := by rw [beq_eq_false_iff_ne]; exact he
    have HNE := Lib.hid he
    clear he
    go_wp2_with fail
    go_ret
    exact ⟨false, rfl, fun e => absurd e HNE.out, HB0.out⟩
end Go.Proofs.YtoegdpcfhmjnaaaGreatDoor

/- One view follows another one. Under the stated premises on sizes. -/
namespace Go.Proofs.YtoegdpcfhmjnaaaGreatDoor
open Go.RowKit Go.Bl
attribute [local go_sem ↓] Go.wp_at_zero Go.wp_at_succ

/-- What With answers: the view that follows, or an error. -/
def WOk (Q : Prop) (u : World) (F : Nat → Prop) (ep : Int) (L : List Nd) (g : Value) (er : Int) : Prop :=
  ∃ (x : Int) (A : Option Addr) (na ca : Nat) (B : Option Addr) (nb cb : Nat) (C : Option Addr) (nc cc : Nat), g = .agg #[.int .i64 x, .slice A na ca, .slice B nb cb, .slice C nc cc] ∧ ((er = 0 ∧ x = ep ∧ VwSl u F L (.slice A na ca) (.slice B nb cb) (.slice C nc cc)) ∨ (er ≠ 0 ∧ Q))
theorem WOk.keep {Q : Prop} {u u' : World} {F G : Nat → Prop} {ep : Int} {L : List Nd} {g : Value} {er : Int} (h : WOk Q u F ep L g er) (hk : Keeps G u u') (hd : ∀ k, k < u.heap.size → F k → ¬ G k) : WOk Q u' F ep L g er := by
  obtain ⟨x, A, na, ca, B, nb, cb, C, nc, cc, rfl, h⟩ := h
  exact ⟨x, A, na, ca, B, nb, cb, C, nc, cc, rfl, h.imp (fun ⟨h1, h2, h3⟩ => ⟨h1, h2, h3.keep hk hd⟩) id⟩
theorem WOk.mono {Q : Prop} {u : World} {F F' : Nat → Prop} {ep : Int} {L : List Nd} {g : Value} {er : Int} (h : WOk Q u F ep L g er) (hF : ∀ k, k < u.heap.size → F k → F' k) : WOk Q u F' ep L g er := by
  obtain ⟨x, A, na, ca, B, nb, cb, C, nc, cc, rfl, h⟩ := h
  exact ⟨x, A, na, ca, B, nb, cb, C, nc, cc, rfl, h.imp (fun ⟨h1, h2, h3⟩ => ⟨h1, h2, h3.mono hF⟩) id⟩
def zeroCs : Array Value := #[.int .i64 0, .slice none 0 0, .slice none 0 0, .slice none 0 0]
/-- Which blocks the new view's rows may lie in. -/
def FrJ (w1 : World) (b11 : Bool) (x5 : Value) (k : Nat) : Prop := w1.heap.size ≤ k ∧ (b11 = true → x5 ≠ .pointer (some ⟨k, 0, none⟩))
/-- Amid Follows' drawn region. -/
structure JF (Q : Prop) (w1 : World) (t bt ep : Int) (L : List Nd) (β : Nat → Bool) (X : Nat → Value) (u : World) : Prop where
  k : Below w1.heap.size w1 u
  p2 : β 2 = true → X 22 = .int .i64 t
  p5 : β 5 = true → X 25 = .int .i64 t
  p6 : β 6 = true → X 26 = .int .i64 bt
  p7 : β 7 = true → ∃ g er, X 27 = .tuple #[g, .int .i64 er] ∧ WOk Q u (FrJ w1 (β 11) (X 5)) ep L g er ∧ (β 8 = true → X 19 = .tuple #[g, .int .i64 er]) ∧ (β 9 = true → X 28 = g) ∧ (β 10 = true → X 29 = .int .i64 er) ∧ (β 13 = true → X 6 = .int .i64 er) ∧
    (β 12 = true → ∀ r, X 5 = .pointer (some ⟨r, 0, none⟩) → u.heap[r]? = some (.cells g.cells 45 (0, 0)))
  p11 : β 11 = true → ∃ r, X 5 = .pointer (some ⟨r, 0, none⟩) ∧ w1.heap.size ≤ r ∧ r < u.heap.size ∧ (β 12 = false → u.heap[r]? = some (.cells zeroCs 45 (0, 0)))
  o8 : β 8 = true → β 7 = true
  o9 : β 9 = true → β 8 = true
  o10 : β 10 = true → β 8 = true
  o12 : β 12 = true → β 11 = true ∧ β 9 = true
  o13 : β 13 = true → β 12 = true ∧ β 10 = true
section
variable {Q : Prop} {w1 : World} {t bt ep : Int} {L : List Nd} {β : Nat → Bool} {X : Nat → Value} {u u' : World}
theorem JF.fresh (h : JF Q w1 t bt ep L β X u) (hB : Below u.heap.size u u') : JF Q w1 t bt ep L β X u' := by
  refine ⟨h.k.trans (hB.mono h.k.size), h.p2, h.p5, h.p6, fun e => ?_, fun e => ?_, h.o8, h.o9, h.o10, h.o12, h.o13⟩
  · obtain ⟨g, er, h1, h2, h3, h4, h5, h6, h7⟩ := h.p7 e
    refine ⟨g, er, h1, h2.keep (Keeps.of_fresh hB fun _ => False) (fun _ _ _ => id), h3, h4, h5, h6, fun e2 r hr => ?_⟩
    have h8 := h7 e2 r hr
    exact (hB.block r (Array.getElem?_eq_some_iff.1 h8).1).trans h8
  · obtain ⟨r, h1, h2, h3, h4⟩ := h.p11 e
    refine ⟨r, h1, h2, Nat.lt_of_lt_of_le h3 hB.size, fun e2 => ?_⟩
    have h5 := h4 e2
    exact (hB.block r h3).trans h5
theorem JF.put2 (h : JF Q w1 t bt ep L β X u) : JF Q w1 t bt ep L (fun k => decide (k = 2) || β k) (newX (some 22) (.int .i64 t) X) u := ⟨h.k, fun _ => rfl, h.p5, h.p6, h.p7, h.p11, h.o8, h.o9, h.o10, h.o12, h.o13⟩
theorem JF.put5 (h : JF Q w1 t bt ep L β X u) : JF Q w1 t bt ep L (fun k => decide (k = 5) || β k) (newX (some 25) (.int .i64 t) X) u := ⟨h.k, h.p2, fun _ => rfl, h.p6, h.p7, h.p11, h.o8, h.o9, h.o10, h.o12, h.o13⟩
theorem JF.put6 (h : JF Q w1 t bt ep L β X u) : JF Q w1 t bt ep L (fun k => decide (k = 6) || β k) (newX (some 26) (.int .i64 bt) X) u := ⟨h.k, h.p2, h.p5, fun _ => rfl, h.p7, h.p11, h.o8, h.o9, h.o10, h.o12, h.o13⟩
theorem JF.put7 (h : JF Q w1 t bt ep L β X u) (h7 : β 7 = false) {g : Value} {er : Int} (hB : Below u.heap.size u u') (hw : WOk Q u' (fun k => u.heap.size ≤ k) ep L g er) : JF Q w1 t bt ep L (fun k => decide (k = 7) || β k) (newX (some 27) (.tuple #[g, .int .i64 er]) X) u' := by
  have h8 : β 8 = false := ff h7 h.o8
  have h9 : β 9 = false := ff h8 h.o9
  have h10 : β 10 = false := ff h8 h.o10
  have h12 : β 12 = false := ff h9 fun e => (h.o12 e).2
  have h13 : β 13 = false := ff h12 fun e => (h.o13 e).1
  have hf := h.fresh hB
  refine ⟨hf.k, hf.p2, hf.p5, hf.p6, fun _ => ⟨g, er, rfl, hw.mono fun k hk h1 => ⟨Nat.le_trans h.k.size h1, fun e e2 => ?_⟩, ?_, ?_, ?_, ?_, ?_⟩, hf.p11, fun _ => rfl, hf.o9, hf.o10, hf.o12, hf.o13⟩
  · obtain ⟨r, h3, h4, h5, _⟩ := h.p11 e
    have e2 : X 5 = .pointer (some ⟨k, 0, none⟩) := e2
    rw [h3] at e2
    cases e2
    omega
  · intro e; rw [show (decide (8 = 7) || β 8) = β 8 from rfl, h8] at e; cases e
  · intro e; rw [show (decide (9 = 7) || β 9) = β 9 from rfl, h9] at e; cases e
  · intro e; rw [show (decide (10 = 7) || β 10) = β 10 from rfl, h10] at e; cases e
  · intro e; rw [show (decide (13 = 7) || β 13) = β 13 from rfl, h13] at e; cases e
  · intro e; rw [show (decide (12 = 7) || β 12) = β 12 from rfl, h12] at e; cases e
theorem JF.put8 (h : JF Q w1 t bt ep L β X u) (h7 : β 7 = true) : JF Q w1 t bt ep L (fun k => decide (k = 8) || β k) (newX (some 19) (X 27) X) u := by
  refine ⟨h.k, h.p2, h.p5, h.p6, fun _ => ?_, h.p11, fun _ => h7, fun _ => rfl, fun _ => rfl, h.o12, h.o13⟩
  obtain ⟨g, er, h1, h2, h3, h4, h5, h6, h8⟩ := h.p7 h7
  exact ⟨g, er, h1, h2, fun _ => h1, h4, h5, h6, h8⟩
theorem JF.put9 (h : JF Q w1 t bt ep L β X u) {g : Value} {er : Int} (h8 : β 8 = true) (hx : X 19 = .tuple #[g, .int .i64 er]) : JF Q w1 t bt ep L (fun k => decide (k = 9) || β k) (newX (some 28) g X) u := by
  refine ⟨h.k, h.p2, h.p5, h.p6, fun _ => ?_, h.p11, h.o8, fun _ => h8, h.o10, fun e => ⟨(h.o12 e).1, rfl⟩, h.o13⟩
  obtain ⟨g', er', h1, h2, h3, h4, h5, h6, h9⟩ := h.p7 (h.o8 h8)
  have := h3 h8
  rw [hx] at this
  cases this
  exact ⟨g, er, h1, h2, h3, fun _ => rfl, h5, h6, h9⟩
theorem JF.put10 (h : JF Q w1 t bt ep L β X u) {g : Value} {er : Int} (h8 : β 8 = true) (hx : X 19 = .tuple #[g, .int .i64 er]) : JF Q w1 t bt ep L (fun k => decide (k = 10) || β k) (newX (some 29) (.int .i64 er) X) u := by
  refine ⟨h.k, h.p2, h.p5, h.p6, fun _ => ?_, h.p11, h.o8, h.o9, fun _ => h8, h.o12, fun e => ⟨(h.o13 e).1, rfl⟩⟩
  obtain ⟨g', er', h1, h2, h3, h4, h5, h6, h9⟩ := h.p7 (h.o8 h8)
  have := h3 h8
  rw [hx] at this
  cases this
  exact ⟨g, er, h1, h2, h3, h4, fun _ => rfl, h6, h9⟩
theorem JF.put11 (h : JF Q w1 t bt ep L β X u) (h11 : β 11 = false) : JF Q w1 t bt ep L (fun k => decide (k = 11) || β k) (newX (some 5) (.pointer (some ⟨u.heap.size, 0, none⟩)) X) (u.alloc (.cells zeroCs 45)) := by
  have h12 : β 12 = false := ff h11 fun e => (h.o12 e).1
  have hal : Below u.heap.size u (u.alloc (.cells zeroCs 45)) := (Below.refl _ u).alloc (Nat.le_refl _) _
  have hf := h.fresh hal
  refine ⟨hf.k, hf.p2, hf.p5, hf.p6, fun e => ?_, fun _ => ⟨_, rfl, h.k.size, by rw [World.size_alloc]; omega, fun _ => heap_alloc_new u _⟩, hf.o8, hf.o9, hf.o10, fun e => ⟨rfl, (hf.o12 e).2⟩, hf.o13⟩
  obtain ⟨g, er, h1, h2, h3, h4, h5, h6, h9⟩ := h.p7 e
  refine ⟨g, er, h1, ?_, h3, h4, h5, h6, fun e2 => by rw [show (decide (12 = 11) || β 12) = β 12 from rfl, h12] at e2; cases e2⟩
  refine (h2.mono (F' := fun k => FrJ w1 (β 11) (X 5) k ∧ k < u.heap.size) fun k hk h1 => ⟨h1, hk⟩).keep (Keeps.of_fresh hal fun _ => False) (fun _ _ _ => id) |>.mono fun k _ hk => ⟨hk.1.1, fun _ e => ?_⟩
  have e : Value.pointer (some ⟨u.heap.size, 0, none⟩) = .pointer (some ⟨k, 0, none⟩) := e
  cases e
  have := hk.2
  omega
theorem JF.put12 (h : JF Q w1 t bt ep L β X u) (h12 : β 12 = false) (h11 : β 11 = true) (h9 : β 9 = true) {r : Nat} {x : Int} {a b c : Value} {er : Int} (hr : X 5 = .pointer (some ⟨r, 0, none⟩)) (hg : X 27 = .tuple #[.agg #[.int .i64 x, a, b, c], .int .i64 er]) :
    JF Q w1 t bt ep L (fun k => decide (k = 12) || β k) X ((((u.setCell ⟨r, 0, none⟩ (.int .i64 x)).setCell ⟨r, 1, none⟩ a).setCell ⟨r, 2, none⟩ b).setCell ⟨r, 3, none⟩ c) := by
  have h13 : β 13 = false := ff h12 fun e => (h.o13 e).1
  obtain ⟨r', e1, e2, e3, e4⟩ := h.p11 h11
  rw [hr] at e1
  cases e1
  have hk := four_keeps u r (.int .i64 x) a b c
  have hb := four_block (e4 h12) (.int .i64 x) a b c
  refine ⟨Below.keep h.k hk h.k.size (fun k e => by rw [show k = r from e]; exact e2), h.p2, h.p5, h.p6, fun e => ?_, fun _ => ⟨r, hr, e2, Nat.lt_of_lt_of_le e3 hk.size, fun e => by cases e⟩, h.o8, h.o9, h.o10, fun _ => ⟨h11, h9⟩, fun e => ⟨rfl, (h.o13 e).2⟩⟩
  obtain ⟨g, er', h1, h2, h3, h4, h5, h6, h7⟩ := h.p7 e
  rw [hg] at h1
  cases h1
  refine ⟨_, er, hg, h2.keep hk (fun k _ hf e => hf.2 h11 (by rw [hr, show k = r from e])), h3, h4, h5, (fun e => by rw [show (decide (13 = 12) || β 13) = β 13 from rfl, h13] at e; cases e), fun _ r2 hr2 => ?_⟩
  rw [hr] at hr2
  cases hr2
  exact hb
theorem JF.put13 (h : JF Q w1 t bt ep L β X u) {er : Int} (h12 : β 12 = true) (h10 : β 10 = true) (hx : X 29 = .int .i64 er) : JF Q w1 t bt ep L (fun k => decide (k = 13) || β k) (newX (some 6) (.int .i64 er) X) u := by
  refine ⟨h.k, h.p2, h.p5, h.p6, fun e => ?_, h.p11, h.o8, h.o9, h.o10, h.o12, fun _ => ⟨h12, h10⟩⟩
  obtain ⟨g, er', h1, h2, h3, h4, h5, h6, h9⟩ := h.p7 e
  have := h5 h10
  rw [hx] at this
  cases this
  exact ⟨g, er, h1, h2, h3, h4, h5, fun _ => rfl, h9⟩
end
theorem nd_uniq : ∀ {L : List Nd}, (L.map Nd.node).Nodup → ∀ y ∈ L, ∀ z ∈ L, y.node = z.node → y = z
  | [], _, y, hy, _, _, _ => by cases hy
  | x :: l, h, y, hy, z, hz, e => by
    rw [List.map_cons, List.nodup_cons] at h
    rcases List.mem_cons.1 hy with h1 | h1
    · rcases List.mem_cons.1 hz with h2 | h2
      · rw [h1, h2]
      · exact (h.1 (List.mem_map.2 ⟨z, h2, by rw [← e, h1]⟩)).elim
    · rcases List.mem_cons.1 hz with h2 | h2
      · exact (h.1 (List.mem_map.2 ⟨y, h1, by rw [e, h2]⟩)).elim
      · exact nd_uniq h.2 y h1 z h2 e
/-- A call amid a region, its run being known. -/
theorem wpOp_callr {P : Program} {l : List Oper} {i : Nat} {o : Oper} {b : Act} {u : World} {K : Act → World → Prop} {Q : Exit → Act → World → Prop} (f : FuncId) (vals : Array Value) (ho : l[i]? = some o) (hg : o.guard = none)
    (hrun : (execOp b.eval o).run P u = .ok (.enter f vals) u) (hc : Calls P f vals u fun e w' => ∃ r, e = .returned r ∧ K (b.put ((l[i]?).bind (·.dst)) r) w') : wpOp P l.toArray Q i K b u := by
  rw [ho] at hc
  refine wpOp_of (o := o) (by simpa using ho) ?_
  rw [if_pos (by simp [Region.wanted, hg])]
  unfold Oper.wp
  rw [hrun, Oper.upon_enter]
  refine hc.mono fun e w'' hh => ?_
  obtain ⟨r, rfl, hK⟩ := hh
  exact hK
set_option maxRecDepth 20000 in
set_option maxHeartbeats 8000000 in
theorem follows_core (w : World) (F F' : Nat → Prop) (ep : Int) (L L0 : List Nd) (z : Nd) (a b c a' b' c' : Value) (h : VwSl w F L a b c) (hr : RightV ⟨ep, L⟩) (h' : VwSl w F' (L0 ++ [z]) a' b' c') (hr' : RightV ⟨ep + 1, L0 ++ [z]⟩) (Q : Prop)
    (hQ : Q → ∃ x ∈ L.map Nd.node, L.length ≠ 1 ∧ ep ≠ 274877906944 ∧ L0 ++ [z] = ((⟨ep, L⟩ : Vw).cutN x).L)
    (hW : ∀ W, Below w.heap.size w W → Calls Tryz.prog 48 #[.agg #[.int .i64 ep, a, b, c], .int .i64 z.node, .int .i64 z.boot] W fun e w' => ∃ (g : Value) (er : Int), e = .returned (.tuple #[g, .int .i64 er]) ∧ WOk Q w' (fun k => W.heap.size ≤ k) (ep + 1) (L0 ++ [z]) g er ∧ Below W.heap.size W w') :
    Calls Tryz.prog 22 #[.agg #[.int .i64 ep, a, b, c], .agg #[.int .i64 (ep + 1), a', b', c']] w fun e w' => e = .returned (.bool true) ∧ Below w.heap.size w w' := by
  have hL := hr.n1
  have hL6 := hr.n2
  have hM := hr'.n1
  have hM6 := hr'.n2
  change 1 ≤ L.length at hL
  change L.length ≤ 6 at hL6
  change 1 ≤ (L0 ++ [z]).length at hM
  change (L0 ++ [z]).length ≤ 6 at hM6
  have HTL := Lib.hid (fun W (hB : Below w.heap.size w W) => tail_any W F' (ep + 1) L0 z a' b' c' (h'.fresh hB) hr')
  have HBT : Hid (∀ W, Below w.heap.size w W → Calls Tryz.prog 49 #[.agg #[.int .i64 (ep + 1), a', b', c'], .int .i64 z.node] W fun e w' => e = .returned (.int .i64 z.boot) ∧ Below W.heap.size W w') := Lib.hid fun W hB => (boot_any W F' (ep + 1) (L0 ++ [z]) a' b' c' (h'.fresh hB) hr' z.node (List.mem_map.2 ⟨z, by simp, rfl⟩)).mono fun e w' ⟨y, hy, h1, h2, h3⟩ => ⟨by rw [h2, nd_uniq hr'.nodup y hy z (by show z ∈ L0 ++ [z]; simp) h1], h3⟩
  have HRA := Lib.hid (fun W (hB : Below w.heap.size w W) => by have := right_any W F ep L a b c (h.fresh hB); rw [rightV_iff.2 hr] at this; exact this)
  have HRB := Lib.hid (fun W (hB : Below w.heap.size w W) => by have := right_any W F' (ep + 1) (L0 ++ [z]) a' b' c' (h'.fresh hB); rw [rightV_iff.2 hr'] at this; exact this)
  have HW := Lib.hid hW
  have HQ := Lib.hid hQ
  have H := Lib.hid h
  have H' := Lib.hid h'
  have HR := Lib.hid hr
  have HR' := Lib.hid hr'
  obtain ⟨L', hL'⟩ : ∃ L', L0 ++ [z] = L' := ⟨_, rfl⟩
  rw [hL'] at HW HQ H' HR' hM hM6
  obtain ⟨qa, oa, ca, qb, ob, cb, qc, oc, cc, rfl, rfl, rfl, hca, hcm, hcb, hcc⟩ := h.some_ hL
  obtain ⟨ra, pa, da, rb, pb, db, rc, pc, dc, rfl, rfl, rfl, hda, hdm, hdb, hdc⟩ := H'.out.some_ hM
  obtain ⟨n, hn⟩ : ∃ n, L.length = n := ⟨_, rfl⟩
  obtain ⟨m, hm⟩ : ∃ m, L'.length = m := ⟨_, rfl⟩
  rw [hm] at HTL HBT
  rw [hn] at HRA HW H hca hL hL6 ⊢
  rw [hm] at HRB H' hda hM hM6 ⊢
  have HLN := Lib.hid hn
  have HLM := Lib.hid hm
  obtain ⟨t, ht⟩ : ∃ t, z.node = t := ⟨_, rfl⟩
  obtain ⟨bt, hbt⟩ : ∃ bt, z.boot = bt := ⟨_, rfl⟩
  rw [ht] at HTL HBT HW
  rw [hbt] at HBT HW
  clear h hr h' hr' hQ hW hL' hn hm ht hbt
  obtain ⟨W, hW⟩ : ∃ W, (w.alloc (.cells #[.int .i64 ep, .slice (some ⟨qa, oa, none⟩) n ca, .slice (some ⟨qb, ob, none⟩) n cb, .slice (some ⟨qc, oc, none⟩) n cc] 45)).alloc (.cells #[.int .i64 (ep + 1), .slice (some ⟨ra, pa, none⟩) m da, .slice (some ⟨rb, pb, none⟩) m db, .slice (some ⟨rc, pc, none⟩) m dc] 45) = W := ⟨_, rfl⟩
  have hB0 : Below w.heap.size w W := hW ▸ ((Below.refl _ w).alloc (Nat.le_refl _) _).alloc (by simp) _
  have hb1 : W.heap[w.heap.size]? = some (.cells #[.int .i64 ep, .slice (some ⟨qa, oa, none⟩) n ca, .slice (some ⟨qb, ob, none⟩) n cb, .slice (some ⟨qc, oc, none⟩) n cc] 45 (0, 0)) := by rw [← hW]; exact (Below.heap_alloc _ _ _ (by simp)).trans (heap_alloc_new w _)
  have hb2 : W.heap[w.heap.size + 1]? = some (.cells #[.int .i64 (ep + 1), .slice (some ⟨ra, pa, none⟩) m da, .slice (some ⟨rb, pb, none⟩) m db, .slice (some ⟨rc, pc, none⟩) m dc] 45 (0, 0)) := by
    have := heap_alloc_new (w.alloc (.cells #[.int .i64 ep, .slice (some ⟨qa, oa, none⟩) n ca, .slice (some ⟨qb, ob, none⟩) n cb, .slice (some ⟨qc, oc, none⟩) n cc] 45)) (.cells #[.int .i64 (ep + 1), .slice (some ⟨ra, pa, none⟩) m da, .slice (some ⟨rb, pb, none⟩) m db, .slice (some ⟨rc, pc, none⟩) m dc] 45)
    rw [World.size_alloc, hW] at this
    exact this
  have HB0 := Lib.hid hB0
  have HK1 := Lib.hid hb1
  have HK2 := Lib.hid hb2
  clear hB0 hb1 hb2
  go_enter Tryz.func22, Tryz.ntmps22
  go_upto_region 1 with (fail)
  obtain ⟨q, hq⟩ : ∃ q, w.heap.size = q := ⟨_, rfl⟩
  rw [hq] at HK1 HK2 ⊢
  clear hW hq
  have c0 := cell_of_row W q 0 _ _ _ HK1.out
  have c1 := cell_of_row W q 1 _ _ _ HK1.out
  have c2 := cell_of_row W q 2 _ _ _ HK1.out
  have c3 := cell_of_row W q 3 _ _ _ HK1.out
  go_wp2_with fail
  refine (HRA.out W HB0.out).mono ?_
  rintro e wa ⟨rfl, hBa⟩
  have HKa := Lib.hid ((hBa.block _ (Array.getElem?_eq_some_iff.1 HK1.out).1).trans HK1.out)
  have HKb := Lib.hid ((hBa.block _ (Array.getElem?_eq_some_iff.1 HK2.out).1).trans HK2.out)
  have HBa := Lib.hid (HB0.out.trans (hBa.mono HB0.out.size))
  clear hBa c0 c1 c2 c3
  have d0 := cell_of_row wa (q + 1) 0 _ _ _ HKb.out
  have d1 := cell_of_row wa (q + 1) 1 _ _ _ HKb.out
  have d2 := cell_of_row wa (q + 1) 2 _ _ _ HKb.out
  have d3 := cell_of_row wa (q + 1) 3 _ _ _ HKb.out
  go_wp2_with fail
  refine (HRB.out wa HBa.out).mono ?_
  rintro e w1 ⟨rfl, hBb⟩
  have HK1 := Lib.hid ((hBb.block _ (Array.getElem?_eq_some_iff.1 HKa.out).1).trans HKa.out)
  have HK2 := Lib.hid ((hBb.block _ (Array.getElem?_eq_some_iff.1 HKb.out).1).trans HKb.out)
  have HB1 := Lib.hid (HBa.out.trans (hBb.mono HBa.out.size))
  clear hBb d0 d1 d2 d3 HKa HKb HBa HB0
  have c0 := cell_of_row w1 q 0 _ _ _ HK1.out
  have c1 := cell_of_row w1 q 1 _ _ _ HK1.out
  have c2 := cell_of_row w1 q 2 _ _ _ HK1.out
  have c3 := cell_of_row w1 q 3 _ _ _ HK1.out
  have d0 := cell_of_row w1 (q + 1) 0 _ _ _ HK2.out
  have d1 := cell_of_row w1 (q + 1) 1 _ _ _ HK2.out
  have d2 := cell_of_row w1 (q + 1) 2 _ _ _ HK2.out
  have d3 := cell_of_row w1 (q + 1) 3 _ _ _ HK2.out
  go_upto_region 3 with (fail)
  have held : ∀ β X u, JF Q w1 t bt (ep + 1) L' β X u → (u.cell? ⟨q, 0, none⟩ = some (.int .i64 ep) ∧ u.cell? ⟨q, 1, none⟩ = some (.slice (some ⟨qa, oa, none⟩) n ca) ∧ u.cell? ⟨q, 2, none⟩ = some (.slice (some ⟨qb, ob, none⟩) n cb) ∧ u.cell? ⟨q, 3, none⟩ = some (.slice (some ⟨qc, oc, none⟩) n cc) ∧
      u.cell? ⟨q + 1, 0, none⟩ = some (.int .i64 (ep + 1)) ∧ u.cell? ⟨q + 1, 1, none⟩ = some (.slice (some ⟨ra, pa, none⟩) m da) ∧ u.cell? ⟨q + 1, 2, none⟩ = some (.slice (some ⟨rb, pb, none⟩) m db) ∧ u.cell? ⟨q + 1, 3, none⟩ = some (.slice (some ⟨rc, pc, none⟩) m dc)) := fun β X u hJ => by
    have hq1 := (Array.getElem?_eq_some_iff.1 HK1.out).1
    have hq2 := (Array.getElem?_eq_some_iff.1 HK2.out).1
    exact ⟨(hJ.k.cell (p := ⟨q, 0, none⟩) hq1).trans c0, (hJ.k.cell (p := ⟨q, 1, none⟩) hq1).trans c1, (hJ.k.cell (p := ⟨q, 2, none⟩) hq1).trans c2, (hJ.k.cell (p := ⟨q, 3, none⟩) hq1).trans c3, (hJ.k.cell (p := ⟨q + 1, 0, none⟩) hq2).trans d0, (hJ.k.cell (p := ⟨q + 1, 1, none⟩) hq2).trans d1, (hJ.k.cell (p := ⟨q + 1, 2, none⟩) hq2).trans d2, (hJ.k.cell (p := ⟨q + 1, 3, none⟩) hq2).trans d3⟩
  refine wp_region_noPanic ?_
  refine region_kept 13 [0, 1, 3, 4] [2, 5, 6, 7, 8, 9, 10, 11, 12, 13] [22, 25, 26, 27, 19, 28, 29, 5, 6]
    (fun z => z.cell? ⟨q, 0, none⟩ = some (.int .i64 ep) ∧ z.cell? ⟨q, 1, none⟩ = some (.slice (some ⟨qa, oa, none⟩) n ca) ∧ z.cell? ⟨q, 2, none⟩ = some (.slice (some ⟨qb, ob, none⟩) n cb) ∧ z.cell? ⟨q, 3, none⟩ = some (.slice (some ⟨qc, oc, none⟩) n cc) ∧
      z.cell? ⟨q + 1, 0, none⟩ = some (.int .i64 (ep + 1)) ∧ z.cell? ⟨q + 1, 1, none⟩ = some (.slice (some ⟨ra, pa, none⟩) m da) ∧ z.cell? ⟨q + 1, 2, none⟩ = some (.slice (some ⟨rb, pb, none⟩) m db) ∧ z.cell? ⟨q + 1, 3, none⟩ = some (.slice (some ⟨rc, pc, none⟩) m dc))
    (JF Q w1 t bt (ep + 1) L') (by kernel_rfl) (by kernel_rfl) (by kernel_rfl) (by decide) (by kernel_rfl) (fun _ _ _ _ h => h) ⟨c0, c1, c2, c3, d0, d1, d2, d3⟩
    ⟨.agg #[.int .i64 ep, .slice (some ⟨qa, oa, none⟩) n ca, .slice (some ⟨qb, ob, none⟩) n cb, .slice (some ⟨qc, oc, none⟩) n cc], .inl ⟨rfl, fun z hz => by (obtain ⟨z1, z2, z3, z4, z5, z6, z7, z8⟩ := hz; simp only [List.getElem?_toArray, List.getElem?_cons_zero, Option.getD_some]; go_simp)⟩,
      .agg #[.int .i64 (ep + 1), .slice (some ⟨ra, pa, none⟩) m da, .slice (some ⟨rb, pb, none⟩) m db, .slice (some ⟨rc, pc, none⟩) m dc], .inl ⟨rfl, fun z hz => by (obtain ⟨z1, z2, z3, z4, z5, z6, z7, z8⟩ := hz; simp only [List.getElem?_toArray, List.getElem?_cons_succ, List.getElem?_cons_zero, Option.getD_some]; go_simp)⟩,
      .agg #[.int .i64 (ep + 1), .slice (some ⟨ra, pa, none⟩) m da, .slice (some ⟨rb, pb, none⟩) m db, .slice (some ⟨rc, pc, none⟩) m dc], .inl ⟨rfl, fun z hz => by (obtain ⟨z1, z2, z3, z4, z5, z6, z7, z8⟩ := hz; simp only [List.getElem?_toArray, List.getElem?_cons_succ, List.getElem?_cons_zero, Option.getD_some]; go_simp)⟩,
      .agg #[.int .i64 (ep + 1), .slice (some ⟨ra, pa, none⟩) m da, .slice (some ⟨rb, pb, none⟩) m db, .slice (some ⟨rc, pc, none⟩) m dc], .inl ⟨rfl, fun z hz => by (obtain ⟨z1, z2, z3, z4, z5, z6, z7, z8⟩ := hz; simp only [List.getElem?_toArray, List.getElem?_cons_succ, List.getElem?_cons_zero, Option.getD_some]; go_simp)⟩,
      rfl⟩ ?_ ?_ ?_
  · intro β X hβ
    have b := fun i (hi : i ∈ [2, 5, 6, 7, 8, 9, 10, 11, 12, 13]) => hβ i hi
    have no : ∀ {i : Nat} {P : Prop}, i ∈ [2, 5, 6, 7, 8, 9, 10, 11, 12, 13] → β i = true → P := fun hi e => by rw [b _ hi] at e; cases e
    exact ⟨⟨rfl, rfl, rfl, Nat.le_refl _, fun _ _ => rfl⟩, no (by decide), no (by decide), no (by decide), no (by decide), no (by decide), no (by decide), no (by decide), no (by decide), no (by decide), no (by decide)⟩
  · intro i hi β X u hJ hb hdep b ho hx K hK
    simp only [List.mem_cons, List.not_mem_nil, or_false] at hi
    have hBu := HB1.out.trans (hJ.k.mono HB1.out.size)
    rcases hi with rfl | rfl | rfl | rfl | rfl | rfl | rfl | rfl | rfl | rfl
    · have e1 : b.eval (.tmp 21) = .agg #[.int .i64 (ep + 1), .slice (some ⟨ra, pa, none⟩) m da, .slice (some ⟨rb, pb, none⟩) m db, .slice (some ⟨rc, pc, none⟩) m dc] := by rw [ho 21 (by decide)]; go_simp
      exact wpOp_callx 13 21 45 _ rfl rfl rfl e1 (by kernel_rfl) ((HTL.out u hBu).mono fun e w' ⟨he, hB⟩ => ⟨_, he, hK _ w' (fun _ => held _ _ _ ((hJ.fresh hB).put2)) ((hJ.fresh hB).put2)⟩)
    · have e1 : b.eval (.tmp 24) = .agg #[.int .i64 (ep + 1), .slice (some ⟨ra, pa, none⟩) m da, .slice (some ⟨rb, pb, none⟩) m db, .slice (some ⟨rc, pc, none⟩) m dc] := by rw [ho 24 (by decide)]; go_simp
      exact wpOp_callx 13 24 45 _ rfl rfl rfl e1 (by kernel_rfl) ((HTL.out u hBu).mono fun e w' ⟨he, hB⟩ => ⟨_, he, hK _ w' (fun _ => held _ _ _ ((hJ.fresh hB).put5)) ((hJ.fresh hB).put5)⟩)
    · have h5 : β 5 = true := edge_came rfl hdep 5 (by kernel_rfl)
      have e1 : b.eval (.tmp 23) = .agg #[.int .i64 (ep + 1), .slice (some ⟨ra, pa, none⟩) m da, .slice (some ⟨rb, pb, none⟩) m db, .slice (some ⟨rc, pc, none⟩) m dc] := by rw [ho 23 (by decide)]; go_simp
      have e2 : b.eval (.tmp 25) = .int .i64 t := (hx 25 (by decide) (by simp [Act.put])).trans (hJ.p5 h5)
      have e1' : (b.tmps[23]?).getD undef = .agg #[.int .i64 (ep + 1), .slice (some ⟨ra, pa, none⟩) m da, .slice (some ⟨rb, pb, none⟩) m db, .slice (some ⟨rc, pc, none⟩) m dc] := by rw [← Array.getD_eq_getD_getElem?]; exact e1
      have e2' : (b.tmps[25]?).getD undef = .int .i64 t := by rw [← Array.getD_eq_getD_getElem?]; exact e2
      exact wpOp_callr 49 #[.agg #[.int .i64 (ep + 1), .slice (some ⟨ra, pa, none⟩) m da, .slice (some ⟨rb, pb, none⟩) m db, .slice (some ⟨rc, pc, none⟩) m dc], .int .i64 t] rfl rfl (by clear ho hx hJ hK hdep e1 e2; unfold execOp; go_simp) ((HBT.out u hBu).mono fun e w' ⟨he, hB⟩ => ⟨_, he, hK _ w' (fun _ => held _ _ _ ((hJ.fresh hB).put6)) ((hJ.fresh hB).put6)⟩)
    · have h2 : β 2 = true := edge_came rfl hdep 2 (by kernel_rfl)
      have h6 : β 6 = true := edge_came rfl hdep 6 (by kernel_rfl)
      have e1 : b.eval (.tmp 20) = .agg #[.int .i64 ep, .slice (some ⟨qa, oa, none⟩) n ca, .slice (some ⟨qb, ob, none⟩) n cb, .slice (some ⟨qc, oc, none⟩) n cc] := by rw [ho 20 (by decide)]; go_simp
      have e2 : b.eval (.tmp 22) = .int .i64 t := (hx 22 (by decide) (by simp [Act.put])).trans (hJ.p2 h2)
      have e3 : b.eval (.tmp 26) = .int .i64 bt := (hx 26 (by decide) (by simp [Act.put])).trans (hJ.p6 h6)
      have e1' : (b.tmps[20]?).getD undef = .agg #[.int .i64 ep, .slice (some ⟨qa, oa, none⟩) n ca, .slice (some ⟨qb, ob, none⟩) n cb, .slice (some ⟨qc, oc, none⟩) n cc] := by rw [← Array.getD_eq_getD_getElem?]; exact e1
      have e2' : (b.tmps[22]?).getD undef = .int .i64 t := by rw [← Array.getD_eq_getD_getElem?]; exact e2
      have e3' : (b.tmps[26]?).getD undef = .int .i64 bt := by rw [← Array.getD_eq_getD_getElem?]; exact e3
      exact wpOp_callr 48 #[.agg #[.int .i64 ep, .slice (some ⟨qa, oa, none⟩) n ca, .slice (some ⟨qb, ob, none⟩) n cb, .slice (some ⟨qc, oc, none⟩) n cc], .int .i64 t, .int .i64 bt] rfl rfl (by clear ho hx hJ hK hdep e1 e2 e3; unfold execOp; go_simp) ((HW.out u hBu).mono fun e w' ⟨g, er, he, hok, hB⟩ => ⟨_, he, hK _ w' (fun _ => held _ _ _ (hJ.put7 hb hB hok)) (hJ.put7 hb hB hok)⟩)
    · have h7 : β 7 = true := edge_came rfl hdep 7 (by kernel_rfl)
      obtain ⟨g, er, h27, -⟩ := hJ.p7 h7
      have e1 : b.eval (.tmp 27) = .tuple #[g, .int .i64 er] := (hx 27 (by decide) (by simp [Act.put])).trans h27
      have hK1 := hK (X 27) u (fun _ => held _ _ _ (hJ.put8 h7)) (hJ.put8 h7)
      rw [h27] at hK1
      refine wpOp_of rfl ?_
      have e1' : (b.tmps[27]?).getD undef = .tuple #[g, .int .i64 er] := by rw [← Array.getD_eq_getD_getElem?]; exact e1
      clear ho hx hJ hK hdep e1 h27
      go_simp
      exact hK1
    · have h8 : β 8 = true := edge_came rfl hdep 8 (by kernel_rfl)
      obtain ⟨g, er, h27, -, h19, -⟩ := hJ.p7 (hJ.o8 h8)
      have h19 := h19 h8
      have e1 : b.eval (.tmp 19) = .tuple #[g, .int .i64 er] := (hx 19 (by decide) (by simp [Act.put])).trans h19
      have hK1 := hK g u (fun _ => held _ _ _ (hJ.put9 h8 h19)) (hJ.put9 h8 h19)
      refine wpOp_of rfl ?_
      have e1' : (b.tmps[19]?).getD undef = .tuple #[g, .int .i64 er] := by rw [← Array.getD_eq_getD_getElem?]; exact e1
      clear ho hx hJ hK hdep e1 h27 h19
      go_simp
      exact hK1
    · have h8 : β 8 = true := edge_came rfl hdep 8 (by kernel_rfl)
      obtain ⟨g, er, h27, -, h19, -⟩ := hJ.p7 (hJ.o8 h8)
      have h19 := h19 h8
      have e1 : b.eval (.tmp 19) = .tuple #[g, .int .i64 er] := (hx 19 (by decide) (by simp [Act.put])).trans h19
      have hK1 := hK (.int .i64 er) u (fun _ => held _ _ _ (hJ.put10 h8 h19)) (hJ.put10 h8 h19)
      refine wpOp_of rfl ?_
      have e1' : (b.tmps[19]?).getD undef = .tuple #[g, .int .i64 er] := by rw [← Array.getD_eq_getD_getElem?]; exact e1
      clear ho hx hJ hK hdep e1 h27 h19
      go_simp
      exact hK1
    · have hK1 := hK (.pointer (some ⟨u.heap.size, 0, none⟩)) _ (fun _ => held _ _ _ (hJ.put11 hb)) (hJ.put11 hb)
      refine wpOp_of rfl ?_
      clear ho hx hJ hK hdep
      unfold zeroCs at hK1
      go_simp
      exact hK1
    · have h11 : β 11 = true := edge_came rfl hdep 11 (by kernel_rfl)
      have h9 : β 9 = true := edge_came rfl hdep 9 (by kernel_rfl)
      have h7 := hJ.o8 (hJ.o9 h9)
      obtain ⟨g, er, h27, hok, -, h28, -⟩ := hJ.p7 h7
      obtain ⟨x, A, na', ca', B, nb', cb', C, nc', cc', rfl, -⟩ := hok
      obtain ⟨r, hr5, hr1, hr2, hr3⟩ := hJ.p11 h11
      have hbk := hr3 hb
      unfold zeroCs at hbk
      have e1 : b.eval (.tmp 5) = .pointer (some ⟨r, 0, none⟩) := (hx 5 (by decide) (by simp [Act.put])).trans hr5
      have e2 : b.eval (.tmp 28) = .agg #[.int .i64 x, .slice A na' ca', .slice B nb' cb', .slice C nc' cc'] := (hx 28 (by decide) (by simp [Act.put])).trans (h28 h9)
      have y0 := cell_of_row u r 0 _ _ _ hbk
      have y1 := cell_of_row u r 1 _ _ _ hbk
      have y2 := cell_of_row u r 2 _ _ _ hbk
      have y3 := cell_of_row u r 3 _ _ _ hbk
      have x0 := frozen_block hbk 0
      have x1 := frozen_block hbk 1
      have x2 := frozen_block hbk 2
      have x3 := frozen_block hbk 3
      have hJ' := hJ.put12 hb h11 h9 hr5 h27
      have hK1 := hK undef _ (fun _ => held _ _ _ hJ') hJ'
      refine wpOp_of rfl ?_
      have e1' : (b.tmps[5]?).getD undef = .pointer (some ⟨r, 0, none⟩) := by rw [← Array.getD_eq_getD_getElem?]; exact e1
      have e2' : (b.tmps[28]?).getD undef = .agg #[.int .i64 x, .slice A na' ca', .slice B nb' cb', .slice C nc' cc'] := by rw [← Array.getD_eq_getD_getElem?]; exact e2
      clear ho hx hJ hK hdep e1 e2 h27 h28 hr5 hbk hJ' hr3
      go_simp
      exact hK1
    · have h12 : β 12 = true := edge_came rfl hdep 12 (by kernel_rfl)
      have h10 : β 10 = true := edge_came rfl hdep 10 (by kernel_rfl)
      obtain ⟨g, er, -, -, -, -, h29, -⟩ := hJ.p7 (hJ.o8 (hJ.o10 h10))
      have h29 := h29 h10
      have e1 : b.eval (.tmp 29) = .int .i64 er := (hx 29 (by decide) (by simp [Act.put])).trans h29
      have hK1 := hK (.int .i64 er) u (fun h => absurd h (by omega)) (hJ.put13 h12 h10 h29)
      refine wpOp_of rfl ?_
      have e1' : (b.tmps[29]?).getD undef = .int .i64 er := by rw [← Array.getD_eq_getD_getElem?]; exact e1
      clear ho hx hJ hK hdep e1 h29
      go_simp
      exact hK1
  · intro β X u hJ hall
    obtain ⟨g, er, h27, hok, h19, h28, h29, h6, h12⟩ := hJ.p7 (hall 7 (by decide))
    obtain ⟨x, A, na', ca', B, nb', cb', C, nc', cc', rfl, halt⟩ := hok
    obtain ⟨r, hr5, hr1, hr2, -⟩ := hJ.p11 (hall 11 (by decide))
    have hbk : u.heap[r]? = some (.cells #[.int .i64 x, .slice A na' ca', .slice B nb' cb', .slice C nc' cc'] 45 (0, 0)) := h12 (hall 12 (by decide)) r hr5
    have x6 := h6 (hall 13 (by decide))
    obtain ⟨y0, y1, y2, y3, y4, y5, y6, y7⟩ := held _ _ _ hJ
    have HJK := Lib.hid hJ.k
    have HBU := Lib.hid (HB1.out.trans (hJ.k.mono HB1.out.size))
    have HBK := Lib.hid hbk
    have HKu1 := Lib.hid ((hJ.k.block _ (Array.getElem?_eq_some_iff.1 HK1.out).1).trans HK1.out)
    have HKu2 := Lib.hid ((hJ.k.block _ (Array.getElem?_eq_some_iff.1 HK2.out).1).trans HK2.out)
    clear hJ hall held h27 h19 h28 h29 h6 h12 c0 c1 c2 c3 d0 d1 d2 d3
    have z0 := cell_of_row u r 0 _ _ _ hbk
    have z1 := cell_of_row u r 1 _ _ _ hbk
    have z2 := cell_of_row u r 2 _ _ _ hbk
    have z3 := cell_of_row u r 3 _ _ _ hbk
    clear hbk
    refine NoPanic.normal ?_
    simp only [putsL]
    rw [x6, hr5]
    clear x6 hr5
    generalize X 22 = x22
    generalize X 25 = x25
    generalize X 26 = x26
    generalize X 27 = x27
    generalize X 19 = x19
    generalize X 28 = x28
    generalize X 29 = x29
    generalize FrJ w1 (β 11) (X 5) = FF at halt
    simp only [List.getElem?_toArray, List.getElem?_cons_succ, List.getElem?_cons_zero, Option.getD_some, Act.put, List.setIfInBounds_toArray, List.set_cons_succ, List.set_cons_zero]
    rcases halt with ⟨rfl, rfl, hV⟩ | ⟨her, hq⟩
    · have hsm := same_any u FF F' (ep + 1) (ep + 1) L' L' _ _ _ _ _ _ hV (H'.out.fresh HBU.out) (by rw [HLM.out]; exact hM) (by rw [HLM.out]; omega) (by rw [HLM.out]; exact hM) (by rw [HLM.out]; omega)
      have HSM := Lib.hid hsm
      clear hV hsm
      go_wp2_with fail
      refine HSM.out.mono ?_
      rintro e w5 ⟨B5, rfl, hB, hBw⟩
      obtain rfl : B5 = true := by simpa using hB
      have HB5 := Lib.hid (HBU.out.trans (hBw.mono HBU.out.size))
      clear hB hBw
      go_wp2_with fail
      go_ret
      exact ⟨rfl, HB5.out⟩
    · obtain ⟨tgt, htg, hn1, hep, hcut⟩ := HQ.out hq
      have HTG := Lib.hid htg
      have HCUT := Lib.hid hcut
      have HEPN := Lib.hid hep
      have HN1 : Hid (n ≠ 1) := Lib.hid (by rw [← HLN.out]; exact hn1)
      have dq : (er == 0) = false := by rw [beq_eq_false_iff_ne]; exact her
      have hn6 : n ≤ 6 := hL6
      clear htg hn1 hep hcut hq her z0 z1 z2 z3
      go_wp2_with fail
      go_loopw [40] (fun i wr => ∃ k : Nat, k ≤ n ∧ i = .int .i64 k ∧ Hid (tgt ∉ (L.map Nd.node).take k) ∧ Below u.heap.size u wr) (fun i _ => n - (intOf i).toNat)
      case atStart => exact ⟨0, Nat.zero_le _, rfl, Lib.hid (by simp), Below.refl _ _⟩
      case round =>
        obtain ⟨k, hk, rfl, hno, hBr⟩ := hrel
        have HBr := Lib.hid (HBU.out.trans (hBr.mono HBU.out.size))
        have HBR := Lib.hid hBr
        have HNO := Lib.hid hno.out
        clear hBr hno
        by_cases hlt : k < n
        · have e0 : decide ((k : Int) < (n : Int)) = true := decide_eq_true (by omega)
          have e0' : decide (k < n) = true := decide_eq_true hlt
          have hkl : k < L.length := by rw [HLN.out]; exact hlt
          have hkm : k < (L.map Nd.node).length := by rw [List.length_map]; exact hkl
          obtain ⟨b9, p9, hqe, _, _, hxx⟩ := (H.out.fresh HBr.out).ch.cell_ hkm
          cases hqe
          have x0 := hxx 0 _ rfl
          rw [Nat.mul_one, Nat.add_zero] at x0
          have htk := List.take_succ_eq_append_getElem hkm
          have hmem := List.getElem_mem hkm
          obtain ⟨y, hy⟩ : ∃ y, (L.map Nd.node)[k] = y := ⟨_, rfl⟩
          rw [hy] at x0 htk hmem
          have v0 := cell_of_row wr q 0 _ _ _ ((HBR.out.block _ (Array.getElem?_eq_some_iff.1 HKu1.out).1).trans HKu1.out)
          have v1 := cell_of_row wr q 1 _ _ _ ((HBR.out.block _ (Array.getElem?_eq_some_iff.1 HKu1.out).1).trans HKu1.out)
          have v2 := cell_of_row wr q 2 _ _ _ ((HBR.out.block _ (Array.getElem?_eq_some_iff.1 HKu1.out).1).trans HKu1.out)
          have v3 := cell_of_row wr q 3 _ _ _ ((HBR.out.block _ (Array.getElem?_eq_some_iff.1 HKu1.out).1).trans HKu1.out)
          have hwo := without_any wr F ep L _ _ _ (H.out.fresh HBr.out) HR.out y hmem (by rw [HLN.out]; exact HN1.out) HEPN.out
          have hfl := filter_ne_len HR.out.nodup hmem
          have HWO := Lib.hid hwo
          have HTK := Lib.hid htk
          have HFL : Hid (((⟨ep, L⟩ : Vw).cutN y).L.length + 1 = n) := Lib.hid (hfl.trans HLN.out)
          have hk0 : (0 : Int) ≤ (k : Int) := Int.natCast_nonneg _
          have hk1 : (k : Int) < (n : Int) := by omega
          clear hxx htk hmem hy hwo hfl hkl hkm
          go_wp2_with fail
          refine HWO.out.mono ?_
          rintro e w4 ⟨va, vb, vc, rfl, hV4, hB4⟩
          obtain ⟨NC, hNC⟩ : ∃ NC, ((⟨ep, L⟩ : Vw).cutN y).L.length = NC := ⟨_, rfl⟩
          obtain ⟨A4, a4, B4, b4, C4, c4, rfl, rfl, rfl, _⟩ := hV4.shape
          have hfl := HFL.out
          rw [hNC] at hV4 hfl ⊢
          have HNC := Lib.hid hNC
          have HV4 := Lib.hid hV4
          have HB4 := Lib.hid hB4
          clear hV4 hB4 hNC x0
          go_upto_region 10 with (fail)
          have hal : Below w4.heap.size w4 (w4.alloc (.cells #[.int .i64 (ep + 1), .slice A4 NC a4, .slice B4 NC b4, .slice C4 NC c4] 45)) := (Below.refl _ w4).alloc (Nat.le_refl _) _
          have hkb := heap_alloc_new w4 (.cells #[.int .i64 (ep + 1), .slice A4 NC a4, .slice B4 NC b4, .slice C4 NC c4] 45)
          obtain ⟨g4, hg4⟩ : ∃ g4, w4.heap.size = g4 := ⟨_, rfl⟩
          rw [hg4] at hkb ⊢
          generalize w4.alloc (.cells #[.int .i64 (ep + 1), .slice A4 NC a4, .slice B4 NC b4, .slice C4 NC c4] 45) = w5 at hal hkb ⊢
          have HB5 := Lib.hid (HB4.out.trans (hal.mono HB4.out.size))
          have HV5 := Lib.hid (HV4.out.fresh hal)
          have HBW := Lib.hid (HBr.out.trans (HB5.out.mono HBr.out.size))
          have HBU5 := Lib.hid (HBR.out.trans (HB5.out.mono HBR.out.size))
          have t0 := cell_of_row w5 g4 0 _ _ _ hkb
          have t1 := cell_of_row w5 g4 1 _ _ _ hkb
          have t2 := cell_of_row w5 g4 2 _ _ _ hkb
          have t3 := cell_of_row w5 g4 3 _ _ _ hkb
          have hk2 := (HBU5.out.block _ (Array.getElem?_eq_some_iff.1 HKu2.out).1).trans HKu2.out
          have s0 := cell_of_row w5 (q + 1) 0 _ _ _ hk2
          have s1 := cell_of_row w5 (q + 1) 1 _ _ _ hk2
          have s2 := cell_of_row w5 (q + 1) 2 _ _ _ hk2
          have s3 := cell_of_row w5 (q + 1) 3 _ _ _ hk2
          have hsm := same_any w5 _ F' (ep + 1) (ep + 1) _ L' _ _ _ _ _ _ HV5.out (H'.out.fresh HBW.out) (by rw [HNC.out]; have := HN1.out; omega) (by rw [HNC.out]; omega) (by rw [HLM.out]; exact hM) (by rw [HLM.out]; omega)
          have HSM := Lib.hid hsm
          clear hal hkb hg4 hk2 hsm v0 v1 v2 v3
          go_wp2_with fail
          refine HSM.out.mono ?_
          rintro e w6 ⟨B6, rfl, hB, hBw⟩
          have HE := Lib.hid hB
          have HBX := Lib.hid hBw
          clear hB hBw t0 t1 t2 t3 s0 s1 s2 s3
          cases B6
          · have hne : tgt ≠ y := fun e => by
              have := HE.out (by simp) (by rw [HCUT.out, e])
              cases this
            have hw1 : IntKind.i64.wrap ((k : Int) + 1) = (k : Int) + 1 := IntWalk.i64_in _ (by omega)
            have HNE := Lib.hid hne
            clear hne
            go_wp2_with fail
            go_roundw
            case rel =>
              refine ⟨k + 1, hlt, by go_num, Lib.hid ?_, HBU5.out.trans (HBX.out.mono HBU5.out.size)⟩
              rw [HTK.out, List.mem_append, List.mem_singleton]
              exact fun h => h.elim HNO.out HNE.out
            case measure => simp [intOf]; omega
          · go_wp2_with fail
            go_ret
            exact ⟨rfl, HBW.out.trans (HBX.out.mono HBW.out.size)⟩
        · have hkn : k = n := by omega
          subst hkn
          have h1 := HNO.out
          rw [List.take_of_length_le (by rw [List.length_map, HLN.out]; exact Nat.le_refl _)] at h1
          exact absurd HTG.out h1
theorem follows_with (w : World) (F F' : Nat → Prop) (ep : Int) (L : List Nd) (node boot : Int) (a b c a' b' c' : Value) (h : VwSl w F L a b c) (hr : RightV ⟨ep, L⟩) (g1 : 1 ≤ node) (g2 : node ≤ 100) (g3 : 0 ≤ boot) (g4 : boot ≤ 274877906944) (g5 : node ∉ L.map Nd.node) (g6 : L.length ≠ 6) (g7 : ep ≠ 274877906944)
    (h' : VwSl w F' ((⟨ep, L⟩ : Vw).withN node boot).L a' b' c') : Calls Tryz.prog 22 #[.agg #[.int .i64 ep, a, b, c], .agg #[.int .i64 (ep + 1), a', b', c']] w fun e w' => e = .returned (.bool true) ∧ Below w.heap.size w w' :=
  follows_core w F F' ep L L ⟨node, ep + 1, boot⟩ a b c a' b' c' h hr h' (hr.withN g1 g2 g3 g4 g5 g6 g7) False False.elim fun W hB => (with_ok W F ep L a b c (h.fresh hB) hr node boot g1 g2 g3 g4 g5 g6 g7).mono fun e w' ⟨x, y, z, h1, h2, h3⟩ => by
    obtain ⟨A, ca, B, cb, C, cc, rfl, rfl, rfl, _⟩ := h2.shape
    exact ⟨_, 0, h1, ⟨_, _, _, _, _, _, _, _, _, _, rfl, .inl ⟨rfl, rfl, h2⟩⟩, h3⟩
theorem follows_cut (w : World) (F F' : Nat → Prop) (ep : Int) (L : List Nd) (x : Int) (a b c a' b' c' : Value) (h : VwSl w F L a b c) (hr : RightV ⟨ep, L⟩) (hx : x ∈ L.map Nd.node) (h1 : L.length ≠ 1) (hep : ep ≠ 274877906944)
    (h' : VwSl w F' ((⟨ep, L⟩ : Vw).cutN x).L a' b' c') : Calls Tryz.prog 22 #[.agg #[.int .i64 ep, a, b, c], .agg #[.int .i64 (ep + 1), a', b', c']] w fun e w' => e = .returned (.bool true) ∧ Below w.heap.size w w' := by
  have hr' := hr.cutN hx h1 hep
  have hn := hr'.n1
  obtain ⟨L', hL'⟩ : ∃ L', ((⟨ep, L⟩ : Vw).cutN x).L = L' := ⟨_, rfl⟩
  have hne : L' ≠ [] := by rw [← hL']; intro e; rw [e] at hn; simp at hn
  obtain ⟨L0, z, hz⟩ : ∃ L0 z, L' = L0 ++ [z] := ⟨L'.dropLast, L'.getLast hne, (List.dropLast_concat_getLast hne).symm⟩
  have hzl : z ∈ L := by
    have : z ∈ ((⟨ep, L⟩ : Vw).cutN x).L := by rw [hL', hz]; simp
    exact (List.mem_filter.1 this).1
  have hzb := hr.bd z hzl
  rw [hL', hz] at h'
  refine follows_core w F F' ep L L0 z a b c a' b' c' h hr h' (by rw [← hz, ← hL']; exact hr') True (fun _ => ⟨x, hx, h1, hep, by rw [hL', hz]⟩) fun W hB => (with_no W F ep L a b c (h.fresh hB) hr z.node z.boot hzb.1 hzb.2.1 hzb.2.2.2.2.1 hzb.2.2.2.2.2 (.inl (List.mem_map.2 ⟨z, hzl, rfl⟩))).mono fun e w' ⟨er, h1, h2, h3⟩ => ?_
  exact ⟨zeroVw, er, h2, ⟨_, _, _, _, _, _, _, _, _, _, rfl, .inr ⟨h1, trivial⟩⟩, h3⟩
end Go.Proofs.YtoegdpcfhmjnaaaGreatDoor

/- Open on a disk that keeps views. Under the stated premises on sizes. -/
namespace Go.Proofs.YtoegdpcfhmjnaaaGreatDoor
open Go.RowKit Go.Bl
attribute [local go_sem ↓] Go.wp_at_zero Go.wp_at_succ

theorem mvD_whole (room : Int) (vs : List Vw) : Whole (mvD room vs).L := by
  unfold mvD
  split
  · exact fun f hf => by cases hf
  · exact fun f hf => by rw [List.mem_singleton.1 hf]
/-- A crash changes nothing of a disk that keeps views. -/
theorem crash_kept {X : Nat → Prop} {w : World} {p : Nat} {room : Int} {vs : List Vw} (h : Qd X w p (mvD room vs)) (kv : Value) (keep : List Int) (hk : Sl w X 1 intc kv keep) :
    Calls Tryz.prog 19 #[.pointer (some ⟨p, 0, none⟩), kv] w fun e w' => e = .returned (.tuple #[]) ∧ Qd X w' p (mvD room vs) ∧ Kx X w w' := by
  refine (crashQ h kv keep hk).mono ?_
  rintro e w' ⟨he, ks, hN, hQ, hK⟩
  rw [crashN_again (mvD_whole room vs)] at hQ
  exact ⟨he, hQ, hK⟩
/-- Fewer blocks are kept away. -/
theorem Qd.less {X Y : Nat → Prop} {w : World} {p : Nat} {d : Dk} (h : Qd Y w p d) (hX : ∀ k, X k → Y k) (hl : ∀ k, k < 2 → X k) : Qd X w p d := ⟨h.tabs, hl, fun k hk => h.hX k (hX k hk), h.disk.more fun k hk => .inl (hX k hk)⟩
theorem Mst.disk {X : Nat → Prop} {w : World} {m p : Nat} {room fail : Int} {vs : List Vw} {s : Ms} {c : Nat} (h : Mst X w m p room fail vs s c) : Qd X w p (mvD room vs) ∧ VsUp 0 vs ∧ vs ≠ [] ∧ vs.length ≤ 21 ∧ lastV noV vs = s.v := by
  obtain ⟨_, _, _, _, _, _, _, h⟩ := h
  exact ⟨h.disk.less h.xy h.lx, h.ups, h.ne, h.lenv, h.last⟩
set_option maxRecDepth 20000 in
set_option maxHeartbeats 8000000 in
theorem open_kept {X : Nat → Prop} {w : World} {p : Nat} {room : Int} {vs : List Vw} (h : Qd X w p (mvD room vs)) (hu : VsUp 0 vs) (hne : vs ≠ []) (hlen : vs.length ≤ 21) (fv : Value) (fail now : Int) (hf0 : 4 ≤ fail) (hf1 : fail ≤ 1073741824) (hn : 0 ≤ now) :
    Calls Tryz.prog 8 #[.pointer (some ⟨p, 0, none⟩), fv, .int .i64 fail, .int .i64 now] w fun e w' => ∃ m, e = .returned (.tuple #[.pointer (some ⟨m, 0, none⟩), .int .i64 0]) ∧ Mst X w' m p room fail vs ⟨lastV noV vs, fun _ => now, fun _ => 0⟩ 6 ∧ Kx X w w' := by
  have d1 : decide (fail < 4) = false := decide_eq_false (by omega)
  have d2 : decide (1073741824 < fail) = false := decide_eq_false (by omega)
  have d3 : decide (now < 0) = false := decide_eq_false (by omega)
  have hvl : 1 ≤ vs.length := List.length_pos_iff.2 hne
  have d4 : ((vs.length : Int) == 0) = false := by rw [beq_eq_false_iff_ne]; omega
  have hrd := mvD_read room vs
  have hka := kept_any h vs hu (by omega) (hrd.imp fun _ h => h.1)
  have hrv : RightV (lastV noV vs) := lastV_right (a := noV) hu hne
  obtain ⟨v, hv⟩ : ∃ v, lastV noV vs = v := ⟨_, rfl⟩
  have HV := Lib.hid hv
  rw [hv] at hrv hka ⊢
  have HK := Lib.hid hka
  have HQ := Lib.hid h
  have HRV := Lib.hid hrv
  have HU := Lib.hid hu
  have HNE := Lib.hid hne
  obtain ⟨k, hk⟩ : ∃ k, v.L.length = k := ⟨_, rfl⟩
  have hk6 : k ≤ 6 := hk ▸ hrv.n2
  have HKL := Lib.hid hk
  clear h hu hne hrd hka hrv hv hk
  go_enter Tryz.func8, Tryz.ntmps8
  go_wp2_with fail
  refine HK.out.mono ?_
  rintro e w1 ⟨a, b, c, rfl, hV, hB1⟩
  obtain ⟨A, ca, B, cb, C, cc, rfl, rfl, rfl, _⟩ := hV.shape
  rw [HKL.out]
  rw [HKL.out] at hV
  have HV1 := Lib.hid hV
  have HB1 := Lib.hid hB1
  clear hV hB1
  go_upto_region 4 with (fail)
  obtain ⟨q, hq⟩ : ∃ q, w1.heap.size = q := ⟨_, rfl⟩
  have hal : Below w1.heap.size w1 (w1.alloc (.cells #[.int .i64 v.ep, .slice A k ca, .slice B k cb, .slice C k cc] 45)) := (Below.refl _ w1).alloc (Nat.le_refl _) _
  have hk2 := heap_alloc_new w1 (.cells #[.int .i64 v.ep, .slice A k ca, .slice B k cb, .slice C k cc] 45)
  rw [hq] at hk2 ⊢
  generalize w1.alloc (.cells #[.int .i64 v.ep, .slice A k ca, .slice B k cb, .slice C k cc] 45) = w7 at hal hk2 ⊢
  have HB6 := Lib.hid (HB1.out.trans (hal.mono HB1.out.size))
  have HV6 := Lib.hid ((HV1.out.fresh hal).mono (F' := fun b => w.heap.size ≤ b ∧ b < w7.heap.size) fun b hb2 h1 => ⟨h1, hb2⟩)
  have HQ7 := Lib.hid (HQ.out.fresh HB6.out)
  have q0 : w7.cell? ⟨q, 0, none⟩ = some (.int .i64 v.ep) := cell_of_row w7 q 0 _ _ _ hk2
  have q1 : w7.cell? ⟨q, 1, none⟩ = some (.slice A k ca) := cell_of_row w7 q 1 _ _ _ hk2
  have q2 : w7.cell? ⟨q, 2, none⟩ = some (.slice B k cb) := cell_of_row w7 q 2 _ _ _ hk2
  have q3 : w7.cell? ⟨q, 3, none⟩ = some (.slice C k cc) := cell_of_row w7 q 3 _ _ _ hk2
  have hmm := @run_makeMap Tryz.prog
  clear hal hk2 hq
  go_upto_region 19 with (fail)
  clear hmm
  obtain ⟨bh, hbh⟩ : ∃ bh, w7.heap.size = bh := ⟨_, rfl⟩
  obtain ⟨W, hW⟩ : ∃ W, ((w7.alloc (.map #[] 0)).alloc (.map #[] 0)).alloc (.cells #[.pointer (some ⟨p, 0, none⟩), .int .i64 v.ep, .slice A k ca, .slice B k cb, .slice C k cc, .int .i64 fail, .map (some w7.heap.size), .map (some (w7.heap.size + 1))] 89) = W := ⟨_, rfl⟩
  rw [hW, hbh]
  have hBW : Below w7.heap.size w7 W := hW ▸ ((((Below.refl _ w7).alloc (Nat.le_refl _) _).alloc (by simp) _).alloc (by rw [World.size_alloc, World.size_alloc]; omega) _)
  have hsW : W.heap.size = bh + 3 := by rw [← hW, World.size_alloc, World.size_alloc, World.size_alloc, hbh]
  have hWm : W.heap[bh + 2]? = some (.cells #[.pointer (some ⟨p, 0, none⟩), .int .i64 v.ep, .slice A k ca, .slice B k cb, .slice C k cc, .int .i64 fail, .map (some bh), .map (some (bh + 1))] 89 (0, 0)) := by
    have := heap_alloc_new ((w7.alloc (.map #[] 0)).alloc (.map #[] 0)) (.cells #[.pointer (some ⟨p, 0, none⟩), .int .i64 v.ep, .slice A k ca, .slice B k cb, .slice C k cc, .int .i64 fail, .map (some w7.heap.size), .map (some (w7.heap.size + 1))] 89)
    rw [hW, World.size_alloc, World.size_alloc, hbh] at this
    exact this
  have hM1 : MapI W bh (fun _ => none) 0 := by
    refine ⟨0, Nat.le_refl _, ?_⟩
    have := (MapV.made w7 Tryz.prog 3 intLit).keep (G := fun _ => False) (((Keeps.refl _ _).alloc (.map #[] 0)).alloc (.cells #[.pointer (some ⟨p, 0, none⟩), .int .i64 v.ep, .slice A k ca, .slice B k cb, .slice C k cc, .int .i64 fail, .map (some w7.heap.size), .map (some (w7.heap.size + 1))] 89)) id
    rw [hW, hbh] at this
    exact this
  have hM2 : MapI W (bh + 1) (fun _ => none) 0 := by
    refine ⟨0, Nat.le_refl _, ?_⟩
    have := (MapV.made (w7.alloc (.map #[] 0)) Tryz.prog 3 intLit).keep (G := fun _ => False) ((Keeps.refl _ _).alloc (.cells #[.pointer (some ⟨p, 0, none⟩), .int .i64 v.ep, .slice A k ca, .slice B k cb, .slice C k cc, .int .i64 fail, .map (some w7.heap.size), .map (some (w7.heap.size + 1))] 89)) id
    rw [hW, World.size_alloc, hbh] at this
    exact this
  have hs60 : w.heap.size ≤ bh := hbh ▸ HB6.out.size
  have hXl : ∀ b, X b → b < w.heap.size := fun b hb => HQ.out.hX b hb
  have hMR : MstR X W (bh + 2) p room fail vs v 0 (fun b => X b ∨ (w.heap.size ≤ b ∧ b < W.heap.size)) (fun b => w.heap.size ≤ b ∧ b < bh) bh (bh + 1) (.slice A k ca) (.slice B k cb) (.slice C k cc) (ghF v.nodes now 0) (fun _ => none) :=
    { disk := HQ.out.more (HB6.out.trans (hBW.mono HB6.out.size)) (fun b hb => hb.imp id And.left) (fun b hb => hb.elim (fun h => Nat.lt_of_lt_of_le (hXl b h) (by omega)) And.right) (fun b hb => .inl (HQ.out.low b hb))
      lx := HQ.out.low
      xy := fun b hb => .inl hb
      ym := ⟨.inr (by omega), .inr (by omega), .inr (by omega)⟩
      yf := fun b hb => .inr ⟨hb.1, by have := hb.2; omega⟩
      xm := ⟨fun h => by have := hXl _ h; omega, fun h => by have := hXl _ h; omega, fun h => by have := hXl _ h; omega⟩
      fm := ⟨fun h => by omega, fun h => by omega, fun h => by omega⟩
      hne := by omega
      blk := hWm
      sl := (hbh ▸ HV6.out).fresh hBW
      heard := hM1.congr fun x => by simp [ghF]
      ready := hM2
      ups := HU.out
      ne := HNE.out
      lenv := hlen
      last := HV.out
      xf := fun b hb hf => by have := hXl b hb; have := hf.1; omega
      right := HRV.out }
  have HKX : Hid (Kx X w W) := Lib.hid ((Kx.of_below HB6.out).trans (Kx.of_below hBW))
  have HXb : Hid (¬ X bh) := Lib.hid fun h => by have := hXl _ h; omega
  have HMR := Lib.hid hMR
  have q1 : W.cell? ⟨q, 1, none⟩ = some (.slice A k ca) := (hBW.cell (p := ⟨q, 1, none⟩) (World.block_lt_of_cell? _ _ q1)).trans q1
  clear hW hbh hBW hsW hWm hM1 hM2 hs60 hXl hMR q0 q2 q3
  go_wp2_with fail
  go_loopw [81] (fun i wx => ∃ j : Nat, j ≤ k ∧ i = .int .i64 j ∧ MstR X wx (bh + 2) p room fail vs v j (fun b => X b ∨ (w.heap.size ≤ b ∧ b < W.heap.size)) (fun b => w.heap.size ≤ b ∧ b < bh) bh (bh + 1) (.slice A k ca) (.slice B k cb) (.slice C k cc) (ghF v.nodes now j) (fun _ => none) ∧ Keeps (fun b => b = bh) W wx) (fun i _ => k - (intOf i).toNat)
  case atStart => exact ⟨0, Nat.zero_le _, rfl, HMR.out, Keeps.refl _ _⟩
  case round =>
    obtain ⟨j, hj, rfl, hM, hKj⟩ := hrel
    have HM := Lib.hid hM
    have HKJ := Lib.hid hKj
    clear hM hKj
    have HNL := Lib.hid (show v.nodes.length = k from (List.length_map _).trans HKL.out)
    by_cases hlt2 : j < k
    · have d5 : decide ((j : Int) < (k : Int)) = true := decide_eq_true (by omega)
      have hjf : j < v.nodes.length := by rw [HNL.out]; exact hlt2
      have hch := HM.out.sl.ch
      obtain ⟨b, o, rfl, _, _, hxx⟩ := hch.cell_ (i := j) hjf
      have x0 := hxx 0 _ rfl
      rw [Nat.mul_one, Nat.add_zero] at x0
      obtain ⟨x, hx⟩ : ∃ x, (List.map Nd.node v.L)[j]'hjf = x := ⟨_, rfl⟩
      rw [hx] at x0
      have hx : v.nodes[j] = x := hx
      have hxb : 1 ≤ x ∧ x ≤ 100 := by
        obtain ⟨y, hy, hyx⟩ := List.mem_map.1 (show x ∈ v.L.map Nd.node from hx ▸ List.getElem_mem hjf)
        have hb := HRV.out.bd y hy
        rw [hyx] at hb
        exact ⟨hb.1, hb.2.1⟩
      have HXE := Lib.hid (show ∀ y, (if y = x then some (Value.int .i64 now) else ghF v.nodes now j y) = ghF v.nodes now (j + 1) y from fun y => by
        unfold ghF
        have ht := List.take_succ_eq_append_getElem hjf
        rw [hx] at ht
        rw [ht]
        by_cases e : y = x
        · rw [if_pos e, if_pos (by simp [e])]
        · rw [if_neg e]
          by_cases e2 : y ∈ v.nodes.take j
          · rw [if_pos e2, if_pos (by simp [e2])]
          · rw [if_neg e2, if_neg (by simp [e2, e])])
      obtain ⟨-, -, -, -, -, -, y6, -⟩ := HM.out.cells
      obtain ⟨wy, hry, hMy, hky, hsy⟩ := HM.out.put_heard (by omega) (x := x) (by unfold i64; omega) (.int .i64 now)
      have HMy := Lib.hid hMy
      have HKy := Lib.hid (HKJ.out.trans hky)
      have hjl : j < k := hlt2
      clear hch hxx hx hMy hky hsy
      go_wp2_with fail
      go_roundw
      case rel => exact ⟨j + 1, hlt2, by go_num, { HMy.out with heard := HMy.out.heard.congr HXE.out }, HKy.out⟩
      case measure => simp [intOf]; omega
    · have hjk : j = k := by omega
      subst hjk
      have d5 : decide ((j : Int) < (j : Int)) = false := by simp
      go_wp2_with fail
      refine bodyPost_ret (v := .tuple #[.pointer (some ⟨bh + 2, 0, none⟩), .int .i64 0]) (by simp [results, Tryz.results8, go_sem]) rfl ⟨bh + 2, rfl, ⟨_, _, _, _, _, _, _, MstIn.more (HM.out.mst (s := ⟨v, fun _ => now, fun _ => 0⟩) (fun x => ?_) (fun x => ?_) (fun _ => Int.le_refl _)) hk6⟩, HKX.out.trans (HKJ.out.mono fun b _ e h => HXb.out (by have e2 : b = bh := e; exact e2 ▸ h))⟩
      · show ghF v.nodes now j x = if x ∈ v.nodes then some (Value.int .i64 now) else none
        unfold ghF
        rw [List.take_of_length_le (by rw [HNL.out]; exact Nat.le_refl _)]
      · unfold rdF
        rw [if_pos rfl]
end Go.Proofs.YtoegdpcfhmjnaaaGreatDoor

/- A copy of a disk that keeps views, behind a crash, opened. Under the stated premises on sizes. -/
namespace Go.Proofs.YtoegdpcfhmjnaaaGreatDoor
open Go.RowKit Go.Bl

theorem clone_kept {X : Nat → Prop} {w : World} {p : Nat} {room : Int} {vs : List Vw} (h : Qd X w p (mvD room vs)) :
    Calls Tryz.prog 23 #[.pointer (some ⟨p, 0, none⟩)] w fun e w' => ∃ p', e = .returned (.pointer (some ⟨p', 0, none⟩)) ∧ Qd (fun k => k < w.heap.size) w' p' (mvD room vs) ∧ Below w.heap.size w w' := by
  obtain ⟨F, hD, _⟩ := h.disk
  refine (clone_any w p _ F hD).mono ?_
  rintro e w' ⟨rfl, hB, L', hp, hD'⟩
  have hL : (⟨(mvD room vs).room, L'⟩ : Dk) = mvD room vs := by
    unfold mvD at hp ⊢
    by_cases hv : vs = []
    · rw [if_pos hv] at hp ⊢
      rw [List.perm_nil.1 hp]
    · rw [if_neg hv] at hp ⊢
      rw [List.perm_singleton.1 hp]
  rw [hL] at hD'
  exact ⟨_, rfl, ⟨h.tabs.fresh hB, fun k hk => h.hX k (h.low k hk), fun k hk => Nat.lt_of_lt_of_le hk hB.size, _, hD', fun k h1 h2 => by omega⟩, hB⟩
end Go.Proofs.YtoegdpcfhmjnaaaGreatDoor

namespace Go.Proofs.YtoegdpcfhmjnaaaGreatDoor
open Go.RowKit Go.Bl
attribute [local go_sem ↓] Go.wp_at_zero Go.wp_at_succ

theorem fldC (ep : Int) (A B C : Option Addr) (n a b c : Nat) (w : World) : (Instr.field 45 (.agg #[.int .i64 ep, .slice A n a, .slice B n b, .slice C n c]) 1).run Tryz.prog w = .ok (.slice A n a) w := by kernel_rfl
theorem tickF_ep2 (fail now : Int) : ∀ (f : Nat) (s : Ms), (s.tickF fail now f).v.ep ≤ s.v.ep + f
  | 0, s => by show s.v.ep ≤ _; omega
  | f + 1, s => by
    unfold Ms.tickF
    cases hf : s.v.nodes.find? (s.silent fail now) with
    | none => show s.v.ep ≤ _; omega
    | some k =>
      show (if s.v.ep = 274877906944 then s else (s.out k).tickF fail now f).v.ep ≤ _
      split
      · omega
      · have := tickF_ep2 fail now f (s.out k)
        have e : (s.out k).v.ep = s.v.ep + 1 := rfl
        omega
/-- How a view may turn. -/
def Turn (v v' : Vw) : Prop := v' = v ∨ (∃ node boot : Int, 1 ≤ node ∧ node ≤ 100 ∧ 0 ≤ boot ∧ boot ≤ 274877906944 ∧ node ∉ v.nodes ∧ v.L.length ≠ 6 ∧ v.ep ≠ 274877906944 ∧ v' = v.withN node boot) ∨ (∃ k, k ∈ v.nodes ∧ v.L.length ≠ 1 ∧ v.ep ≠ 274877906944 ∧ v' = v.cutN k) ∨ v.ep + 2 ≤ v'.ep
theorem Turn.ge {v v' : Vw} (h : Turn v v') : v.ep ≤ v'.ep := by
  rcases h with rfl | ⟨_, _, _, _, _, _, _, _, _, rfl⟩ | ⟨_, _, _, _, rfl⟩ | h
  · exact Int.le_refl _
  · show v.ep ≤ v.ep + 1; omega
  · show v.ep ≤ v.ep + 1; omega
  · omega
/-- The master amid the law. -/
structure FoIn (X : Nat → Prop) (w : World) (g p m : Nat) (fail now : Int) (s : Ms) (vs : List Vw) (c i : Nat) (wr : World) : Prop where
  mst : Mst X wr m p 100000 fail vs s c
  heard : Heard s now
  below : Below w.heap.size w wr
  pair : wr.cell? ⟨g, 0, none⟩ = some (.pointer (some ⟨p, 0, none⟩))
  n0 : 0 ≤ now
  n1 : now ≤ i * 4294967296
  c1 : c ≤ 6 + 2 * i
  e1 : s.v.ep ≤ 1 + 6 * i
def FoR (X : Nat → Prop) (w : World) (g p m : Nat) (fail : Int) (n : Nat) (nw iv : Value) (wr : World) : Prop :=
  ∃ (i : Nat) (now : Int) (s : Ms) (vs : List Vw) (c : Nat), nw = .int .i64 now ∧ iv = .int .i64 i ∧ i ≤ n ∧ FoIn X w g p m fail now s vs c i wr
def FoC (X : Nat → Prop) (w w6 : World) (g p m : Nat) (fail : Int) (i : Nat) (v : Vw) (nw : Value) (wx : World) : Prop :=
  ∃ (now : Int) (s : Ms) (vs : List Vw) (c : Nat), nw = .int .i64 now ∧ FoIn X w g p m fail now s vs c (i + 1) wx ∧ Turn v s.v ∧ Kx X w6 wx
set_option maxRecDepth 20000 in
set_option maxHeartbeats 8000000 in
theorem follows_law {F : Nat → Prop} (w : World) (hT : Tabs w) (fv : Value) (first : List Int) (hf : Sl w F 1 intc fv first) (fail : Int) (av : Value) (acts : List Ac) (ha : Acts w (fun k => k < w.heap.size) av acts) :
    Calls Tryz.prog 5 #[fv, .int .i64 fail, av] w fun e w' => e = .returned (.bool true) ∧ Below w.heap.size w w' := by
  obtain ⟨fA, fc, rfl, hfa, hfb⟩ := hf.shape_ (n := first.length) rfl
  obtain ⟨aA, ac, rfl, haa, hab⟩ := ha.1.shape_ (n := acts.length) rfl
  obtain ⟨n, hn⟩ : ∃ n, first.length = n := ⟨_, rfl⟩
  obtain ⟨na, hna⟩ : ∃ na, acts.length = na := ⟨_, rfl⟩
  rw [hn] at hf hfa ⊢
  rw [hna] at ha haa ⊢
  have HN := Lib.hid hn
  have HNA := Lib.hid hna
  have HF := Lib.hid hf
  have HA := Lib.hid ha
  have HSH := Lib.hid (shown_any hT)
  have HT := Lib.hid hT
  have hfe := fldC
  clear hf hT hn hna ha
  go_enter Tryz.func5, Tryz.ntmps5
  go_wp2_with fail
  refine HSH.out.mono ?_
  rintro e w1 ⟨rfl, hB1⟩
  have hbg := begunQ (HT.out.fresh hB1) 100000 (by omega) (by omega)
  have HBG := Lib.hid hbg
  have HB1 := Lib.hid hB1
  have HSM := Lib.hid (small_any w1 _ _ _ (HA.out.fresh hB1))
  obtain ⟨sm, hsm⟩ : ∃ sm, smallB acts = sm := ⟨_, rfl⟩
  rw [hsm] at HSM
  have HSB := Lib.hid hsm
  clear hbg hB1 hsm
  go_wp2_with fail
  refine HSM.out.mono ?_
  rintro e w1' ⟨rfl, rfl⟩
  go_wp2_with fail
  refine HBG.out.mono ?_
  rintro e w2 ⟨p, pm, rfl, hQ2, hB2⟩
  obtain ⟨X, hX⟩ : ∃ X : Nat → Prop, (fun k => k < w1.heap.size) = X := ⟨_, rfl⟩
  have HX : Hid ((∀ k, k < w.heap.size → X k) ∧ (∀ k, X k → k < w1.heap.size) ∧ w1.heap.size ≤ w2.heap.size) := Lib.hid ⟨fun k hk => by rw [← hX]; exact Nat.lt_of_lt_of_le hk HB1.out.size, fun k hk => by rw [← hX] at hk; exact hk, hB2.size⟩
  rw [hX] at hQ2
  have HQ2 := Lib.hid hQ2
  have HB2 := Lib.hid (HB1.out.trans (hB2.mono HB1.out.size))
  clear hQ2 hB2 hX
  cases sm
  · go_wp2_with fail
    go_ret
    exact ⟨rfl, HB2.out.alloc HB2.out.size _⟩
  by_cases hl : 20 < n
  · have d1 : decide ((20 : Int) < (n : Int)) = true := decide_eq_true (by omega)
    go_wp2_with fail
    go_ret
    exact ⟨rfl, HB2.out.alloc HB2.out.size _⟩
  have d1 : decide ((20 : Int) < (n : Int)) = false := decide_eq_false (by omega)
  go_upto_region 6 with (fail)
  have hk3 := heap_alloc_new w2 (.cells #[.pointer (some ⟨p, 0, none⟩), .pointer (some ⟨pm, 0, none⟩)] 27)
  have hb3 : Below w2.heap.size w2 (w2.alloc (.cells #[.pointer (some ⟨p, 0, none⟩), .pointer (some ⟨pm, 0, none⟩)] 27)) := (Below.refl _ w2).alloc (Nat.le_refl _) _
  obtain ⟨g, hg⟩ : ∃ g, w2.heap.size = g := ⟨_, rfl⟩
  rw [hg] at hk3 ⊢
  have HSZ3 : Hid ((w2.alloc (.cells #[.pointer (some ⟨p, 0, none⟩), .pointer (some ⟨pm, 0, none⟩)] 27)).heap.size = g + 1 ∧ w1.heap.size ≤ g) := Lib.hid ⟨by rw [World.size_alloc, hg], hg ▸ HX.out.2.2⟩
  generalize w2.alloc (.cells #[.pointer (some ⟨p, 0, none⟩), .pointer (some ⟨pm, 0, none⟩)] 27) = w3 at hk3 hb3 HSZ3 ⊢
  have HK3 := Lib.hid hk3
  have k0 : w3.cell? ⟨g, 0, none⟩ = some (.pointer (some ⟨p, 0, none⟩)) := cell_of_row w3 g 0 _ _ _ hk3
  have HB3 := Lib.hid (HB2.out.trans (hb3.mono HB2.out.size))
  -- the pair's block is kept too
  obtain ⟨X', hX'⟩ : ∃ X' : Nat → Prop, (fun k => X k ∨ k = g) = X' := ⟨_, rfl⟩
  have HX' : Hid ((∀ k, k < w.heap.size → X' k) ∧ (∀ k, X' k → k ≤ g) ∧ X' g ∧ (∀ k, k < 2 → X' k)) := Lib.hid ⟨fun k hk => hX' ▸ .inl (HX.out.1 k hk), fun k hk => by rw [← hX'] at hk; rcases hk with h | h; have := HX.out.2.1 k h; have := HSZ3.out.2; omega; omega, hX' ▸ .inr rfl, fun k hk => hX' ▸ .inl (HQ2.out.low k hk)⟩
  have hQ3 : Qd X' w3 p ⟨100000, []⟩ := hX' ▸ HQ2.out.more hb3 (fun k hk => hk.imp id fun e => by omega) (fun k hk => hk.elim (fun h => by have := HX.out.2.1 k h; have := HSZ3.out; omega) (fun e => by have := HSZ3.out.1; omega)) (fun k hk => .inl (HQ2.out.low k hk))
  have hon := open_new hQ3 (.slice fA n fc) first (HF.out.fresh HB3.out) (by rw [HN.out]; omega) fail 0 (by omega) (by omega)
  have HON := Lib.hid hon
  clear hk3 hb3 hg hon hX' hQ3
  go_wp2_with fail
  refine HON.out.mono ?_
  rintro e w4 hO
  by_cases hc : 4 ≤ fail ∧ fail ≤ 1073741824 ∧ RightV (v0 first)
  · obtain ⟨m0, rfl, hM, hK⟩ := hO.1 hc
    obtain ⟨hf4, hf5, hrv⟩ := hc
    have HM := Lib.hid hM
    have HB4 := Lib.hid (HB3.out.trans (Kx.below hK HX'.out.1 HB3.out.size))
    have HK4 := Lib.hid ((hK.block g (by have := HSZ3.out.1; omega) (fun h => h HX'.out.2.2.1)).trans HK3.out)
    have HG4 := Lib.hid (show g < w4.heap.size from (Array.getElem?_eq_some_iff.1 HK4.out).1)
    have hsm := HSB.out
    simp only [smallB, Bool.and_eq_true, decide_eq_true_eq] at hsm
    have h80 : na ≤ 80 := HNA.out ▸ hsm.1
    have HR0 : Hid (FoR X' w g p m0 fail na (.int .i64 0) (.int .i64 0) w4) := Lib.hid ⟨0, 0, _, _, _, rfl, rfl, Nat.zero_le _, ⟨HM.out, fun k _ => ⟨Int.le_refl _, Int.le_refl _⟩, HB4.out, cell_of_row w4 g 0 _ _ _ HK4.out, by omega, by omega, by omega, by show (1 : Int) ≤ _; omega⟩⟩
    clear hO hM hK hrv hsm k0
    go_wp2_with fail
    go_loopw [13, 14] (fun nw iv wr => FoR X' w g p m0 fail na nw iv wr) (fun _ iv _ => na - (intOf iv).toNat)
    case atStart => exact HR0.out
    case round =>
      obtain ⟨i, now, s, vs, c, rfl, rfl, hin, hle⟩ := hrel
      have k0 := hle.n0
      have k1 := hle.n1
      have k2 := hle.c1
      have k3 := hle.e1
      have HLE := Lib.hid hle
      clear hle
      by_cases hlt : i < na
      · have e0 : decide ((i : Int) < (na : Int)) = true := decide_eq_true (by omega)
        have hia : i < acts.length := by rw [HNA.out]; exact hlt
        have hAr := HA.out.keep (Keeps.of_below HLE.out.below) (fun k _ h1 h2 => by have h3 : k < w.heap.size := h1; have h4 : w.heap.size ≤ k := h2; omega)
        obtain ⟨ab, ao, rfl, _, hab2, hxx⟩ := hAr.1.cell_ hia
        have hac := hAr.2 acts[i] (List.getElem_mem hia)
        obtain ⟨a, hae⟩ : ∃ a, acts[i] = a := ⟨_, rfl⟩
        rw [hae] at hxx hac
        have x0 := hxx 0 _ rfl
        rw [Nat.add_zero] at x0
        have x1 := hxx 1 _ rfl
        have x2 := hxx 2 _ rfl
        have x3 := hxx 3 _ rfl
        have x4 := hxx 4 _ rfl
        have x5 := hxx 5 _ rfl
        have x6 := hxx 6 _ rfl
        obtain ⟨KA, kc, hkv, _, _⟩ := hac.sl.shape_ (n := a.keep.length) rfl
        rw [hkv] at x6
        have HAC := Lib.hid hac
        have HKV := Lib.hid hkv
        have hi0 : (0 : Int) ≤ (i : Int) := Int.natCast_nonneg _
        have hi1 : (i : Int) < (na : Int) := by omega
        clear hxx hac hAr hae hkv
        go_upto_region 14 with (fail)
        have hal : Below wr.heap.size wr (wr.alloc (.cells #[.int .i64 a.op, .int .i64 a.frm, .int .i64 a.node, .int .i64 a.ep, .int .i64 a.n, .string a.text, .slice KA a.keep.length kc] 57)) := (Below.refl _ wr).alloc (Nat.le_refl _) _
        have hkb := heap_alloc_new wr (.cells #[.int .i64 a.op, .int .i64 a.frm, .int .i64 a.node, .int .i64 a.ep, .int .i64 a.n, .string a.text, .slice KA a.keep.length kc] 57)
        obtain ⟨q, hq⟩ : ∃ q, wr.heap.size = q := ⟨_, rfl⟩
        rw [hq] at hkb ⊢
        generalize wr.alloc (.cells #[.int .i64 a.op, .int .i64 a.frm, .int .i64 a.node, .int .i64 a.ep, .int .i64 a.n, .string a.text, .slice KA a.keep.length kc] 57) = w5 at hal hkb ⊢
        have HKB5 := Lib.hid hkb
        have HAL := Lib.hid hal
        have HVI := Lib.hid (view_any (HLE.out.mst.fresh hal))
        have HQ5 := Lib.hid hq
        clear hal hkb x0 x1 x2 x3 x4 x5 x6 hq
        go_wp2_with fail
        refine HVI.out.mono ?_
        rintro e wv ⟨va, vb, vc, rfl, hV, hBv⟩
        obtain ⟨VN, hVN⟩ : ∃ VN, s.v.L.length = VN := ⟨_, rfl⟩
        obtain ⟨A7, a7, B7, b7, C7, c7, rfl, rfl, rfl, _⟩ := hV.shape
        rw [hVN] at hV ⊢
        have HVN := Lib.hid hVN
        have HVv := Lib.hid hV
        have HBv := Lib.hid (HAL.out.trans (hBv.mono HAL.out.size))
        have HKBv := Lib.hid ((hBv.block _ (Array.getElem?_eq_some_iff.1 HKB5.out).1).trans HKB5.out)
        clear hV hBv hVN
        go_upto_region 15 with (fail)
        have hal : Below wv.heap.size wv (wv.alloc (.cells #[.int .i64 s.v.ep, .slice A7 VN a7, .slice B7 VN b7, .slice C7 VN c7] 45)) := (Below.refl _ wv).alloc (Nat.le_refl _) _
        have hkv := heap_alloc_new wv (.cells #[.int .i64 s.v.ep, .slice A7 VN a7, .slice B7 VN b7, .slice C7 VN c7] 45)
        obtain ⟨bw, hbw⟩ : ∃ bw, wv.heap.size = bw := ⟨_, rfl⟩
        rw [hbw] at hkv ⊢
        generalize wv.alloc (.cells #[.int .i64 s.v.ep, .slice A7 VN a7, .slice B7 VN b7, .slice C7 VN c7] 45) = w6 at hal hkv ⊢
        have HB6 := Lib.hid (HBv.out.trans (hal.mono HBv.out.size))
        have HKB := Lib.hid ((hal.block _ (Array.getElem?_eq_some_iff.1 HKBv.out).1).trans HKBv.out)
        have HKW := Lib.hid hkv
        have HVW := Lib.hid ((HVv.out.fresh hal).mono (F' := fun k => wr.heap.size ≤ k ∧ k < w6.heap.size) fun k h1 h2 => ⟨by have h3 : w5.heap.size ≤ k := h2; have := HAL.out.size; omega, h1⟩)
        have HBW6 := Lib.hid (HLE.out.below.trans (HB6.out.mono HLE.out.below.size))
        -- what was laid is kept too
        obtain ⟨Y, hY⟩ : ∃ Y : Nat → Prop, (fun k => X' k ∨ (wr.heap.size ≤ k ∧ k < w6.heap.size)) = Y := ⟨_, rfl⟩
        have HY : Hid ((∀ k, X' k → Y k) ∧ (∀ k, wr.heap.size ≤ k → k < w6.heap.size → Y k)) := Lib.hid (hY ▸ ⟨fun k hk => .inl hk, fun k h1 h2 => .inr ⟨h1, h2⟩⟩)
        have hM6 : Mst Y w6 m0 p 100000 fail vs s c := hY ▸ HLE.out.mst.beside HB6.out (fun k hk => hk) (fun k hk => .inl (HX'.out.2.2.2 k hk))
        have HF6 : Hid (FoIn Y w g p m0 fail now s vs c i w6) := Lib.hid ⟨hM6, HLE.out.heard, HBW6.out, (HB6.out.cell (p := ⟨g, 0, none⟩) (World.block_lt_of_cell? _ _ HLE.out.pair)).trans HLE.out.pair, k0, k1, k2, k3⟩
        have HQL : Hid (wr.heap.size ≤ q ∧ q < w6.heap.size ∧ wr.heap.size ≤ bw ∧ bw < w6.heap.size) := Lib.hid ⟨by have := HQ5.out; omega, (Array.getElem?_eq_some_iff.1 HKB.out).1, by have := HBv.out.size; omega, (Array.getElem?_eq_some_iff.1 HKW.out).1⟩
        have HAC6 := Lib.hid (HAC.out.keep (Keeps.of_fresh HB6.out fun _ => False) (fun _ _ _ => id))
        have y0 := cell_of_row w6 q 0 _ _ _ HKB.out
        have hpo := pickOf_range a.op (n := 10) (by omega)
        have HPO := Lib.hid (fun W => pickB_any W a.op 10 HAC.out.op (by omega))
        obtain ⟨P, hP⟩ : ∃ P, pickOf a.op 10 = P := ⟨_, rfl⟩
        simp only [hP] at HPO hpo
        have HP := Lib.hid hP
        clear hal hkv hbw hY hM6 hP
        go_wp2_with fail
        refine (HPO.out w6).mono ?_
        rintro e wp ⟨rfl, rfl⟩
        by_cases h7 : 7 ≤ P
        · have hw1 : IntKind.i64.wrap ((i : Int) + 1) = (i : Int) + 1 := IntWalk.i64_in _ (by omega)
          have hback : FoIn X' w g p m0 fail now s vs c (i + 1) w6 := ⟨HLE.out.mst.fresh HB6.out, HLE.out.heard, HBW6.out, HF6.out.pair, k0, by omega, by omega, by omega⟩
          have HBACK := Lib.hid hback
          clear hback
          have hc2 : P = 7 ∨ P = 8 ∨ P = 9 := by omega
          rcases hc2 with rfl | rfl | rfl
          · go_wp2_with fail
            go_roundw
            case rel => exact ⟨i + 1, now, s, vs, c, rfl, by go_num, hlt, HBACK.out⟩
            case measure => simp [intOf]; omega
          · go_wp2_with fail
            go_roundw
            case rel => exact ⟨i + 1, now, s, vs, c, rfl, by go_num, hlt, HBACK.out⟩
            case measure => simp [intOf]; omega
          · go_wp2_with fail
            go_roundw
            case rel => exact ⟨i + 1, now, s, vs, c, rfl, by go_num, hlt, HBACK.out⟩
            case measure => simp [intOf]; omega
        go_upto_block 2 with (fail)
        go_cut [13] (fun nw wx => FoC Y w w6 g p m0 fail i s.v nw wx)
        case first =>
          have hc2 : P = 6 ∨ P < 6 := by omega
          rcases hc2 with rfl | hP6
          · as_aux_lemma =>
              have y4 := cell_of_row w6 q 4 _ _ _ HKB.out
              have hpd := pickOf_range a.n (n := 2 * fail) (by omega)
              have HPD := Lib.hid (fun W => pickB_any W a.n (2 * fail) HAC.out.n (by omega))
              obtain ⟨D, hD⟩ : ∃ D, pickOf a.n (2 * fail) = D := ⟨_, rfl⟩
              simp only [hD] at HPD hpd
              have hw2 : IntKind.i64.wrap (2 * fail) = 2 * fail := IntWalk.i64_in _ (by omega)
              have hw3 : IntKind.i64.wrap (now + D) = now + D := IntWalk.i64_in _ (by omega)
              have hn6 := HF6.out.mst.right.n2
              have HTK := Lib.hid (tick_any HF6.out.mst (now + D) (HF6.out.heard.mono (by omega)) (by omega) (by omega) (.inl (by omega)))
              have HTT := Lib.hid (tick_tk fail (now + D) s.v.L.length s)
              have hTE := tickF_ep2 fail (now + D) s.v.L.length s
              have HTE : Hid ((s.tickF fail (now + D) s.v.L.length).v.ep ≤ 1 + 6 * ((i + 1 : Nat) : Int)) := Lib.hid (by omega)
              obtain ⟨s2, hs2⟩ : ∃ s2, s.tickF fail (now + D) s.v.L.length = s2 := ⟨_, rfl⟩
              rw [hs2] at HTK HTT HTE
              clear hD hs2 hTE
              go_wp2_with fail
              refine (HPD.out w6).mono ?_
              rintro e wp ⟨rfl, rfl⟩
              go_wp2_with fail
              refine HTK.out.mono ?_
              rintro e w7 ⟨v7, os, vs', rfl, hS, hT, hM, hK⟩
              have HE := Lib.hid (And.intro hM hK)
              clear hS hT hM hK
              go_wp2_with fail
              go_meet
              obtain ⟨hM, hK⟩ := HE.out
              refine ⟨now + D, s2, vs', c, rfl, ⟨hM, HTT.out.heard (HF6.out.heard.mono (by omega)), HF6.out.below.trans (Kx.below hK (fun k hk => HY.out.1 k (HX'.out.1 k hk)) HF6.out.below.size), (hK.cell (a := ⟨g, 0, none⟩) (World.block_lt_of_cell? _ _ HF6.out.pair) (fun h => h (HY.out.1 g HX'.out.2.2.1))).trans HF6.out.pair, by omega, by omega, by omega, HTE.out⟩, ?_, hK⟩
              rcases HTT.out.ep with h | h | h
              · exact .inl h
              · exact .inr (.inr (.inl h))
              · exact .inr (.inr (.inr h))
          · as_aux_lemma =>
              have y1 := cell_of_row w6 q 1 _ _ _ HKB.out
              have y2 := cell_of_row w6 q 2 _ _ _ HKB.out
              have y3 := cell_of_row w6 q 3 _ _ _ HKB.out
              have y4 := cell_of_row w6 q 4 _ _ _ HKB.out
              have y5 := cell_of_row w6 q 5 _ _ _ HKB.out
              have y6 := cell_of_row w6 q 6 _ _ _ HKB.out
              have u0 := cell_of_row w6 bw 0 _ _ _ HKW.out
              have e6 : (P == 6) = false := by rw [beq_eq_false_iff_ne]; omega
              have e7 : (P == 7) = false := by rw [beq_eq_false_iff_ne]; omega
              have e8 : (P == 8) = false := by rw [beq_eq_false_iff_ne]; omega
              have e9 : (P == 9) = false := by rw [beq_eq_false_iff_ne]; omega
              have HSD := Lib.hid (said_any w6 _ a HAC6.out s.v.ep ⟨HF6.out.mst.right.ep1, by omega⟩ (by rw [HP.out]; exact hP6))
              unfold acc at HSD
              rw [HKV.out] at HSD
              go_wp2_with fail
              refine HSD.out.mono ?_
              rintro e ws ⟨xm, kk, nn, rfl, hsx, hBs⟩
              have z1 := (hBs.cell (p := ⟨q, 1, none⟩) (World.block_lt_of_cell? _ _ y1)).trans y1
              have HAs := Lib.hid hBs
              have HTK := Lib.hid (take_said (HF6.out.mst.fresh hBs) (by omega) a xm hsx now k0 (by omega) hf4 hf5 (by omega))
              clear hsx hBs y0 y1 y2 y3 y4 y5 y6 u0
              go_wp2_with fail
              refine HTK.out.mono ?_
              rintro e w8 ⟨v8, os, s2, vs2, rfl, hS, hO, hol, hst, hM, hK⟩
              have HE := Lib.hid (And.intro hst (And.intro hM hK))
              clear hS hO hol hst hM hK
              go_wp2_with fail
              go_meet
              obtain ⟨hst, hM, hK⟩ := HE.out
              have hBs := HF6.out.below.trans (HAs.out.mono HF6.out.below.size)
              have g1 := (HAs.out.cell (p := ⟨g, 0, none⟩) (World.block_lt_of_cell? _ _ HF6.out.pair)).trans HF6.out.pair
              refine ⟨now, s2, vs2, c + 2, rfl, ⟨hM, hst.heard HF6.out.heard, hBs.trans (Kx.below hK (fun k hk => HY.out.1 k (HX'.out.1 k hk)) hBs.size), (hK.cell (a := ⟨g, 0, none⟩) (World.block_lt_of_cell? _ _ g1) (fun h => h (HY.out.1 g HX'.out.2.2.1))).trans g1, k0, by omega, by omega, ?_⟩, ?_, (Kx.of_below HAs.out).trans hK⟩
              · have : s2.v.ep ≤ s.v.ep + 1 := by
                  rcases hst.view with e | ⟨_, _, _, _, _, _, _, _, _, e⟩
                  · rw [e]; omega
                  · rw [e]; show s.v.ep + 1 ≤ _; omega
                omega
              · rcases hst.view with h | h
                · exact .inl h
                · exact .inr (.inl h)
        case rest =>
          obtain ⟨now2, s2, vs2, c2, rfl, hFo, hturn, hK⟩ := hcut
          have HFo := Lib.hid hFo
          have HTU := Lib.hid hturn
          have n0 := hFo.n0
          have hkq := (hK.block q HQL.out.2.1 (fun h => h (HY.out.2 q HQL.out.1 HQL.out.2.1))).trans HKB.out
          have hkw := (hK.block bw HQL.out.2.2.2 (fun h => h (HY.out.2 bw HQL.out.2.2.1 HQL.out.2.2.2))).trans HKW.out
          have HKq := Lib.hid hkq
          have HKw := Lib.hid hkw
          have HVw := Lib.hid (HVW.out.keep hK (fun k _ h1 h2 => h2 (HY.out.2 k h1.1 h1.2)))
          have HAC7 := Lib.hid (HAC.out.keep (Keeps.of_below (B := w.heap.size) (show Below w.heap.size wr wc from by
            have hz := HLE.out.below.size
            exact (HB6.out.mono hz).trans (Kx.below hK (fun k hk => HY.out.1 k (HX'.out.1 k hk)) HBW6.out.size))) (fun k _ h1 h2 => by have h3 : k < w.heap.size := h1; have h4 : w.heap.size ≤ k := h2; omega))
          have HVI2 := Lib.hid (view_any hFo.mst)
          clear hFo hturn hK hkq hkw y0
          go_wp2_with fail
          refine HVI2.out.mono ?_
          rintro e wv2 ⟨ua, ub, uc, rfl, hV, hBv⟩
          obtain ⟨UN, hUN⟩ : ∃ UN, s2.v.L.length = UN := ⟨_, rfl⟩
          obtain ⟨A8, a8, B8, b8, C8, c8, rfl, rfl, rfl, _⟩ := hV.shape
          rw [hUN] at hV ⊢
          have HUN := Lib.hid hUN
          have HUv := Lib.hid hV
          have HBu := Lib.hid hBv
          clear hV hBv hUN
          go_upto_region 25 with (fail)
          have hal : Below wv2.heap.size wv2 (wv2.alloc (.cells #[.int .i64 s2.v.ep, .slice A8 UN a8, .slice B8 UN b8, .slice C8 UN c8] 45)) := (Below.refl _ wv2).alloc (Nat.le_refl _) _
          have hku := heap_alloc_new wv2 (.cells #[.int .i64 s2.v.ep, .slice A8 UN a8, .slice B8 UN b8, .slice C8 UN c8] 45)
          obtain ⟨bu, hbu⟩ : ∃ bu, wv2.heap.size = bu := ⟨_, rfl⟩
          rw [hbu] at hku ⊢
          generalize wv2.alloc (.cells #[.int .i64 s2.v.ep, .slice A8 UN a8, .slice B8 UN b8, .slice C8 UN c8] 45) = w9 at hal hku ⊢
          have HB9 := Lib.hid (HBu.out.trans (hal.mono HBu.out.size))
          have HKu := Lib.hid hku
          have HU9 := Lib.hid (HUv.out.fresh hal)
          have HW9 := Lib.hid (HVw.out.fresh HB9.out)
          have hkw9 := (HB9.out.block _ (Array.getElem?_eq_some_iff.1 HKw.out).1).trans HKw.out
          have HKw9 := Lib.hid hkw9
          have t0 := cell_of_row w9 bu 0 _ _ _ hku
          have t1 := cell_of_row w9 bu 1 _ _ _ hku
          have t2 := cell_of_row w9 bu 2 _ _ _ hku
          have t3 := cell_of_row w9 bu 3 _ _ _ hku
          have hR2 := HFo.out.mst.right
          have hR1 := HLE.out.mst.right
          have hrt := right_any w9 _ s2.v.ep s2.v.L _ _ _ HU9.out
          rw [show (⟨s2.v.ep, s2.v.L⟩ : Vw) = s2.v from rfl, rightV_iff.2 hR2] at hrt
          have HRT := Lib.hid hrt
          have hge := HTU.out.ge
          have hE1 := hR1.ep2
          have hE2 := hR1.ep1
          have dlt : decide (s2.v.ep < s.v.ep) = false := decide_eq_false (by omega)
          have hwE : IntKind.i64.wrap (s.v.ep + 1) = s.v.ep + 1 := IntWalk.i64_in _ (by omega)
          have HFW : Hid (s2.v.ep = s.v.ep + 1 → ∀ W, Below w9.heap.size w9 W → Calls Tryz.prog 22 #[.agg #[.int .i64 s.v.ep, .slice A7 VN a7, .slice B7 VN b7, .slice C7 VN c7], .agg #[.int .i64 s2.v.ep, .slice A8 UN a8, .slice B8 UN b8, .slice C8 UN c8]] W fun e w' => e = .returned (.bool true) ∧ Below W.heap.size W w') := Lib.hid (fun he W hB => by
            rw [he]
            have hu := HU9.out.fresh hB
            have hw := HW9.out.fresh hB
            rcases HTU.out with h | ⟨node, boot, g1, g2, g3, g4, g5, g6, g7, h⟩ | ⟨k, h1, h2, h3, h⟩ | h
            · rw [h] at he; omega
            · rw [h] at hu
              exact follows_with W _ _ s.v.ep s.v.L node boot _ _ _ _ _ _ hw hR1 g1 g2 g3 g4 g5 g6 g7 hu
            · rw [h] at hu
              exact follows_cut W _ _ s.v.ep s.v.L k _ _ _ _ _ _ hw hR1 h1 h2 h3 hu
            · omega)
          clear hal hku hbu hkw9 hrt hR2 hR1 hge hE1 hE2
          go_cut [140] (fun sx wx => sx = .bool false ∧ Below w9.heap.size w9 wx)
          case first =>
            as_aux_lemma =>
              go_wp2_with fail
              refine HRT.out.mono ?_
              rintro e wA ⟨rfl, hBA⟩
              have HBA := Lib.hid hBA
              have hku := (hBA.block _ (Array.getElem?_eq_some_iff.1 HKu.out).1).trans HKu.out
              have hkw := (hBA.block _ (Array.getElem?_eq_some_iff.1 HKw9.out).1).trans HKw9.out
              have r0 := cell_of_row wA bu 0 _ _ _ hku
              have r1 := cell_of_row wA bu 1 _ _ _ hku
              have r2 := cell_of_row wA bu 2 _ _ _ hku
              have r3 := cell_of_row wA bu 3 _ _ _ hku
              have s0 := cell_of_row wA bw 0 _ _ _ hkw
              have s1 := cell_of_row wA bw 1 _ _ _ hkw
              have s2' := cell_of_row wA bw 2 _ _ _ hkw
              have s3 := cell_of_row wA bw 3 _ _ _ hkw
              clear hBA hku hkw t0 t1 t2 t3
              by_cases he : s2.v.ep = s.v.ep + 1
              · have e1 : (s2.v.ep == s.v.ep + 1) = true := by rw [beq_iff_eq]; exact he
                have HFF := Lib.hid (HFW.out he wA HBA.out)
                clear he
                go_wp2_with fail
                refine HFF.out.mono ?_
                rintro e wF ⟨rfl, hBF⟩
                have HBF := Lib.hid (HBA.out.trans (hBF.mono HBA.out.size))
                clear hBF
                go_wp2_with fail
                go_meet
                exact ⟨rfl, HBF.out⟩
              · have e1 : (s2.v.ep == s.v.ep + 1) = false := by rw [beq_eq_false_iff_ne]; exact he
                clear he
                go_wp2_with fail
                go_meet
                exact ⟨rfl, HBA.out⟩
          case rest =>
            obtain ⟨rfl, hcut⟩ := hcut
            have HC0 := Lib.hid hcut
            have HCW := Lib.hid (HB9.out.trans (hcut.mono HB9.out.size))
            clear hcut t0 t1 t2 t3 dlt hwE
            have hF := HFo.out
            have hm9 := hF.mst.fresh HCW.out
            have g0 := (HCW.out.cell (p := ⟨g, 0, none⟩) (World.block_lt_of_cell? _ _ hF.pair)).trans hF.pair
            have HG0 := Lib.hid g0
            obtain ⟨hqd, hqu, hqn, hql, hqs⟩ := hm9.disk
            have HQU := Lib.hid (And.intro hqu (And.intro hqn (And.intro hql hqs)))
            have HM9 := Lib.hid hm9
            have HBW9 := Lib.hid (hF.below.trans (HCW.out.mono hF.below.size))
            have HCL := Lib.hid (clone_kept hqd)
            have hkq9 := (HCW.out.block _ (Array.getElem?_eq_some_iff.1 HKq.out).1).trans HKq.out
            have hku9 := (HC0.out.block _ (Array.getElem?_eq_some_iff.1 HKu.out).1).trans HKu.out
            have HKQ9 := Lib.hid hkq9
            have HKU9 := Lib.hid hku9
            have HAC9 := Lib.hid (HAC7.out.keep (Keeps.of_fresh HCW.out fun _ => False) (fun _ _ _ => id))
            have HUU9 := Lib.hid (HU9.out.fresh HC0.out)
            clear hF hm9 hqd hqu hqn hql hqs hkq9 hku9
            go_wp2_with fail
            refine HCL.out.mono ?_
            rintro e wD ⟨p', rfl, hQD, hBD⟩
            have hks := ((HAC9.out.keep (Keeps.of_fresh hBD fun _ => False) (fun _ _ _ => id)).sl).mono (F' := fun k => k < wc.heap.size) (fun k _ hk => by have h3 : k < w.heap.size := hk; have := HBW9.out.size; show k < wc.heap.size; omega)
            rw [HKV.out] at hks
            have HCR := Lib.hid (crash_kept hQD _ _ hks)
            have HBD := Lib.hid hBD
            have y6 := cell_of_row wD q 6 _ _ _ ((hBD.block _ (Array.getElem?_eq_some_iff.1 HKQ9.out).1).trans HKQ9.out)
            clear hQD hBD hks g0
            go_wp2_with fail
            refine HCR.out.mono ?_
            rintro e wE ⟨rfl, hQE, hKE⟩
            have HOP := Lib.hid (open_kept hQE HQU.out.1 HQU.out.2.1 HQU.out.2.2.1 (.slice none 0 0) fail now2 hf4 hf5 n0)
            have HBE := Lib.hid (HBD.out.trans (Kx.below hKE (fun k hk => hk) HBD.out.size))
            clear hQE hKE y6
            go_wp2_with fail
            refine HOP.out.mono ?_
            rintro e wO ⟨m', rfl, hMO, hKO⟩
            have HBO := Lib.hid (HBE.out.trans (Kx.below hKO (fun k hk => hk) HBE.out.size))
            rw [HQU.out.2.2.2] at hMO
            have HMO := Lib.hid hMO
            clear hMO hKO
            have hkuO := (HBO.out.block _ (Array.getElem?_eq_some_iff.1 HKU9.out).1).trans HKU9.out
            have t0 := cell_of_row wO bu 0 _ _ _ hkuO
            have t1 := cell_of_row wO bu 1 _ _ _ hkuO
            have t2 := cell_of_row wO bu 2 _ _ _ hkuO
            have t3 := cell_of_row wO bu 3 _ _ _ hkuO
            have HUO := Lib.hid ((HUU9.out.mono (F' := fun k => k < wc.heap.size) fun _ hk _ => hk).keep (Keeps.of_below HBO.out) (fun k _ h1 h2 => by have h3 : k < wc.heap.size := h1; have h4 : wc.heap.size ≤ k := h2; omega))
            clear hkuO
            go_upto_region 32 with (fail)
            have HA := Lib.hid (show Below wO.heap.size wO wO.drew from ⟨rfl, rfl, rfl, Nat.le_refl _, fun _ _ => rfl⟩)
            go_region_held3 (fun y => y.cell? ⟨bu, 0, none⟩ = some (.int .i64 s2.v.ep) ∧ y.cell? ⟨bu, 1, none⟩ = some (.slice A8 UN a8) ∧ y.cell? ⟨bu, 2, none⟩ = some (.slice B8 UN b8) ∧ y.cell? ⟨bu, 3, none⟩ = some (.slice C8 UN c8))
              (first | with_reducible exact ⟨z0, z1, z2, z3⟩ | with_reducible exact ⟨t0, t1, t2, t3⟩ | go_keep)
              (first
                | (go_at_call 12
                   with_reducible refine (view_any (HMO.out.fresh HA.out)).mono ?_
                   rintro e wV ⟨na', nb', nc', rfl, hVN2, hBV⟩
                   obtain ⟨A9, a9, B9, b9, C9, c9, rfl, rfl, rfl, _⟩ := hVN2.shape
                   have HA := Lib.hid (show Below wO.heap.size wO wV from HA.out.trans (hBV.mono HA.out.size))
                   have HVN2 := Lib.hid hVN2
                   have z0 := (HA.out.cell (p := ⟨bu, 0, none⟩) (World.block_lt_of_cell? _ _ t0)).trans t0
                   have z1 := (HA.out.cell (p := ⟨bu, 1, none⟩) (World.block_lt_of_cell? _ _ t1)).trans t1
                   have z2 := (HA.out.cell (p := ⟨bu, 2, none⟩) (World.block_lt_of_cell? _ _ t2)).trans t2
                   have z3 := (HA.out.cell (p := ⟨bu, 3, none⟩) (World.block_lt_of_cell? _ _ t3)).trans t3
                   clear hVN2 hBV)
                | (go_at_call 25
                   with_reducible refine (asV_any _ _ _ _ _ _ _ _ _).mono ?_
                   rintro e wA ⟨rfl, hBA⟩
                   have HA := Lib.hid (show Below wO.heap.size wO wA from HA.out.trans (hBA.mono HA.out.size))
                   try (have HVN2 := Lib.hid (HVN2.out.fresh hBA))
                   have z0 := (HA.out.cell (p := ⟨bu, 0, none⟩) (World.block_lt_of_cell? _ _ t0)).trans t0
                   have z1 := (HA.out.cell (p := ⟨bu, 1, none⟩) (World.block_lt_of_cell? _ _ t1)).trans t1
                   have z2 := (HA.out.cell (p := ⟨bu, 2, none⟩) (World.block_lt_of_cell? _ _ t2)).trans t2
                   have z3 := (HA.out.cell (p := ⟨bu, 3, none⟩) (World.block_lt_of_cell? _ _ t3)).trans t3
                   clear hBA)
                | (go_at_call 24
                   with_reducible refine (sameV_eq _ s2.v.ep s2.v.L _ _ _ _ _ _ HVN2.out (HUO.out.fresh HA.out)).mono ?_
                   rintro e wS ⟨rfl, hBS⟩
                   have HA := Lib.hid (show Below wO.heap.size wO wS from HA.out.trans (hBS.mono HA.out.size))
                   have z0 := (HA.out.cell (p := ⟨bu, 0, none⟩) (World.block_lt_of_cell? _ _ t0)).trans t0
                   have z1 := (HA.out.cell (p := ⟨bu, 1, none⟩) (World.block_lt_of_cell? _ _ t1)).trans t1
                   have z2 := (HA.out.cell (p := ⟨bu, 2, none⟩) (World.block_lt_of_cell? _ _ t2)).trans t2
                   have z3 := (HA.out.cell (p := ⟨bu, 3, none⟩) (World.block_lt_of_cell? _ _ t3)).trans t3
                   clear hBS))
            all_goals (
              have HEND := Lib.hid (HBO.out.trans (HA.out.mono HBO.out.size))
              have hw1 : IntKind.i64.wrap ((i : Int) + 1) = (i : Int) + 1 := IntWalk.i64_in _ (by omega)
              clear t0 t1 t2 t3
              go_wp2_with fail
              go_roundw
              case rel =>
                refine ⟨i + 1, now2, s2, vs2, c2, rfl, by go_num, hlt, ⟨((HM9.out.fresh HEND.out).less (fun k hk => HY.out.1 k hk) HX'.out.2.2.2), HFo.out.heard, HBW9.out.trans (HEND.out.mono HBW9.out.size), (HEND.out.cell (p := ⟨g, 0, none⟩) (World.block_lt_of_cell? _ _ HG0.out)).trans HG0.out, n0, HFo.out.n1, HFo.out.c1, HFo.out.e1⟩⟩
              case measure => simp [intOf]; omega)
      · have hin2 : i = na := by omega
        subst hin2
        have e0 : decide ((i : Int) < (i : Int)) = false := by simp
        have hL1 := HLE.out.mst.right.n1
        have HVI := Lib.hid (view_any HLE.out.mst)
        obtain ⟨Ln, hLn⟩ : ∃ Ln, s.v.L.length = Ln := ⟨_, rfl⟩
        rw [hLn] at hL1
        have HLn := Lib.hid hLn
        have d6 : decide ((1 : Int) ≤ (Ln : Int)) = true := decide_eq_true (by omega)
        clear hLn
        go_wp2_with fail
        refine HVI.out.mono ?_
        rintro e wv ⟨va, vb, vc, rfl, hV, hBv⟩
        have HBv := Lib.hid (HLE.out.below.trans (hBv.mono HLE.out.below.size))
        clear hBv
        obtain ⟨A7, a7, B7, b7, C7, c7, rfl, rfl, rfl, _⟩ := hV.shape
        rw [HLn.out]
        clear hV
        go_wp2_with fail
        go_ret
        exact ⟨rfl, HBv.out⟩
  · obtain ⟨rfl, hB4⟩ := hO.2 hc
    have HB4 := Lib.hid (HB3.out.trans (hB4.mono HB3.out.size))
    clear hB4
    go_wp2_with fail
    go_ret
    exact ⟨rfl, HB4.out⟩
end Go.Proofs.YtoegdpcfhmjnaaaGreatDoor
