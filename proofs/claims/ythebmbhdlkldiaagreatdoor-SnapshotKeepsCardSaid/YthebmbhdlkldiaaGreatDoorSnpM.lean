/- Both states that entries make (made); the statements' examples (shown). Under the tables that utf8 lays. -/
import Derived.Test.YthebmbhdlkldiaaGreatDoorCodP
import Derived.Test.YthebmbhdlkldiaaGreatDoorBlL
import Derived.Test.YthebmbhdlkldiaaGreatDoorBlP
import Derived.Test.YthebmbhdlkldiaaGreatDoorSnpP
import Derived.Test.YthebmbhdlkldiaaGreatDoorParA
import Derived.Test.YthebmbhdlkldiaaGreatDoorStaD
import Derived.BigRegion
import Derived.Test.YthebmbhdlkldiaaGreatDoorCrcA
import Derived.Test.YthebmbhdlkldiaaGreatDoorParD
import Derived.Test.YthebmbhdlkldiaaGreatDoorStaC
import Derived.Test.YthebmbhdlkldiaaGreatDoorStaE
import Derived.Test.YthebmbhdlkldiaaGreatDoorStaR
import Derived.Test.YthebmbhdlkldiaaGreatDoorSnpB
/- What was put is taken: num.Take, TakeText, TakeInt; the reader of event. Under the stated premises on sizes. -/
namespace Go.Proofs.YthebmbhdlkldiaaGreatDoor
open Go.RowKit Go.Bl
attribute [local go_sem ↓] Go.wp_at_zero Go.wp_at_succ

theorem take_num (w : World) (n : Nat) (hn : n ≤ 1099511627776) (r : List UInt8) (hr : r.length ≤ 100000000) : Calls Tryz.prog 91 #[.string (Bl (numL n ++ r))] w fun e w' => e = .returned (.tuple #[.int .i64 n, .string (Bl r), .int .i64 0]) ∧ Below w.heap.size w w' := by
  have hl := numL_len hn
  have := take_any w (Bl (numL n ++ r)) (by rw [Bl_size, List.length_append]; omega)
  rw [Lb_Bl, tkN_num hn] at this
  exact this
set_option maxRecDepth 8000 in
theorem takeText_ok (w : World) (t : ByteArray) (m : Int) (ht : (t.size : Int) ≤ m) (ht2 : t.size ≤ 100000) (r : List UInt8) (hr : r.length ≤ 10000000) : Calls Tryz.prog 92 #[.string (Bl (txtL (Lb t) ++ r)), .int .i64 m] w fun e w' => e = .returned (.tuple #[.string t, .string (Bl r), .int .i64 0]) ∧ Below w.heap.size w w' := by
  have hc := take_num w t.size (by omega) (Lb t ++ r) (by rw [List.length_append, Lb_len]; omega)
  have hs : txtL (Lb t) ++ r = numL t.size ++ (Lb t ++ r) := by unfold txtL; rw [List.append_assoc]; rfl
  rw [hs]
  obtain ⟨P, hP⟩ : ∃ P, Bl (Lb t ++ r) = P := ⟨_, rfl⟩
  have hPs : P.size = t.size + r.length := by rw [← hP, Bl_size, List.length_append]; rfl
  have h1 : P.extract 0 t.size = t := by
    rw [ext_head, ← hP, Lb_Bl, ← Lb_len, List.take_left]; rfl
  have h2 : P.extract t.size P.size = Bl r := by
    rw [ext_tail, ← hP, Lb_Bl, ← Lb_len, List.drop_left]
  rw [hP] at hc
  have hle : t.size ≤ P.size := by omega
  have hPb : P.size ≤ 100000000 := by omega
  have d1 : decide (m < (t.size : Int)) = false := by simp; omega
  have d2 : decide (P.size < t.size) = false := by simp; omega
  have HC := Lib.hid hc
  clear hc hs hP hPs
  go_enter Tryz.func92, Tryz.ntmps92
  go_wp2_with fail
  refine HC.out.mono ?_
  rintro e w1 ⟨rfl, hB⟩
  go_wp2_with fail
  go_quiet (fail)
  go_wp2_with fail
  go_ret3
  exact ⟨rfl, hB.trans ⟨rfl, rfl, rfl, Nat.le_refl _, fun _ _ => rfl⟩⟩
/-- The reader at p has L left, and no error. -/
def Rd (w : World) (p : Nat) (L : List UInt8) : Prop := w.heap[p]? = some (.cells #[.string (Bl L), .int .i64 0] 215 (0, 0))
theorem Rd.fresh {w w' : World} {p : Nat} {L : List UInt8} (h : Rd w p L) (hB : Below w.heap.size w w') : Rd w' p L := (hB.block p (Array.getElem?_eq_some_iff.1 h).1).trans h
theorem Rd.lt {w : World} {p : Nat} {L : List UInt8} (h : Rd w p L) : p < w.heap.size := (Array.getElem?_eq_some_iff.1 h).1
set_option maxRecDepth 8000 in
theorem rname_ok (w : World) (p : Nat) (t : ByteArray) (ht : t.size ≤ 200) (r : List UInt8) (hr : r.length ≤ 10000000) (L : List UInt8) (hL : L = txtL (Lb t) ++ r) (h : Rd w p L) :
    Calls Tryz.prog 142 #[.pointer (some ⟨p, 0, none⟩)] w fun e w' => e = .returned (.string t) ∧ Rd w' p r ∧ Keeps (fun k => k = p) w w' := by
  have hc := takeText_ok w t 200 (by omega) (by omega) r hr
  rw [← hL] at hc
  unfold Rd at *
  clear hL
  have c0 : w.cell? ⟨p, 0, none⟩ = some (.string (Bl L)) := cell_of_row w p 0 _ _ _ h
  have c1 : w.cell? ⟨p, 1, none⟩ = some (.int .i64 0) := cell_of_row w p 1 _ _ _ h
  have HH := Lib.hid h
  have HC := Lib.hid hc
  clear hc h
  go_enter Tryz.func142, Tryz.ntmps142
  go_wp2_with fail
  refine HC.out.mono ?_
  rintro e w1 ⟨rfl, hB1⟩
  have k1 := (hB1.block p (Array.getElem?_eq_some_iff.1 HH.out).1).trans HH.out
  have c0 : w1.cell? ⟨p, 0, none⟩ = some (.string (Bl L)) := cell_of_row w1 p 0 _ _ _ k1
  have c1 : w1.cell? ⟨p, 1, none⟩ = some (.int .i64 0) := cell_of_row w1 p 1 _ _ _ k1
  have f0 : w1.frozen? ⟨p, 0, none⟩ = false := frozen_block k1 0
  have f1 : w1.frozen? ⟨p, 1, none⟩ = false := frozen_block k1 1
  have K1 := Lib.hid k1
  have HB1 := Lib.hid hB1
  clear k1 hB1
  go_wp2_with fail
  go_ret
  have k3 := setCell_block' (o := 1) (setCell_block' (o := 0) K1.out (.string (Bl r))) (.int .i64 0)
  have hk3 : Keeps (fun k => k = p) w1 _ := ((Keeps.refl (fun k => k = p) w1).setCell (p := ⟨p, 0, none⟩) (fun _ => rfl) (.string (Bl r))).setCell (p := ⟨p, 1, none⟩) (fun _ => rfl) (.int .i64 0)
  exact ⟨rfl, k3, (Keeps.of_fresh HB1.out (fun k => k = p)).trans hk3⟩
set_option maxRecDepth 8000 in
set_option maxHeartbeats 1000000 in
theorem event_ok (w : World) (p : Nat) (e : Ev) (h1 : e.kind.size ≤ 200) (h2 : e.data.size ≤ 200) (r : List UInt8) (hr : r.length ≤ 1000000) (h : Rd w p (evbL e ++ r)) :
    Calls Tryz.prog 133 #[.pointer (some ⟨p, 0, none⟩)] w fun x w' => x = .returned (.agg #[.string e.kind, .string e.data]) ∧ Rd w' p r ∧ Keeps (fun k => k = p) w w' := by
  have hl := txtL_len (l := Lb e.data) (by rw [Lb_len]; omega)
  rw [Lb_len] at hl
  have e0 : evbL e ++ r = txtL (Lb e.kind) ++ (txtL (Lb e.data) ++ r) := by unfold evbL; rw [List.append_assoc]
  have hB0 : Below w.heap.size w (w.alloc (.cells #[.string ⟨#[]⟩, .string ⟨#[]⟩] 77)) := (Below.refl _ w).alloc (Nat.le_refl _) _
  have hblk := heap_alloc_new w (.cells #[.string ⟨#[]⟩, .string ⟨#[]⟩] 77)
  have hpl := h.lt
  have HR := Lib.hid (h.fresh hB0)
  have E0 := Lib.hid e0
  clear h e0
  go_enter Tryz.func133, Tryz.ntmps133
  go_upto_region 2 with (fail)
  generalize w.alloc (.cells #[.string ⟨#[]⟩, .string ⟨#[]⟩] 77) = w1 at hB0 hblk HR ⊢
  obtain ⟨g, hg⟩ : ∃ g, w.heap.size = g := ⟨_, rfl⟩
  rw [hg] at hblk hpl ⊢
  have HG := Lib.hid hg
  have HB0 := Lib.hid hB0
  have HBK := Lib.hid hblk
  clear hg hB0 hblk
  go_wp2_with fail
  refine (rname_ok w1 p e.kind h1 (txtL (Lb e.data) ++ r) (by rw [List.length_append]; omega) _ E0.out HR.out).mono ?_
  rintro x w2 ⟨rfl, hR2, hK2⟩
  have HR2 := Lib.hid hR2
  have HBK2 := Lib.hid (hK2.grownTo HBK.out (fun e => by omega))
  have HK2 := Lib.hid hK2
  clear hR2 hK2
  go_wp2_with fail
  refine (rname_ok w2 p e.data h2 r (by omega) _ rfl HR2.out).mono ?_
  rintro x w3 ⟨rfl, hR3, hK3⟩
  have hbk3 := hK3.grownTo HBK2.out (fun e => by omega)
  have HR3 := Lib.hid hR3
  have HK3 := Lib.hid ((Keeps.of_fresh HB0.out (fun k => k = p)).trans (HK2.out.trans hK3))
  have z0 : w3.cell? ⟨g, 0, none⟩ = some (.string ⟨#[]⟩) := cell_of_row w3 g 0 _ _ _ hbk3
  have z1 : w3.cell? ⟨g, 1, none⟩ = some (.string ⟨#[]⟩) := cell_of_row w3 g 1 _ _ _ hbk3
  have f0 : w3.frozen? ⟨g, 0, none⟩ = false := frozen_block hbk3 0
  have f1 : w3.frozen? ⟨g, 1, none⟩ = false := frozen_block hbk3 1
  have HBK3 := Lib.hid hbk3
  clear hR3 hK3 hbk3
  go_wp2_with fail
  have hk4 := setCell_block' (o := 1) (v := .string e.data) (setCell_block' (o := 0) (v := .string e.kind) HBK3.out)
  have hkS : Keeps (fun k => k = g) w3 _ := ((Keeps.refl (fun k => k = g) w3).setCell (p := ⟨g, 0, none⟩) (fun _ => rfl) (.string e.kind)).setCell (p := ⟨g, 1, none⟩) (fun _ => rfl) (.string e.data)
  generalize (w3.setCell ⟨g, 0, none⟩ (.string e.kind)).setCell ⟨g, 1, none⟩ (.string e.data) = w4 at hk4 hkS ⊢
  have q0 : w4.cell? ⟨g, 0, none⟩ = some (.string e.kind) := cell_of_row w4 _ 0 _ _ _ hk4
  have q1 : w4.cell? ⟨g, 1, none⟩ = some (.string e.data) := cell_of_row w4 _ 1 _ _ _ hk4
  refine bodyPost_ret (v := .agg #[.string e.kind, .string e.data]) (by simp [results, Tryz.results133, go_sem, q0, q1]) rfl ⟨rfl, hkS.grownTo HR3.out (fun e => by omega), ?_⟩
  exact HK3.out.andThen hkS (fun i hi e => by have := HG.out; omega)
end Go.Proofs.YthebmbhdlkldiaaGreatDoor

/- What was put is taken: event.Take, the reader of snapshot. Under the tables that utf8 lays. -/
namespace Go.Proofs.YthebmbhdlkldiaaGreatDoor
open Go.RowKit Go.Bl
attribute [local go_sem ↓] Go.wp_at_zero Go.wp_at_succ

set_option maxRecDepth 8000 in
set_option maxHeartbeats 2000000 in
theorem etake_ok (w : World) (hT : Tabs w) (e : Ev) (he : rightE e = true) (r : List UInt8) (hr : r.length ≤ 1000000) :
    Calls Tryz.prog 118 #[.string (Bl (evbL e ++ r))] w fun x w' => x = .returned (.tuple #[.agg #[.string e.kind, .string e.data], .string (Bl r), .int .i64 0]) ∧ Below w.heap.size w w' := by
  obtain ⟨h1, h2⟩ := rightE_sizes he
  have hev : EvOk e := ⟨by omega, by omega⟩
  obtain ⟨s, hs⟩ : ∃ s, Bl (evbL e ++ r) = s := ⟨_, rfl⟩
  rw [hs]
  have hB0 : Below w.heap.size w ((w.alloc (.cells #[.string ⟨#[]⟩, .string ⟨#[]⟩] 77)).alloc (.cells #[.string s, .int .i64 0] 215)) := ((Below.refl _ w).alloc (Nat.le_refl _) _).alloc (by simp) _
  have hb1 : ((w.alloc (.cells #[.string ⟨#[]⟩, .string ⟨#[]⟩] 77)).alloc (.cells #[.string s, .int .i64 0] 215)).heap[w.heap.size]? = some (.cells #[.string ⟨#[]⟩, .string ⟨#[]⟩] 77 (0, 0)) := (Below.heap_alloc _ _ _ (by simp)).trans (heap_alloc_new w _)
  have hb2 := heap_alloc_new (w.alloc (.cells #[.string ⟨#[]⟩, .string ⟨#[]⟩] 77)) (.cells #[.string s, .int .i64 0] 215)
  rw [World.size_alloc] at hb2
  have hsz : w.heap.size + 1 < ((w.alloc (.cells #[.string ⟨#[]⟩, .string ⟨#[]⟩] 77)).alloc (.cells #[.string s, .int .i64 0] 215)).heap.size := by simp
  have HE := Lib.hid he
  have HEV := Lib.hid hev
  have HT := Lib.hid hT
  clear he hev hT
  go_enter Tryz.func118, Tryz.ntmps118
  go_upto_region 2 with (fail)
  generalize (w.alloc (.cells #[.string ⟨#[]⟩, .string ⟨#[]⟩] 77)).alloc (.cells #[.string s, .int .i64 0] 215) = w1 at hB0 hb1 hb2 hsz ⊢
  obtain ⟨g, hg⟩ : ∃ g, w.heap.size = g := ⟨_, rfl⟩
  have HG := Lib.hid hg
  have HB0 := Lib.hid hB0
  rw [hg] at hb1 hb2 hsz ⊢
  obtain ⟨p, hp⟩ : ∃ p, g + 1 = p := ⟨_, rfl⟩
  rw [hp] at hb2 hsz ⊢
  have hgp : g < p := by omega
  have hR : Rd w1 p (evbL e ++ r) := by unfold Rd; rw [hs]; exact hb2
  have HR := Lib.hid hR
  have HZ := Lib.hid hb1
  clear hg hp hs hb1 hb2 hB0 hR
  go_wp2_with fail
  refine (event_ok w1 p e (by omega) h2 r hr HR.out).mono ?_
  rintro x w2 ⟨rfl, hR2, hK2⟩
  have HR2 := Lib.hid hR2
  have HZ2 := Lib.hid (hK2.grownTo HZ.out (fun e => by omega))
  have HB2 := Lib.hid (HB0.out.trans (hK2.below (by have := HB0.out.size; omega) (fun k e => by have := HG.out; omega)))
  have hB3 : Below w2.heap.size w2 (w2.alloc (.cells #[.string e.kind, .string e.data] 77)) := (Below.refl _ w2).alloc (Nat.le_refl _) _
  have hb3 := heap_alloc_new w2 (.cells #[.string e.kind, .string e.data] 77)
  have hpl := hR2.lt
  clear hR2 hK2
  go_upto_region 3 with (fail)
  generalize w2.alloc (.cells #[.string e.kind, .string e.data] 77) = w3 at hB3 hb3 ⊢
  obtain ⟨q, hq⟩ : ∃ q, w2.heap.size = q := ⟨_, rfl⟩
  have HB3 := Lib.hid (HB2.out.trans (hB3.mono HB2.out.size))
  have HR3 := Lib.hid (HR2.out.fresh hB3)
  have HZ3 := Lib.hid ((Keeps.of_fresh hB3 (fun _ => False)).grownTo HZ2.out id)
  rw [hq] at hb3 hpl ⊢
  have HQ := Lib.hid hb3
  have x0 : w3.cell? ⟨q, 0, none⟩ = some (.string e.kind) := cell_of_row w3 q 0 _ _ _ hb3
  have x1 : w3.cell? ⟨q, 1, none⟩ = some (.string e.data) := cell_of_row w3 q 1 _ _ _ hb3
  have hcall := eright_any w3 (HT.out.fresh HB3.out) e HEV.out
  rw [HE.out] at hcall
  have HC := Lib.hid hcall
  clear hq hb3 hB3 hcall
  go_wp2_with fail
  refine HC.out.mono ?_
  rintro x w6 ⟨rfl, hB6⟩
  have hz6 := (Keeps.of_fresh hB6 (fun _ => False)).grownTo HZ3.out id
  have hr6 := HR3.out.fresh hB6
  have hq6 := (Keeps.of_fresh hB6 (fun _ => False)).grownTo HQ.out id
  have x0 : w6.cell? ⟨q, 0, none⟩ = some (.string e.kind) := cell_of_row w6 q 0 _ _ _ hq6
  have x1 : w6.cell? ⟨q, 1, none⟩ = some (.string e.data) := cell_of_row w6 q 1 _ _ _ hq6
  have y0 : w6.cell? ⟨p, 0, none⟩ = some (.string (Bl r)) := cell_of_row w6 p 0 _ _ _ hr6
  have y1 : w6.cell? ⟨p, 1, none⟩ = some (.int .i64 0) := cell_of_row w6 p 1 _ _ _ hr6
  have z0 : w6.cell? ⟨g, 0, none⟩ = some (.string ⟨#[]⟩) := cell_of_row w6 g 0 _ _ _ hz6
  have z1 : w6.cell? ⟨g, 1, none⟩ = some (.string ⟨#[]⟩) := cell_of_row w6 g 1 _ _ _ hz6
  have f0 : w6.frozen? ⟨g, 0, none⟩ = false := frozen_block hz6 0
  have f1 : w6.frozen? ⟨g, 1, none⟩ = false := frozen_block hz6 1
  have HB6 := Lib.hid (HB3.out.trans (hB6.mono HB3.out.size))
  have HZ6 := Lib.hid hz6
  clear hB6 hq6 hr6 hz6
  go_wp2_with fail
  have hpg : ¬ p = g := by omega
  have hqg : ¬ q = g := by omega
  go_region
  go_wp2_with fail
  have hk5 := setCell_block' (o := 1) (v := .string e.data) (setCell_block' (o := 0) (v := .string e.kind) HZ6.out)
  have hkS : Keeps (fun k => k = g) w6 _ := ((Keeps.refl (fun k => k = g) w6).setCell (p := ⟨g, 0, none⟩) (fun _ => rfl) (.string e.kind)).setCell (p := ⟨g, 1, none⟩) (fun _ => rfl) (.string e.data)
  have hkS := hkS.drew
  replace hk5 := show (((w6.setCell ⟨g, 0, none⟩ (.string e.kind)).setCell ⟨g, 1, none⟩ (.string e.data)).drew).heap[g]? = _ from hk5
  generalize ((w6.setCell ⟨g, 0, none⟩ (.string e.kind)).setCell ⟨g, 1, none⟩ (.string e.data)).drew = w7 at hk5 hkS ⊢
  have q0 : w7.cell? ⟨g, 0, none⟩ = some (.string e.kind) := cell_of_row w7 _ 0 _ _ _ hk5
  have q1 : w7.cell? ⟨g, 1, none⟩ = some (.string e.data) := cell_of_row w7 _ 1 _ _ _ hk5
  refine bodyPost_ret (v := .tuple #[.agg #[.string e.kind, .string e.data], .string (Bl r), .int .i64 0]) (by simp [results, Tryz.results118, go_sem, q0, q1]) rfl ⟨rfl, ?_⟩
  exact HB6.out.trans (hkS.below HB6.out.size (fun k e => by have := HG.out; omega))

/-- The reader at p has L left, and no error. -/
def SRd (w : World) (p : Nat) (L : List UInt8) : Prop := w.heap[p]? = some (.cells #[.string (Bl L), .int .i64 0] 103 (0, 0))
theorem SRd.fresh {w w' : World} {p : Nat} {L : List UInt8} (h : SRd w p L) (hB : Below w.heap.size w w') : SRd w' p L := (hB.block p (Array.getElem?_eq_some_iff.1 h).1).trans h
theorem SRd.lt {w : World} {p : Nat} {L : List UInt8} (h : SRd w p L) : p < w.heap.size := (Array.getElem?_eq_some_iff.1 h).1
set_option maxRecDepth 8000 in
theorem snumber_ok (w : World) (p : Nat) (n : Nat) (hn : n ≤ 1099511627776) (r : List UInt8) (hr : r.length ≤ 100000000) (L : List UInt8) (hL : L = numL n ++ r) (h : SRd w p L) :
    Calls Tryz.prog 42 #[.pointer (some ⟨p, 0, none⟩)] w fun e w' => e = .returned (.int .i64 n) ∧ SRd w' p r ∧ Keeps (fun k => k = p) w w' := by
  have hc := take_num w n hn r hr
  rw [← hL] at hc
  unfold SRd at *
  clear hL
  have c0 : w.cell? ⟨p, 0, none⟩ = some (.string (Bl L)) := cell_of_row w p 0 _ _ _ h
  have c1 : w.cell? ⟨p, 1, none⟩ = some (.int .i64 0) := cell_of_row w p 1 _ _ _ h
  have HH := Lib.hid h
  have HC := Lib.hid hc
  clear hc h
  go_enter Tryz.func42, Tryz.ntmps42
  go_wp2_with fail
  refine HC.out.mono ?_
  rintro e w1 ⟨rfl, hB1⟩
  have k1 := (hB1.block p (Array.getElem?_eq_some_iff.1 HH.out).1).trans HH.out
  have c0 : w1.cell? ⟨p, 0, none⟩ = some (.string (Bl L)) := cell_of_row w1 p 0 _ _ _ k1
  have c1 : w1.cell? ⟨p, 1, none⟩ = some (.int .i64 0) := cell_of_row w1 p 1 _ _ _ k1
  have f0 : w1.frozen? ⟨p, 0, none⟩ = false := frozen_block k1 0
  have f1 : w1.frozen? ⟨p, 1, none⟩ = false := frozen_block k1 1
  have K1 := Lib.hid k1
  have HB1 := Lib.hid hB1
  clear k1 hB1
  go_wp2_with fail
  go_ret
  have k3 := setCell_block' (o := 1) (setCell_block' (o := 0) K1.out (.string (Bl r))) (.int .i64 0)
  have hk3 : Keeps (fun k => k = p) w1 _ := ((Keeps.refl (fun k => k = p) w1).setCell (p := ⟨p, 0, none⟩) (fun _ => rfl) (.string (Bl r))).setCell (p := ⟨p, 1, none⟩) (fun _ => rfl) (.int .i64 0)
  exact ⟨rfl, k3, (Keeps.of_fresh HB1.out (fun k => k = p)).trans hk3⟩
set_option maxRecDepth 8000 in
set_option maxHeartbeats 1000000 in
theorem sevent_ok (w : World) (hT : Tabs w) (p : Nat) (e : Ev) (he : rightE e = true) (r : List UInt8) (hr : r.length ≤ 1000000) (h : SRd w p (evbL e ++ r)) :
    Calls Tryz.prog 93 #[.pointer (some ⟨p, 0, none⟩)] w fun x w' => x = .returned (.agg #[.string e.kind, .string e.data]) ∧ SRd w' p r ∧ Keeps (fun k => k = p) w w' := by
  have hB0 : Below w.heap.size w (w.alloc (.cells #[.string ⟨#[]⟩, .string ⟨#[]⟩] 77)) := (Below.refl _ w).alloc (Nat.le_refl _) _
  have hblk := heap_alloc_new w (.cells #[.string ⟨#[]⟩, .string ⟨#[]⟩] 77)
  have hpl := h.lt
  have h0 := h.fresh hB0
  have HTb := Lib.hid hT
  have HE := Lib.hid he
  clear h hT he
  go_enter Tryz.func93, Tryz.ntmps93
  go_upto_region 1 with (fail)
  generalize w.alloc (.cells #[.string ⟨#[]⟩, .string ⟨#[]⟩] 77) = w1 at hB0 hblk h0 ⊢
  obtain ⟨g, hg⟩ : ∃ g, w.heap.size = g := ⟨_, rfl⟩
  have HTb1 := Lib.hid (HTb.out.fresh hB0)
  rw [hg] at hblk hpl ⊢
  unfold SRd at h0
  have c0 : w1.cell? ⟨p, 0, none⟩ = some (.string (Bl (evbL e ++ r))) := cell_of_row w1 p 0 _ _ _ h0
  have c1 : w1.cell? ⟨p, 1, none⟩ = some (.int .i64 0) := cell_of_row w1 p 1 _ _ _ h0
  have HR := Lib.hid h0
  have HG := Lib.hid hg
  have HB0 := Lib.hid hB0
  have HBK := Lib.hid hblk
  have HC := Lib.hid (etake_ok w1 HTb1.out e HE.out r hr)
  obtain ⟨s, hs⟩ : ∃ s, Bl (evbL e ++ r) = s := ⟨_, rfl⟩
  rw [hs] at HC c0 HR
  clear hg hB0 hblk h0 hs
  go_wp2_with fail
  refine HC.out.mono ?_
  rintro x w2 ⟨rfl, hB2⟩
  have hr2 := (hB2.block p (Array.getElem?_eq_some_iff.1 HR.out).1).trans HR.out
  have hz2 := (hB2.block g (Array.getElem?_eq_some_iff.1 HBK.out).1).trans HBK.out
  have hB3 : Below w2.heap.size w2 (w2.alloc (.cells #[.string e.kind, .string e.data] 77)) := (Below.refl _ w2).alloc (Nat.le_refl _) _
  have hb3 := heap_alloc_new w2 (.cells #[.string e.kind, .string e.data] 77)
  have hg2 : g < w2.heap.size := (Array.getElem?_eq_some_iff.1 hz2).1
  have hp2 : p < w2.heap.size := (Array.getElem?_eq_some_iff.1 hr2).1
  have HK2 := Lib.hid (HB0.out.trans (hB2.mono HB0.out.size))
  clear hB2
  go_upto_region 4 with (fail)
  generalize w2.alloc (.cells #[.string e.kind, .string e.data] 77) = w3 at hB3 hb3 ⊢
  have hr3 := (hB3.block p hp2).trans hr2
  have hz3 := (hB3.block g hg2).trans hz2
  have HK3 := Lib.hid (HK2.out.trans (hB3.mono HK2.out.size))
  obtain ⟨q, hq⟩ : ∃ q, w2.heap.size = q := ⟨_, rfl⟩
  rw [hq] at hb3 hg2 hp2 ⊢
  have c0 : w3.cell? ⟨p, 0, none⟩ = some (.string s) := cell_of_row w3 p 0 _ _ _ hr3
  have c1 : w3.cell? ⟨p, 1, none⟩ = some (.int .i64 0) := cell_of_row w3 p 1 _ _ _ hr3
  have f0 : w3.frozen? ⟨p, 0, none⟩ = false := frozen_block hr3 0
  have f1 : w3.frozen? ⟨p, 1, none⟩ = false := frozen_block hr3 1
  have HR3 := Lib.hid hr3
  have HZ3 := Lib.hid hz3
  have HQ3 := Lib.hid hb3
  clear hr2 hz2 hr3 hz3 hB3 hq hb3
  go_upto_region 5 with (fail)
  have hk4 := setCell_block' (o := 1) (v := .int .i64 0) (setCell_block' (o := 0) (v := .string (Bl r)) HR3.out)
  have hkS : Keeps (fun k => k = p) w3 _ := ((Keeps.refl (fun k => k = p) w3).setCell (p := ⟨p, 0, none⟩) (fun _ => rfl) (.string (Bl r))).setCell (p := ⟨p, 1, none⟩) (fun _ => rfl) (.int .i64 0)
  generalize (w3.setCell ⟨p, 0, none⟩ (.string (Bl r))).setCell ⟨p, 1, none⟩ (.int .i64 0) = w4 at hk4 hkS ⊢
  have hz4 := hkS.grownTo HZ3.out (fun e => by omega)
  have hq4 := hkS.grownTo HQ3.out (fun e => by omega)
  have x0 : w4.cell? ⟨q, 0, none⟩ = some (.string e.kind) := cell_of_row w4 q 0 _ _ _ hq4
  have x1 : w4.cell? ⟨q, 1, none⟩ = some (.string e.data) := cell_of_row w4 q 1 _ _ _ hq4
  have z0 : w4.cell? ⟨g, 0, none⟩ = some (.string ⟨#[]⟩) := cell_of_row w4 g 0 _ _ _ hz4
  have z1 : w4.cell? ⟨g, 1, none⟩ = some (.string ⟨#[]⟩) := cell_of_row w4 g 1 _ _ _ hz4
  have f0 : w4.frozen? ⟨g, 0, none⟩ = false := frozen_block hz4 0
  have f1 : w4.frozen? ⟨g, 1, none⟩ = false := frozen_block hz4 1
  have HR4 := Lib.hid hk4
  have HZ4 := Lib.hid hz4
  have HK4 := Lib.hid ((Keeps.of_fresh HK3.out (fun k => k = p)).trans hkS)
  clear c0 c1 hk4 hkS hz4 hq4
  go_wp2_with fail
  have hk5 := setCell_block' (o := 1) (v := .string e.data) (setCell_block' (o := 0) (v := .string e.kind) HZ4.out)
  have hkS : Keeps (fun k => k = g) w4 _ := ((Keeps.refl (fun k => k = g) w4).setCell (p := ⟨g, 0, none⟩) (fun _ => rfl) (.string e.kind)).setCell (p := ⟨g, 1, none⟩) (fun _ => rfl) (.string e.data)
  generalize (w4.setCell ⟨g, 0, none⟩ (.string e.kind)).setCell ⟨g, 1, none⟩ (.string e.data) = w5 at hk5 hkS ⊢
  have q0 : w5.cell? ⟨g, 0, none⟩ = some (.string e.kind) := cell_of_row w5 _ 0 _ _ _ hk5
  have q1 : w5.cell? ⟨g, 1, none⟩ = some (.string e.data) := cell_of_row w5 _ 1 _ _ _ hk5
  refine bodyPost_ret (v := .agg #[.string e.kind, .string e.data]) (by simp [results, Tryz.results93, go_sem, q0, q1]) rfl ⟨rfl, hkS.grownTo HR4.out (fun e => by omega), ?_⟩
  exact HK4.out.andThen hkS (fun i hi e => by have := HG.out; omega)
set_option maxRecDepth 10000 in
set_option maxHeartbeats 2000000 in
theorem srequest_ok (w : World) (p : Nat) (q : Ded.En) (hq : ∀ n ∈ reqN q, 0 ≤ n ∧ n ≤ 274877906944) (r : List UInt8) (hr : r.length ≤ 1000000) (h : SRd w p (rqsL q ++ r)) :
    Calls Tryz.prog 44 #[.pointer (some ⟨p, 0, none⟩)] w fun x w' => x = .returned (.agg #[.int .i64 q.ses, .int .i64 q.seq, .int .i64 q.o.code, .int .i64 q.o.pos, .int .i64 q.o.first, .int .i64 q.o.ver]) ∧ SRd w' p r ∧ Keeps (fun k => k = p) w w' := by
  obtain ⟨r1, r2, ⟨r3, r4, r5, r6⟩⟩ := q
  have b1 := hq r1 (by simp [reqN])
  have b2 := hq r2 (by simp [reqN])
  have b3 := hq r3 (by simp [reqN])
  have b4 := hq r4 (by simp [reqN])
  have b5 := hq r5 (by simp [reqN])
  have b6 := hq r6 (by simp [reqN])
  have f2 := numL_len (n := r2.toNat) (by omega)
  have f3 := numL_len (n := r3.toNat) (by omega)
  have f4 := numL_len (n := r4.toNat) (by omega)
  have f5 := numL_len (n := r5.toNat) (by omega)
  have f6 := numL_len (n := r6.toNat) (by omega)
  have e0 : rqsL ⟨r1, r2, ⟨r3, r4, r5, r6⟩⟩ ++ r = numL r1.toNat ++ (numL r2.toNat ++ (numL r3.toNat ++ (numL r4.toNat ++ (numL r5.toNat ++ (numL r6.toNat ++ r))))) := by
    unfold rqsL numsL reqN
    simp only [List.flatMap_cons, List.flatMap_nil, List.append_nil, List.append_assoc]
  rw [e0] at h
  have hB0 : Below w.heap.size w (w.alloc (.cells #[.int .i64 0, .int .i64 0, .int .i64 0, .int .i64 0, .int .i64 0, .int .i64 0] 94)) := (Below.refl _ w).alloc (Nat.le_refl _) _
  have hblk := heap_alloc_new w (.cells #[.int .i64 0, .int .i64 0, .int .i64 0, .int .i64 0, .int .i64 0, .int .i64 0] 94)
  have hpl := h.lt
  have HR := Lib.hid (h.fresh hB0)
  clear h e0 hq
  go_enter Tryz.func44, Tryz.ntmps44
  go_upto_region 1 with (fail)
  generalize w.alloc (.cells #[.int .i64 0, .int .i64 0, .int .i64 0, .int .i64 0, .int .i64 0, .int .i64 0] 94) = w1 at hB0 hblk HR ⊢
  obtain ⟨g, hg⟩ : ∃ g, w.heap.size = g := ⟨_, rfl⟩
  rw [hg] at hblk hpl ⊢
  have HG := Lib.hid hg
  have HB0 := Lib.hid hB0
  have HZ := Lib.hid hblk
  have HK := Lib.hid (Keeps.refl (fun k => k = p) w1)
  clear hg hB0 hblk
  go_wp2_with fail
  refine (snumber_ok w1 p r1.toNat (by omega) (numL r2.toNat ++ (numL r3.toNat ++ (numL r4.toNat ++ (numL r5.toNat ++ (numL r6.toNat ++ r))))) (by simp only [List.length_append]; omega) _ rfl HR.out).mono ?_
  rw [show ((r1.toNat : Nat) : Int) = r1 by omega]
  rintro x w2 ⟨rfl, hR2, hK2⟩
  have HR := Lib.hid hR2
  have HZ := Lib.hid (hK2.grownTo HZ.out (fun e => by omega))
  have HK := Lib.hid (HK.out.trans hK2)
  clear hR2 hK2
  go_wp2_with fail
  refine (snumber_ok w2 p r2.toNat (by omega) (numL r3.toNat ++ (numL r4.toNat ++ (numL r5.toNat ++ (numL r6.toNat ++ r)))) (by simp only [List.length_append]; omega) _ rfl HR.out).mono ?_
  rw [show ((r2.toNat : Nat) : Int) = r2 by omega]
  rintro x w3 ⟨rfl, hR2, hK2⟩
  have HR := Lib.hid hR2
  have HZ := Lib.hid (hK2.grownTo HZ.out (fun e => by omega))
  have HK := Lib.hid (HK.out.trans hK2)
  clear hR2 hK2
  go_wp2_with fail
  refine (snumber_ok w3 p r3.toNat (by omega) (numL r4.toNat ++ (numL r5.toNat ++ (numL r6.toNat ++ r))) (by simp only [List.length_append]; omega) _ rfl HR.out).mono ?_
  rw [show ((r3.toNat : Nat) : Int) = r3 by omega]
  rintro x w4 ⟨rfl, hR2, hK2⟩
  have HR := Lib.hid hR2
  have HZ := Lib.hid (hK2.grownTo HZ.out (fun e => by omega))
  have HK := Lib.hid (HK.out.trans hK2)
  clear hR2 hK2
  go_wp2_with fail
  refine (snumber_ok w4 p r4.toNat (by omega) (numL r5.toNat ++ (numL r6.toNat ++ r)) (by simp only [List.length_append]; omega) _ rfl HR.out).mono ?_
  rw [show ((r4.toNat : Nat) : Int) = r4 by omega]
  rintro x w5 ⟨rfl, hR2, hK2⟩
  have HR := Lib.hid hR2
  have HZ := Lib.hid (hK2.grownTo HZ.out (fun e => by omega))
  have HK := Lib.hid (HK.out.trans hK2)
  clear hR2 hK2
  go_wp2_with fail
  refine (snumber_ok w5 p r5.toNat (by omega) (numL r6.toNat ++ r) (by simp only [List.length_append]; omega) _ rfl HR.out).mono ?_
  rw [show ((r5.toNat : Nat) : Int) = r5 by omega]
  rintro x w6 ⟨rfl, hR2, hK2⟩
  have HR := Lib.hid hR2
  have HZ := Lib.hid (hK2.grownTo HZ.out (fun e => by omega))
  have HK := Lib.hid (HK.out.trans hK2)
  clear hR2 hK2
  go_wp2_with fail
  refine (snumber_ok w6 p r6.toNat (by omega) r (by omega) _ rfl HR.out).mono ?_
  rw [show ((r6.toNat : Nat) : Int) = r6 by omega]
  rintro x w7 ⟨rfl, hR2, hK2⟩
  have HR := Lib.hid hR2
  have hz := hK2.grownTo HZ.out (fun e => by omega)
  have HK := Lib.hid (HK.out.trans hK2)
  have z0 := cell_of_row w7 g 0 _ _ _ hz
  have z1 := cell_of_row w7 g 1 _ _ _ hz
  have z2 := cell_of_row w7 g 2 _ _ _ hz
  have z3 := cell_of_row w7 g 3 _ _ _ hz
  have z4 := cell_of_row w7 g 4 _ _ _ hz
  have z5 := cell_of_row w7 g 5 _ _ _ hz
  have y0 := frozen_block hz 0
  have y1 := frozen_block hz 1
  have y2 := frozen_block hz 2
  have y3 := frozen_block hz 3
  have y4 := frozen_block hz 4
  have y5 := frozen_block hz 5
  have HZ := Lib.hid hz
  clear hR2 hK2 hz
  go_wp2_with fail
  have hk5 := setCell_block' (o := 5) (v := .int .i64 r6) (setCell_block' (o := 4) (v := .int .i64 r5) (setCell_block' (o := 3) (v := .int .i64 r4) (setCell_block' (o := 2) (v := .int .i64 r3) (setCell_block' (o := 1) (v := .int .i64 r2) (setCell_block' (o := 0) (v := .int .i64 r1) HZ.out)))))
  have hkS : Keeps (fun k => k = g) w7 _ := (((((Keeps.refl (fun k => k = g) w7).setCell (p := ⟨g, 0, none⟩) (fun _ => rfl) (.int .i64 r1)).setCell (p := ⟨g, 1, none⟩) (fun _ => rfl) (.int .i64 r2)).setCell (p := ⟨g, 2, none⟩) (fun _ => rfl) (.int .i64 r3)).setCell (p := ⟨g, 3, none⟩) (fun _ => rfl) (.int .i64 r4)).setCell (p := ⟨g, 4, none⟩) (fun _ => rfl) (.int .i64 r5)
  have hkS := hkS.setCell (p := ⟨g, 5, none⟩) (fun _ => rfl) (.int .i64 r6)
  generalize (((((w7.setCell ⟨g, 0, none⟩ (.int .i64 r1)).setCell ⟨g, 1, none⟩ (.int .i64 r2)).setCell ⟨g, 2, none⟩ (.int .i64 r3)).setCell ⟨g, 3, none⟩ (.int .i64 r4)).setCell ⟨g, 4, none⟩ (.int .i64 r5)).setCell ⟨g, 5, none⟩ (.int .i64 r6) = w8 at hk5 hkS ⊢
  have q0 : w8.cell? ⟨g, 0, none⟩ = some (.int .i64 r1) := cell_of_row w8 _ 0 _ _ _ hk5
  have q1 : w8.cell? ⟨g, 1, none⟩ = some (.int .i64 r2) := cell_of_row w8 _ 1 _ _ _ hk5
  have q2 : w8.cell? ⟨g, 2, none⟩ = some (.int .i64 r3) := cell_of_row w8 _ 2 _ _ _ hk5
  have q3 : w8.cell? ⟨g, 3, none⟩ = some (.int .i64 r4) := cell_of_row w8 _ 3 _ _ _ hk5
  have q4 : w8.cell? ⟨g, 4, none⟩ = some (.int .i64 r5) := cell_of_row w8 _ 4 _ _ _ hk5
  have q5 : w8.cell? ⟨g, 5, none⟩ = some (.int .i64 r6) := cell_of_row w8 _ 5 _ _ _ hk5
  refine bodyPost_ret (v := .agg #[.int .i64 r1, .int .i64 r2, .int .i64 r3, .int .i64 r4, .int .i64 r5, .int .i64 r6]) (by simp [results, Tryz.results44, go_sem, q0, q1, q2, q3, q4, q5]) rfl ⟨rfl, hkS.grownTo HR.out (fun e => by omega), ?_⟩
  exact ((Keeps.of_fresh HB0.out (fun k => k = p)).trans HK.out).andThen hkS (fun i hi e => by have := HG.out; omega)
end Go.Proofs.YthebmbhdlkldiaaGreatDoor

/- What was put is taken: a request, a stream of a snapshot. Under the tables that utf8 lays. -/
namespace Go.Proofs.YthebmbhdlkldiaaGreatDoor
open Go.RowKit Go.Bl
attribute [local go_sem ↓] Go.wp_at_zero Go.wp_at_succ

/-- Rows of two kinds of elements lie apart. -/
theorem own_apart {α β : Type} {w : World} {B B' : Nat} {e e' : TypeId} {k k' : Nat} {enc : α → List Value} {enc' : β → List Value} {v v' : Value} {l : List α} {l' : List β} (h : Own w B e k enc v l) (h' : Own w B' e' k' enc' v' l') (hne : e ≠ e') : ∀ b, v.ownBlock = some b → v'.ownBlock ≠ some b := by
  intro b hb hb'
  rcases h.2 with ⟨rfl, _⟩ | ⟨g, cap, cur, rfl, _, hg, _⟩
  · simp [Value.ownBlock] at hb
  rcases h'.2 with ⟨rfl, _⟩ | ⟨g', cap', cur', rfl, _, hg', _⟩
  · simp [Value.ownBlock] at hb'
  simp [Value.ownBlock] at hb hb'
  subst hb hb'
  rw [hg] at hg'
  simp only [Option.some.injEq, Obj.cells.injEq] at hg'
  exact hne hg'.2.1
/-- The loop's state: of the stream X what stands behind k events is left. -/
def StrRel (w1 : World) (g p q B : Nat) (X : Sp) (r : List UInt8) (i : Value) (wr : World) : Prop :=
  ∃ (k : Nat) (ev pv : Value), k ≤ X.evs.length ∧ i = .int .i64 k ∧ SRd wr p (((X.pos.zip X.evs).drop k).flatMap oneL ++ r) ∧ wr.heap[g]? = some (.cells #[.string ⟨#[]⟩, .slice none 0 0, .slice none 0 0] 90 (0, 0)) ∧
    wr.heap[q]? = some (.cells #[.string X.name, ev, pv] 90 (0, 0)) ∧ Own wr B 77 2 evc ev (X.evs.take k) ∧ Own wr B 3 1 intc pv (X.pos.take k) ∧ Keeps (fun k => k = p) w1 wr ∧ B ≤ wr.heap.size
set_option maxRecDepth 10000 in
set_option maxHeartbeats 4000000 in
theorem sstream_ok (w : World) (hT : Tabs w) (p : Nat) (hp2 : 2 ≤ p) (X : Sp) (h1 : X.name.size ≤ 128) (h2 : X.evs.length = X.pos.length) (h3 : ∀ q ∈ X.pos.zip X.evs, 1 ≤ q.1 ∧ q.1 ≤ 274877906944 ∧ rightE q.2 = true) (hn : X.evs.length ≤ 1000)
    (r : List UInt8) (hr : (strmL X).length + r.length ≤ 900000) (h : SRd w p (strmL X ++ r)) :
    Calls Tryz.prog 43 #[.pointer (some ⟨p, 0, none⟩)] w fun x w' => ∃ y : SmS, x = .returned (.agg #[.string y.sp.name, y.ev, y.pv]) ∧ y.sp = X ∧ SmAt w' (fun b => w.heap.size ≤ b) y ∧ SRd w' p r ∧ Keeps (fun k => k = p) w w' := by
  have e0 : strmL X ++ r = txtL (Lb X.name) ++ (numL X.evs.length ++ ((X.pos.zip X.evs).flatMap oneL ++ r)) := by
    unfold strmL; simp only [List.append_assoc]
  have hl1 : (numL X.evs.length ++ ((X.pos.zip X.evs).flatMap oneL ++ r)).length ≤ 900000 := by
    have := congrArg List.length e0
    simp only [List.length_append] at this ⊢
    omega
  have hfr : ((X.pos.zip X.evs).flatMap oneL).length + r.length ≤ 900000 := by
    have h2 := congrArg List.length (show strmL X = txtL (Lb X.name) ++ (numL X.evs.length ++ (X.pos.zip X.evs).flatMap oneL) from rfl)
    simp only [List.length_append] at h2
    omega
  have hB0 : Below w.heap.size w (w.alloc (.cells #[.string ⟨#[]⟩, .slice none 0 0, .slice none 0 0] 90)) := (Below.refl _ w).alloc (Nat.le_refl _) _
  have hblk := heap_alloc_new w (.cells #[.string ⟨#[]⟩, .slice none 0 0, .slice none 0 0] 90)
  have hpl := h.lt
  rw [e0] at h
  have h0 := h.fresh hB0
  have HTb := Lib.hid hT
  have H2 := Lib.hid h2
  have H3 := Lib.hid h3
  clear h hT e0 h2 h3 hr
  go_enter Tryz.func43, Tryz.ntmps43
  go_upto_region 1 with (fail)
  generalize w.alloc (.cells #[.string ⟨#[]⟩, .slice none 0 0, .slice none 0 0] 90) = w1 at hB0 hblk h0 ⊢
  obtain ⟨g, hg⟩ : ∃ g, w.heap.size = g := ⟨_, rfl⟩
  have HT1 := Lib.hid (HTb.out.fresh hB0)
  have hg1 : g < w1.heap.size := by rw [← hg]; exact (Array.getElem?_eq_some_iff.1 hblk).1
  rw [hg] at hblk hpl ⊢
  have HC := Lib.hid (takeText_ok w1 X.name 200 (by omega) (by omega) (numL X.evs.length ++ ((X.pos.zip X.evs).flatMap oneL ++ r)) (by omega))
  obtain ⟨s, hs⟩ : ∃ s, Bl (txtL (Lb X.name) ++ (numL X.evs.length ++ ((X.pos.zip X.evs).flatMap oneL ++ r))) = s := ⟨_, rfl⟩
  unfold SRd at h0
  rw [hs] at HC h0
  have c0 : w1.cell? ⟨p, 0, none⟩ = some (.string s) := cell_of_row w1 p 0 _ _ _ h0
  have c1 : w1.cell? ⟨p, 1, none⟩ = some (.int .i64 0) := cell_of_row w1 p 1 _ _ _ h0
  have HR := Lib.hid h0
  have HG := Lib.hid hg
  have HB0 := Lib.hid hB0
  have HZ := Lib.hid hblk
  clear hg hB0 hblk h0 hs
  go_wp2_with fail
  refine HC.out.mono ?_
  rintro x w2 ⟨rfl, hB2⟩
  have hr2 := (Keeps.of_fresh hB2 (fun _ => False)).grownTo HR.out id
  have hz2 := (Keeps.of_fresh hB2 (fun _ => False)).grownTo HZ.out id
  have c0 : w2.cell? ⟨p, 0, none⟩ = some (.string s) := cell_of_row w2 p 0 _ _ _ hr2
  have c1 : w2.cell? ⟨p, 1, none⟩ = some (.int .i64 0) := cell_of_row w2 p 1 _ _ _ hr2
  have f0 : w2.frozen? ⟨p, 0, none⟩ = false := frozen_block hr2 0
  have f1 : w2.frozen? ⟨p, 1, none⟩ = false := frozen_block hr2 1
  have HR2 := Lib.hid hr2
  have HZ2 := Lib.hid hz2
  have HB2 := Lib.hid hB2
  clear hr2 hz2 hB2 HC
  go_upto_region 5 with (fail)
  obtain ⟨t, ht⟩ : ∃ t, numL X.evs.length ++ ((X.pos.zip X.evs).flatMap oneL ++ r) = t := ⟨_, rfl⟩
  rw [ht] at hl1 ⊢
  have hk4 := setCell_block' (o := 1) (v := .int .i64 0) (setCell_block' (o := 0) (v := .string (Bl t)) HR2.out)
  have hkS : Keeps (fun k => k = p) w2 _ := ((Keeps.refl (fun k => k = p) w2).setCell (p := ⟨p, 0, none⟩) (fun _ => rfl) (.string (Bl t))).setCell (p := ⟨p, 1, none⟩) (fun _ => rfl) (.int .i64 0)
  generalize (w2.setCell ⟨p, 0, none⟩ (.string (Bl t))).setCell ⟨p, 1, none⟩ (.int .i64 0) = w3 at hk4 hkS ⊢
  have hR3 : SRd w3 p (numL X.evs.length ++ ((X.pos.zip X.evs).flatMap oneL ++ r)) := by rw [ht]; exact hk4
  have hz3 := hkS.grownTo HZ2.out (fun e => by omega)
  have hK3 : Keeps (fun k => k = p) w1 w3 := (Keeps.of_fresh HB2.out (fun k => k = p)).trans hkS
  have hB4 : Below w3.heap.size w3 (w3.alloc (.cells #[.string X.name, .slice none 0 0, .slice none 0 0] 90)) := (Below.refl _ w3).alloc (Nat.le_refl _) _
  have hq4 := heap_alloc_new w3 (.cells #[.string X.name, .slice none 0 0, .slice none 0 0] 90)
  have hsz4 : (w3.alloc (.cells #[.string X.name, .slice none 0 0, .slice none 0 0] 90)).heap.size = w3.heap.size + 1 := World.size_alloc _ _
  clear ht hl1 c0 c1 f0 f1 hk4 hkS
  go_upto_region 6 with (fail)
  generalize w3.alloc (.cells #[.string X.name, .slice none 0 0, .slice none 0 0] 90) = w4 at hB4 hq4 hsz4 ⊢
  obtain ⟨q, hqe⟩ : ∃ q, w3.heap.size = q := ⟨_, rfl⟩
  have hgq : g < q ∧ p < q := by have := hK3.size; omega
  rw [hqe] at hq4 hsz4 ⊢
  have HR4 := Lib.hid (hR3.fresh hB4)
  have HZ4 := Lib.hid ((Keeps.of_fresh hB4 (fun _ => False)).grownTo hz3 id)
  have HQ4 := Lib.hid hq4
  have HK4 := Lib.hid (hK3.fresh hB4)
  obtain ⟨B, hBe⟩ : ∃ B, B = q + 1 := ⟨_, rfl⟩
  have HBS := Lib.hid (show B ≤ w4.heap.size by omega)
  have hqB : q < B := by omega
  have HQ1 := Lib.hid (show w1.heap.size ≤ q by have := hK3.size; omega)
  clear hqe hBe hsz4 hB4 hq4 hR3 hz3 hK3
  go_wp2_with fail
  refine (snumber_ok w4 p X.evs.length (by omega) ((X.pos.zip X.evs).flatMap oneL ++ r) (by rw [List.length_append]; omega) _ rfl HR4.out).mono ?_
  rintro x w5 ⟨rfl, hR5, hK5⟩
  have HR5 := Lib.hid hR5
  have HZ5 := Lib.hid (hK5.grownTo HZ4.out (fun e => by omega))
  have HQ5 := Lib.hid (hK5.grownTo HQ4.out (fun e => by omega))
  have HK5 := Lib.hid (HK4.out.trans hK5)
  have HBS5 := Lib.hid (Nat.le_trans HBS.out hK5.size)
  obtain ⟨N, hN⟩ : ∃ N, X.evs.length = N := ⟨_, rfl⟩
  have HN := Lib.hid hN
  rw [hN] at hn ⊢
  clear hR5 hK5 HR4 HZ4 HQ4 HK4 hN
  go_wp2_with fail
  go_loopw [8, 9, 10] (fun i _ _ wr => StrRel w1 g p q B X r i wr) (fun i _ _ _ => N - (intOf i).toNat)
  case atStart => exact ⟨0, .slice none 0 0, .slice none 0 0, Nat.zero_le _, rfl, by rw [List.drop_zero]; exact HR5.out, HZ5.out, HQ5.out, by rw [List.take_zero]; exact Own.nil_ _ _ _ _ _, by rw [List.take_zero]; exact Own.nil_ _ _ _ _ _, HK5.out, HBS5.out⟩
  case round =>
    obtain ⟨k, ev, pv, hk, rfl, hR6, hZ6, hQ6, hE6, hP6, hK6, hS6⟩ := hrel
    rw [HN.out] at hk
    have hkp : k ≤ X.pos.length := by have := H2.out; have := HN.out; omega
    obtain ⟨Ae, ce, rfl, _, _⟩ := hE6.shape_ (show (X.evs.take k).length = k by have := HN.out; rw [List.length_take]; omega)
    obtain ⟨Ap, cp, rfl, _, _⟩ := hP6.shape_ (show (X.pos.take k).length = k by rw [List.length_take]; omega)
    have y1 : wr.cell? ⟨p, 1, none⟩ = some (.int .i64 0) := cell_of_row wr p 1 _ _ _ hR6
    have HR6 := Lib.hid hR6
    have HZ6 := Lib.hid hZ6
    have HQ6 := Lib.hid hQ6
    have HE6 := Lib.hid hE6
    have HP6 := Lib.hid hP6
    have HK6 := Lib.hid hK6
    have HS6 := Lib.hid hS6
    clear hR6 hZ6 hQ6 hE6 hP6 hK6 hS6 HR5 HZ5 HQ5 HK5
    by_cases hlt : k < N
    · have d0 : decide ((k : Int) < (N : Int)) = true := decide_eq_true (by omega)
      have hjp : k < X.pos.length := by have := H2.out; have := HN.out; omega
      have hje : k < X.evs.length := by have := HN.out; omega
      have hzl : k < (X.pos.zip X.evs).length := by rw [List.length_zip]; omega
      have hq0 : (X.pos.zip X.evs)[k] = (X.pos[k], X.evs[k]) := List.getElem_zip ..
      have hqq := H3.out _ (List.getElem_mem hzl)
      have hdr : ((X.pos.zip X.evs).drop k).flatMap oneL ++ r = oneL (X.pos.zip X.evs)[k] ++ (((X.pos.zip X.evs).drop (k + 1)).flatMap oneL ++ r) := by
        rw [List.drop_eq_getElem_cons hzl, List.flatMap_cons, List.append_assoc]
      have hdl : (((X.pos.zip X.evs).drop k).flatMap oneL).length ≤ ((X.pos.zip X.evs).flatMap oneL).length := by
        conv => rhs; rw [← List.take_append_drop k (X.pos.zip X.evs)]
        rw [List.flatMap_append, List.length_append]
        omega
      have HTE := Lib.hid (List.take_succ_eq_append_getElem hje)
      have HTP := Lib.hid (List.take_succ_eq_append_getElem hjp)
      rw [hq0] at hdr hqq
      have hR6 := HR6.out
      rw [hdr] at hR6
      have hdl2 := congrArg List.length hdr
      simp only [List.length_append] at hdl2
      obtain ⟨e, he⟩ : ∃ e, e = X.evs[k] := ⟨_, rfl⟩
      obtain ⟨n, hn'⟩ : ∃ n, n = X.pos[k] := ⟨_, rfl⟩
      rw [← he] at hR6 hqq hdl2 HTE
      rw [← hn'] at hR6 hqq hdl2 HTP
      change 1 ≤ n ∧ n ≤ 274877906944 ∧ rightE e = true at hqq
      have hn1 := hqq.1
      have hn2 := hqq.2.1
      have HER := Lib.hid hqq.2.2
      obtain ⟨t, ht⟩ : ∃ t, ((X.pos.zip X.evs).drop (k + 1)).flatMap oneL ++ r = t := ⟨_, rfl⟩
      have htl : (evbL e ++ t).length ≤ 900000 ∧ t.length ≤ 900000 := by
        have h1 : (oneL (n, e)).length = (numL n.toNat).length + (evbL e).length := by unfold oneL; rw [List.length_append]
        have h2 : t.length = (((X.pos.zip X.evs).drop (k + 1)).flatMap oneL).length + r.length := by rw [← ht, List.length_append]
        rw [List.length_append]
        omega
      rw [ht, show oneL (n, e) ++ t = numL n.toNat ++ (evbL e ++ t) by unfold oneL; rw [List.append_assoc]] at hR6
      have HT' := Lib.hid ht
      have HC := Lib.hid (snumber_ok wr p n.toNat (by omega) (evbL e ++ t) (by omega) _ rfl hR6)
      rw [show ((n.toNat : Nat) : Int) = n by omega] at HC
      clear hdr hqq hq0 hzl he hn' hR6 hdl hdl2 ht
      go_wp2_with fail
      refine HC.out.mono ?_
      rintro x w7 ⟨rfl, hR7, hK7⟩
      have hpB : p < B := by omega
      have HR7 := Lib.hid hR7
      have HZ7 := Lib.hid (hK7.grownTo HZ6.out (fun e => by omega))
      have hq7 := hK7.grownTo HQ6.out (fun e => by omega)
      have HE7 := Lib.hid (HE6.out.keep hK7 (fun b hb e => by have := (HE6.out.lt b hb).1; omega))
      have HP7 := Lib.hid (HP6.out.keep hK7 (fun b hb e => by have := (HP6.out.lt b hb).1; omega))
      have HK7 := Lib.hid (HK6.out.trans hK7)
      have HS7 := Lib.hid (Nat.le_trans HS6.out hK7.size)
      have y2 : w7.cell? ⟨q, 2, none⟩ = some (.slice Ap k cp) := cell_of_row w7 q 2 _ _ _ hq7
      have HQ7 := Lib.hid hq7
      clear hR7 hK7 hq7 y1 HC
      go_upto_region 12 with (at_builtin; refine elIntP.append _ (by rfl) _ _ rfl B _ (X.pos.take k) rfl (HP7.out.fresh ((Below.refl _ _).alloc (Nat.le_refl _) _)) _ _ [n] rfl (Sl.single (heap_alloc_new _ _) rfl) ?_ ?_ ?_; (simp only [List.length_take, List.length_singleton]; omega); (have := HS7.out; simp only [World.size_alloc]; omega); intro v' w9 hown' hgrow hat; (obtain ⟨Av', cv', rfl, _, _⟩ := hown'.shape_ (show (X.pos.take k ++ [n]).length = k + 1 by simp; omega)); have hkk := Keeps.of_grown hgrow; have hnq : ∀ m, m ≤ q → ¬ ((Value.slice Ap k cp).ownBlock = some m) := (fun m hm e => by have := (HP7.out.lt m e).1; omega); have hq9 := hkk.grownTo ((Keeps.of_fresh ((Below.refl w7.heap.size w7).alloc (Nat.le_refl _) _) (fun _ => False)).grownTo HQ7.out id) (hnq q (by omega)); have y9 := cell_of_row w9 q 2 _ _ _ hq9; have g9 := frozen_block hq9 2; have HQ9 := Lib.hid hq9; have HO9 := Lib.hid hown'; have HGR := Lib.hid hgrow; have HNQ := Lib.hid hnq; clear hown' hgrow hat hkk hq9 hnq)
      have hal : Below w7.heap.size w7 (w7.alloc (.cells #[.int .i64 n] 3)) := (Below.refl w7.heap.size w7).alloc (Nat.le_refl _) _
      have hgr := Keeps.of_grown HGR.out
      have hkS : Keeps (fun m => m = q) w9 (w9.setCell ⟨q, 2, none⟩ (.slice Av' (k + 1) cv')) := (Keeps.refl (fun m => m = q) w9).setCell (p := ⟨q, 2, none⟩) (fun _ => rfl) _
      have hR10 := hkS.grownTo (hgr.grownTo ((Keeps.of_fresh hal (fun _ => False)).grownTo HR7.out id) (HNQ.out p (by omega))) (fun e => by omega)
      have hZ10 := hkS.grownTo (hgr.grownTo ((Keeps.of_fresh hal (fun _ => False)).grownTo HZ7.out id) (HNQ.out g (by omega))) (fun e => by omega)
      have hQ10 := setCell_block' (o := 2) HQ9.out (.slice Av' (k + 1) cv')
      have hE10 := ((HE7.out.fresh hal).keep hgr (fun b hb e => own_apart HE7.out HP7.out (by decide) b hb e)).keep hkS (fun b hb e => by have := (HE7.out.lt b hb).1; omega)
      have hP10 := HO9.out.keep hkS (fun b hb e => by have := (HO9.out.lt b hb).1; omega)
      rw [← HTP.out] at hP10
      have hsz9 := HGR.out.size
      rw [World.size_alloc] at hsz9
      have hK10 : Keeps (fun k => k = p) w1 (w9.setCell ⟨q, 2, none⟩ (.slice Av' (k + 1) cv')) :=
        ((HK7.out.fresh hal).andThen hgr (fun i hi e => by have := (HP7.out.lt i e).1; have := HQ1.out; omega)).andThen hkS (fun i hi e => by have := HQ1.out; omega)
      have hS10 : B ≤ (w9.setCell ⟨q, 2, none⟩ (.slice Av' (k + 1) cv')).heap.size := by have := hkS.size; have := HS7.out; omega
      clear hsz9 hkS hgr hal y2 y9 g9
      generalize w9.setCell ⟨q, 2, none⟩ (.slice Av' (k + 1) cv') = w10 at hR10 hZ10 hQ10 hE10 hP10 hK10 hS10 ⊢
      have hR10 : SRd w10 p (evbL e ++ t) := hR10
      have HC2 := Lib.hid (sevent_ok w10 (HT1.out.keep hK10 (fun k e => by omega) HT1.out.lt) p e HER.out t (by omega) hR10)
      have HZ10 := Lib.hid hZ10
      have HQ10 := Lib.hid hQ10
      have HE10 := Lib.hid hE10
      have HP10 := Lib.hid hP10
      have HK10 := Lib.hid hK10
      have HS10 := Lib.hid hS10
      clear hR10 hZ10 hQ10 hE10 hP10 hK10 hS10 HR7 HZ7 HQ7 HE7 HP7 HK7 HS7 HQ9 HO9 HGR HNQ
      go_wp2_with fail
      refine HC2.out.mono ?_
      rintro x w11 ⟨rfl, hR11, hK11⟩
      have HR11 := Lib.hid hR11
      have HZ11 := Lib.hid (hK11.grownTo HZ10.out (fun e => by omega))
      have HQ11 := Lib.hid (hK11.grownTo HQ10.out (fun e => by omega))
      have HE11 := Lib.hid (HE10.out.keep hK11 (fun b hb e => by have := (HE10.out.lt b hb).1; omega))
      have HP11 := Lib.hid (HP10.out.keep hK11 (fun b hb e => by have := (HP10.out.lt b hb).1; omega))
      have HK11 := Lib.hid (HK10.out.trans hK11)
      have HS11 := Lib.hid (Nat.le_trans HS10.out hK11.size)
      clear hR11 hK11 HC2 HZ10 HQ10 HE10 HP10 HK10 HS10
      go_upto_region 13 with (fail)
      have hb12 : Below w11.heap.size w11 (w11.alloc (.cells #[.string e.kind, .string e.data] 77)) := (Below.refl _ w11).alloc (Nat.le_refl _) _
      have hn12 := heap_alloc_new w11 (.cells #[.string e.kind, .string e.data] 77)
      generalize w11.alloc (.cells #[.string e.kind, .string e.data] 77) = w12 at hb12 hn12 ⊢
      have HR12 := Lib.hid (HR11.out.fresh hb12)
      have HZ12 := Lib.hid ((Keeps.of_fresh hb12 (fun _ => False)).grownTo HZ11.out id)
      have hq12 := (Keeps.of_fresh hb12 (fun _ => False)).grownTo HQ11.out id
      have HE12 := Lib.hid (HE11.out.fresh hb12)
      have HP12 := Lib.hid (HP11.out.fresh hb12)
      have HK12 := Lib.hid (HK11.out.fresh hb12)
      have HS12 := Lib.hid (Nat.le_trans HS11.out hb12.size)
      have z0 : w12.cell? ⟨w11.heap.size, 0, none⟩ = some (.string e.kind) := cell_of_row w12 _ 0 _ _ _ hn12
      have z1 : w12.cell? ⟨w11.heap.size, 1, none⟩ = some (.string e.data) := cell_of_row w12 _ 1 _ _ _ hn12
      have y1 : w12.cell? ⟨q, 1, none⟩ = some (.slice Ae k ce) := cell_of_row w12 q 1 _ _ _ hq12
      have HQ12 := Lib.hid hq12
      clear hb12 hn12 hq12 HR11 HZ11 HQ11 HE11 HP11 HK11 HS11
      go_wp2_with (at_builtin; refine elEv.append _ (by rfl) _ _ rfl B _ (X.evs.take k) rfl (HE12.out.fresh ((Below.refl _ _).alloc (Nat.le_refl _) _)) _ _ [e] rfl (Sl.single (heap_alloc_new _ _) rfl) ?_ ?_ ?_; (simp only [List.length_take, List.length_singleton]; omega); (have := HS12.out; simp only [World.size_alloc]; omega); intro v' w13 hown' hgrow hat; (obtain ⟨Aw', cw', rfl, _, _⟩ := hown'.shape_ (show (X.evs.take k ++ [e]).length = k + 1 by simp; omega)); have hkk := Keeps.of_grown hgrow; have hnq : ∀ m, m ≤ q → ¬ ((Value.slice Ae k ce).ownBlock = some m) := (fun m hm e => by have := (HE12.out.lt m e).1; omega); have hq13 := hkk.grownTo ((Keeps.of_fresh ((Below.refl w12.heap.size w12).alloc (Nat.le_refl _) _) (fun _ => False)).grownTo HQ12.out id) (hnq q (by omega)); have y13 := cell_of_row w13 q 1 _ _ _ hq13; have g13 := frozen_block hq13 1; have HQ13 := Lib.hid hq13; have HO13 := Lib.hid hown'; have HGR := Lib.hid hgrow; have HNQ := Lib.hid hnq; clear hown' hgrow hat hkk hq13 hnq)
      go_roundw
      case rel =>
        have hal : Below w12.heap.size w12 (w12.alloc (.cells #[.string e.kind, .string e.data] 77)) := (Below.refl w12.heap.size w12).alloc (Nat.le_refl _) _
        have hgr := Keeps.of_grown HGR.out
        have hkS : Keeps (fun m => m = q) w13 (w13.setCell ⟨q, 1, none⟩ (.slice Aw' (k + 1) cw')) := (Keeps.refl (fun m => m = q) w13).setCell (p := ⟨q, 1, none⟩) (fun _ => rfl) _
        have hR14 := hkS.grownTo (hgr.grownTo ((Keeps.of_fresh hal (fun _ => False)).grownTo HR12.out id) (HNQ.out p (by omega))) (fun e => by omega)
        have hZ14 := hkS.grownTo (hgr.grownTo ((Keeps.of_fresh hal (fun _ => False)).grownTo HZ12.out id) (HNQ.out g (by omega))) (fun e => by omega)
        have hP14 := ((HP12.out.fresh hal).keep hgr (fun b hb e => own_apart HP12.out HE12.out (by decide) b hb e)).keep hkS (fun b hb e => by have := (HP12.out.lt b hb).1; omega)
        have hE14 := HO13.out.keep hkS (fun b hb e => by have := (HO13.out.lt b hb).1; omega)
        rw [← HTE.out] at hE14
        have hsz13 := HGR.out.size
        rw [World.size_alloc] at hsz13
        refine ⟨k + 1, _, _, by have := HN.out; omega, by go_num, ?_, hZ14, setCell_block' (o := 1) HQ13.out _, hE14, hP14, ((HK12.out.fresh hal).andThen hgr (fun i hi e => by have := (HE12.out.lt i e).1; have := HQ1.out; omega)).andThen hkS (fun i hi e => by have := HQ1.out; omega), by have := hkS.size; have := HS12.out; omega⟩
        rw [HT'.out]
        exact hR14
      case measure => simp [intOf]; omega
    · have hkd : k = N := by omega
      subst hkd
      have d0 : decide ((k : Int) < (k : Int)) = false := by simp
      have hR8 := HR6.out
      rw [List.drop_of_length_le (by rw [List.length_zip]; have := HN.out; omega), List.flatMap_nil, List.nil_append] at hR8
      have hE8 := HE6.out
      rw [List.take_of_length_le (by have := HN.out; omega)] at hE8
      have hP8 := HP6.out
      rw [List.take_of_length_le (by have := HN.out; have := H2.out; omega)] at hP8
      have hq8 := HQ6.out
      have hz8 := HZ6.out
      have q0 : wr.cell? ⟨q, 0, none⟩ = some (.string X.name) := cell_of_row wr q 0 _ _ _ hq8
      have q1 : wr.cell? ⟨q, 1, none⟩ = some (.slice Ae k ce) := cell_of_row wr q 1 _ _ _ hq8
      have q2 : wr.cell? ⟨q, 2, none⟩ = some (.slice Ap k cp) := cell_of_row wr q 2 _ _ _ hq8
      have z0 := cell_of_row wr g 0 _ _ _ hz8
      have z1 := cell_of_row wr g 1 _ _ _ hz8
      have z2 := cell_of_row wr g 2 _ _ _ hz8
      have y0 := frozen_block hz8 0
      have y1' := frozen_block hz8 1
      have y2 := frozen_block hz8 2
      have HR8 := Lib.hid hR8
      have HE8 := Lib.hid hE8
      have HP8 := Lib.hid hP8
      clear hR8 hE8 hP8 hq8 hz8 HR6 HE6 HP6
      go_wp2_with fail
      have hk9 := setCell_block' (o := 2) (v := .slice Ap k cp) (setCell_block' (o := 1) (v := .slice Ae k ce) (setCell_block' (o := 0) (v := .string X.name) HZ6.out))
      have hkS : Keeps (fun k => k = g) wr _ := ((Keeps.refl (fun k => k = g) wr).setCell (p := ⟨g, 0, none⟩) (fun _ => rfl) (.string X.name)).setCell (p := ⟨g, 1, none⟩) (fun _ => rfl) (.slice Ae k ce)
      have hkS := hkS.setCell (p := ⟨g, 2, none⟩) (fun _ => rfl) (.slice Ap k cp)
      generalize ((wr.setCell ⟨g, 0, none⟩ (.string X.name)).setCell ⟨g, 1, none⟩ (.slice Ae k ce)).setCell ⟨g, 2, none⟩ (.slice Ap k cp) = w8 at hk9 hkS ⊢
      have q0 : w8.cell? ⟨g, 0, none⟩ = some (.string X.name) := cell_of_row w8 _ 0 _ _ _ hk9
      have q1 : w8.cell? ⟨g, 1, none⟩ = some (.slice Ae k ce) := cell_of_row w8 _ 1 _ _ _ hk9
      have q2 : w8.cell? ⟨g, 2, none⟩ = some (.slice Ap k cp) := cell_of_row w8 _ 2 _ _ _ hk9
      have hgB : ∀ b, B ≤ b → w.heap.size ≤ b := fun b hb => by have := HG.out; omega
      refine bodyPost_ret (v := .agg #[.string X.name, .slice Ae k ce, .slice Ap k cp]) (by simp [results, Tryz.results43, go_sem, q0, q1, q2]) rfl ⟨⟨X, .slice Ae k ce, .slice Ap k cp, rfl, rfl⟩, rfl, rfl, ⟨?_, ?_⟩, hkS.grownTo HR8.out (fun e => by omega), ?_⟩
      · exact ((HE8.out.sl (fun _ => rfl)).keep hkS (fun b _ hb e => by have := (HE8.out.lt b hb).1; omega)).mono (fun b _ hb => hgB b (HE8.out.lt b hb).1)
      · exact ((HP8.out.sl (fun _ => rfl)).keep hkS (fun b _ hb e => by have := (HP8.out.lt b hb).1; omega)).mono (fun b _ hb => hgB b (HP8.out.lt b hb).1)
      · exact ((Keeps.of_fresh HB0.out (fun k => k = p)).trans HK6.out).andThen hkS (fun i hi e => by have := HG.out; omega)
end Go.Proofs.YthebmbhdlkldiaaGreatDoor

/- What was put is taken: snapshot.Take. Under the tables that utf8 lays. -/
namespace Go.Proofs.YthebmbhdlkldiaaGreatDoor
open Go.RowKit Go.Bl
attribute [local go_sem ↓] Go.wp_at_zero Go.wp_at_succ

theorem takeFixed_none (w : World) : Calls Tryz.prog 41 #[.string ⟨#[]⟩] w fun e w' => e = .returned (.tuple #[.int .u32 0, .string ⟨#[]⟩, .int .i64 3]) ∧ w = w' := by
  go_enter Tryz.func41, Tryz.ntmps41
  go_wp2_with fail
  go_ret3
  exact ⟨rfl, rfl⟩
theorem snapTake_none (w : World) : Calls Tryz.prog 11 #[.string ⟨#[]⟩] w fun e w' => e = .returned (.tuple #[.pointer none, .int .i64 3]) ∧ Below w.heap.size w w' := by
  go_enter Tryz.func11, Tryz.ntmps11
  go_wp2_with fail
  refine (takeFixed_none w).mono ?_
  rintro e w1 ⟨rfl, rfl⟩
  go_wp2_with fail
  go_ret2
  exact ⟨rfl, Below.refl _ _⟩
theorem rightE_ok {e : Ev} (h : rightE e = true) : EvOk e := by
  obtain ⟨h1, h2⟩ := rightE_sizes h
  exact ⟨by omega, by omega⟩
theorem ones_len {p : Pt} (h : PtSm p) : (p.ss.flatMap onesOf).length ≤ 1000000 := by
  have : ∀ ss : List Sp, (∀ x ∈ ss, x ∈ p.ss) → (ss.flatMap onesOf).length ≤ ss.length * 1000 := by
    intro ss
    induction ss with
    | nil => intro _; simp
    | cons x ss ih =>
      intro hs
      have h1 := ih (fun y hy => hs y (List.mem_cons_of_mem _ hy))
      have h2 := h.ev x (hs x List.mem_cons_self)
      have h3 : (onesOf x).length ≤ 1000 := by unfold onesOf; rw [List.length_map, List.length_zip]; omega
      simp only [List.flatMap_cons, List.length_append, List.length_cons, Nat.add_mul]
      omega
  have h1 := this p.ss (fun x hx => hx)
  have := h.ss
  omega
theorem drop_flat {α : Type} (f : α → List UInt8) {l : List α} {k : Nat} (h : k < l.length) (r : List UInt8) : (l.drop k).flatMap f ++ r = f l[k] ++ ((l.drop (k + 1)).flatMap f ++ r) := by
  rw [List.drop_eq_getElem_cons h, List.flatMap_cons, List.append_assoc]
theorem drop_flat_le {α : Type} (f : α → List UInt8) (l : List α) (k : Nat) : ((l.drop k).flatMap f).length ≤ (l.flatMap f).length := by
  conv => rhs; rw [← List.take_append_drop k l]
  rw [List.flatMap_append, List.length_append]
  omega
/-- The streams' loop. -/
def TkS (w1 : World) (p q B : Nat) (ap : Int) (pt : Pt) (R : List UInt8) (i : Value) (wr : World) : Prop :=
  ∃ (k : Nat) (sv : Value) (S : List SmS), k ≤ pt.ss.length ∧ i = .int .i64 k ∧ SRd wr p ((pt.ss.drop k).flatMap strmL ++ R) ∧ wr.heap[q]? = some (.cells #[.int .i64 ap, sv, .slice none 0 0] 43 (0, 0)) ∧
    SmRow wr B 90 sv S ∧ S.map SmS.sp = pt.ss.take k ∧ Keeps (fun k => k = p) w1 wr ∧ B ≤ wr.heap.size
/-- The requests' loop. -/
def TkR (w1 : World) (p q B : Nat) (ap : Int) (pt : Pt) (sv : Value) (i : Value) (wr : World) : Prop :=
  ∃ (k : Nat) (rv : Value), k ≤ pt.rs.length ∧ i = .int .i64 k ∧ SRd wr p ((pt.rs.drop k).flatMap rqsL ++ []) ∧ wr.heap[q]? = some (.cells #[.int .i64 ap, sv, rv] 43 (0, 0)) ∧
    SmsAt wr (fun b => B ≤ b ∧ rv.ownBlock ≠ some b) sv pt.ss ∧ Own wr B 94 6 Ded.onec rv (pt.rs.take k) ∧ Keeps (fun k => k = p) w1 wr ∧ B ≤ wr.heap.size
set_option maxRecDepth 20000 in
set_option maxHeartbeats 8000000 in
theorem snapTake_ok (w : World) (hT : Tabs w) (pt : Pt) (hp : PtSm pt) :
    Calls Tryz.prog 11 #[.string (Bl (snpB pt))] w fun e w' => ∃ q F W, e = .returned (.tuple #[.pointer (some ⟨q, 0, none⟩), .int .i64 0]) ∧ StAt w' q (stOf pt) F W ∧ (∀ k, F k → w.heap.size ≤ k) ∧ Below w.heap.size w w' := by
  have hss := hp.ss
  have hrs := hp.rs
  have hap := hp.ok.ap
  have hlen := hp.len
  obtain ⟨L, hL⟩ : ∃ L, snpL pt = L := ⟨_, rfl⟩
  have hsnp : snpB pt = fixL (crcU 0 L) ++ L := by unfold snpB; rw [hL]
  rw [hL] at hlen
  have hC1 := takeFixed_any w (Bl (snpB pt)) (by rw [hsnp, Bl_size, List.length_append, fixL_len]; omega) (by rw [hsnp, Bl_size, List.length_append, fixL_len]; omega)
  rw [Lb_Bl, hsnp, ← fixL_len (crcU 0 L), List.take_left, List.drop_left, unfix_fix _ (crcU_lt 0 L)] at hC1
  have HC1 := Lib.hid hC1
  obtain ⟨s, hs⟩ : ∃ s, Bl (snpB pt) = s := ⟨_, rfl⟩
  rw [← hsnp, hs] at HC1
  rw [hs]
  have HL := Lib.hid hL
  have HSM := Lib.hid hp
  have HTb := Lib.hid hT
  have h2 := hT.lt
  obtain ⟨c, hc⟩ : ∃ c, crcU 0 L = c := ⟨_, rfl⟩
  have HCE := Lib.hid hc
  rw [hc] at HC1
  clear hT hp hC1 hsnp hs hL hc
  go_enter Tryz.func11, Tryz.ntmps11
  go_wp2_with fail
  refine HC1.out.mono ?_
  rintro e w1 ⟨rfl, hB1⟩
  have hC2 := sum_any w1 (Bl L) (by rw [Bl_size]; omega)
  rw [Lb_Bl, HCE.out] at hC2
  have HC2 := Lib.hid hC2
  have HB1 := Lib.hid hB1
  clear hB1 hC2 HC1
  go_wp2_with fail
  refine HC2.out.mono ?_
  rintro e w2 ⟨rfl, hB2⟩
  have HB2 := Lib.hid (HB1.out.trans (hB2.mono HB1.out.size))
  have hB3 : Below w2.heap.size w2 (w2.alloc (.cells #[.string (Bl L), .int .i64 0] 103)) := (Below.refl _ w2).alloc (Nat.le_refl _) _
  have hp3 := heap_alloc_new w2 (.cells #[.string (Bl L), .int .i64 0] 103)
  have hsz3 : (w2.alloc (.cells #[.string (Bl L), .int .i64 0] 103)).heap.size = w2.heap.size + 1 := World.size_alloc _ _
  clear hB2 HC2
  go_upto_region 7 with (fail)
  generalize w2.alloc (.cells #[.string (Bl L), .int .i64 0] 103) = w3 at hB3 hp3 hsz3 ⊢
  obtain ⟨p, hpe⟩ : ∃ p, w2.heap.size = p := ⟨_, rfl⟩
  have HB3 := Lib.hid (HB2.out.trans (hB3.mono HB2.out.size))
  have hp2 : 2 ≤ p := by have := HB2.out.size; omega
  have HPW := Lib.hid (show w.heap.size ≤ p by have := HB2.out.size; omega)
  rw [hpe] at hp3 hsz3 ⊢
  have hR3 : SRd w3 p (numL pt.ap.toNat ++ (numL pt.ss.length ++ (pt.ss.flatMap strmL ++ (numL pt.rs.length ++ pt.rs.flatMap rqsL)))) := by
    have : snpL pt = _ := HL.out
    unfold snpL at this
    rw [this]
    exact hp3
  have hlen2 := congrArg List.length HL.out
  unfold snpL at hlen2
  simp only [List.length_append] at hlen2
  have hlen3 : (pt.ss.flatMap strmL).length + (numL pt.rs.length).length + (pt.rs.flatMap rqsL).length + (numL pt.ss.length).length ≤ 500000 := by omega
  obtain ⟨ap, hape⟩ : ∃ ap, pt.ap = ap := ⟨_, rfl⟩
  have HAP := Lib.hid hape
  rw [hape] at hap hR3
  have HC := Lib.hid (snumber_ok w3 p ap.toNat (by omega) (numL pt.ss.length ++ (pt.ss.flatMap strmL ++ (numL pt.rs.length ++ pt.rs.flatMap rqsL))) (by simp only [List.length_append]; omega) _ rfl hR3)
  rw [show ((ap.toNat : Nat) : Int) = ap by omega] at HC
  have HS3 := Lib.hid hsz3
  have HT3 := Lib.hid (HTb.out.fresh HB3.out)
  clear hpe hp3 hB3 hsz3 hR3 hlen2 hlen hape h2
  go_wp2_with fail
  refine HC.out.mono ?_
  rintro e w4 ⟨rfl, hR4, hK4⟩
  have hB5 : Below w4.heap.size w4 (w4.alloc (.cells #[.int .i64 ap, .slice none 0 0, .slice none 0 0] 43)) := (Below.refl _ w4).alloc (Nat.le_refl _) _
  have hq5 := heap_alloc_new w4 (.cells #[.int .i64 ap, .slice none 0 0, .slice none 0 0] 43)
  have hsz5 : (w4.alloc (.cells #[.int .i64 ap, .slice none 0 0, .slice none 0 0] 43)).heap.size = w4.heap.size + 1 := World.size_alloc _ _
  clear HC
  go_upto_region 8 with (fail)
  generalize w4.alloc (.cells #[.int .i64 ap, .slice none 0 0, .slice none 0 0] 43) = w5 at hB5 hq5 hsz5 ⊢
  obtain ⟨q, hqe⟩ : ∃ q, w4.heap.size = q := ⟨_, rfl⟩
  have hpq : p < q := by have := hK4.size; have := HS3.out; omega
  rw [hqe] at hq5 hsz5 ⊢
  have hR5 := hR4.fresh hB5
  have hK5 := hK4.fresh hB5
  have HQ5 := Lib.hid hq5
  obtain ⟨B, hBe⟩ : ∃ B, B = q + 1 := ⟨_, rfl⟩
  have hBS5 : B ≤ w5.heap.size := by omega
  have hqB : q < B := by omega
  have HQ3 := Lib.hid (show w3.heap.size ≤ q by have := hK4.size; omega)
  have HC := Lib.hid (snumber_ok w5 p pt.ss.length (by omega) (pt.ss.flatMap strmL ++ (numL pt.rs.length ++ pt.rs.flatMap rqsL)) (by simp only [List.length_append]; omega) _ rfl hR5)
  have HK5 := Lib.hid hK5
  have HBS5 := Lib.hid hBS5
  clear hqe hBe hsz5 hB5 hq5 hR4 hK4 hR5 hK5 hBS5
  go_wp2_with fail
  refine HC.out.mono ?_
  rintro e w6 ⟨rfl, hR6, hK6⟩
  have HR6 := Lib.hid hR6
  have HQ6 := Lib.hid (hK6.grownTo HQ5.out (fun e => by omega))
  have HK6 := Lib.hid (HK5.out.trans hK6)
  have HBS6 := Lib.hid (Nat.le_trans HBS5.out hK6.size)
  clear hR6 hK6 HC
  go_wp2_with fail
  go_loopw [10, 11] (fun i _ wr => TkS w3 p q B ap pt (numL pt.rs.length ++ pt.rs.flatMap rqsL) i wr) (fun i _ _ => pt.ss.length - (intOf i).toNat)
  case atStart => exact ⟨0, .slice none 0 0, [], Nat.zero_le _, rfl, by rw [List.drop_zero]; exact HR6.out, HQ6.out, SmRow.nil _ _ _, by rw [List.take_zero]; rfl, HK6.out, HBS6.out⟩
  case round =>
    obtain ⟨k, sv, S, hk, rfl, hR7, hQ7, hS7, hM7, hK7, hB7⟩ := hrel
    have hSL : S.length = k := by have := congrArg List.length hM7; rw [List.length_map, List.length_take] at this; omega
    obtain ⟨As, cs, rfl, _, _⟩ := hS7.1.shape_ hSL
    have y1 : wr.cell? ⟨p, 1, none⟩ = some (.int .i64 0) := cell_of_row wr p 1 _ _ _ hR7
    have HR7 := Lib.hid hR7
    have HQ7 := Lib.hid hQ7
    have HS7 := Lib.hid hS7
    have HM7 := Lib.hid hM7
    have HK7 := Lib.hid hK7
    have HB7 := Lib.hid hB7
    have HSL := Lib.hid hSL
    clear hR7 hQ7 hS7 hM7 hK7 hB7 hSL HR6 HQ6 HK6
    by_cases hlt : k < pt.ss.length
    · have d0 : decide ((k : Int) < (pt.ss.length : Int)) = true := decide_eq_true (by omega)
      have hmem := List.getElem_mem hlt
      have hsp := HSM.out.ok.sp hmem
      have hev := HSM.out.ev _ hmem
      have hdr := drop_flat strmL hlt (numL pt.rs.length ++ pt.rs.flatMap rqsL)
      have hdl := drop_flat_le strmL pt.ss k
      have hdl2 := congrArg List.length hdr
      have HTS := Lib.hid (List.take_succ_eq_append_getElem hlt)
      have hR7 := HR7.out
      rw [hdr] at hR7
      obtain ⟨X, hX⟩ : ∃ X, X = pt.ss[k] := ⟨_, rfl⟩
      rw [← hX] at hsp hev hR7 hdl2 HTS
      obtain ⟨t, ht⟩ : ∃ t, (pt.ss.drop (k + 1)).flatMap strmL ++ (numL pt.rs.length ++ pt.rs.flatMap rqsL) = t := ⟨_, rfl⟩
      rw [ht] at hR7 hdl2
      have htl : (strmL X).length + t.length ≤ 900000 := by
        simp only [List.length_append] at hdl2
        omega
      have HC := Lib.hid (sstream_ok wr (HT3.out.keep HK7.out (fun k e => by omega) HT3.out.lt) p hp2 X hsp.1 hsp.2.1 hsp.2.2 hev t htl hR7)
      have HTT := Lib.hid ht
      clear hmem hsp hev hdr hdl hdl2 hR7 hX ht htl
      go_wp2_with fail
      refine HC.out.mono ?_
      rintro x w8 ⟨y, rfl, hy, hY8, hR8, hK8⟩
      have hown := HS7.out.1.lt
      have hYA : SmAt w8 (fun b => B ≤ b ∧ (Value.slice As k cs).ownBlock ≠ some b) y := hY8.mono (fun b _ hb => ⟨by have := HB7.out; omega, fun e => by have := (hown b e).2; omega⟩)
      have hQ8 := hK8.grownTo HQ7.out (fun e => by omega)
      have hS8 := HS7.out.keep hK8 (fun k _ h e => by omega)
      have hK8' := HK7.out.trans hK8
      have hB8 := Nat.le_trans HB7.out hK8.size
      obtain ⟨⟨yn, ye, yp⟩, ev, pv, o1, o2⟩ := y
      obtain ⟨Ae, ce, hE, _, _⟩ := hY8.1.shape
      obtain ⟨Ap, cp, hP, _, _⟩ := hY8.2.shape
      change ev = .slice Ae ye.length ce at hE
      change pv = .slice Ap yp.length cp at hP
      subst hE hP
      have hB9 : Below w8.heap.size w8 (w8.alloc (.cells #[.string yn, .slice Ae ye.length ce, .slice Ap yp.length cp] 90)) := (Below.refl _ w8).alloc (Nat.le_refl _) _
      have hx9 := heap_alloc_new w8 (.cells #[.string yn, .slice Ae ye.length ce, .slice Ap yp.length cp] 90)
      clear hown HC y1 HR7 HQ7 HS7 HK7
      go_upto_region 13 with (fail)
      generalize w8.alloc (.cells #[.string yn, .slice Ae ye.length ce, .slice Ap yp.length cp] 90) = w9 at hB9 hx9 ⊢
      have z0 : w9.cell? ⟨w8.heap.size, 0, none⟩ = some (.string yn) := cell_of_row w9 _ 0 _ _ _ hx9
      have z1 : w9.cell? ⟨w8.heap.size, 1, none⟩ = some (.slice Ae ye.length ce) := cell_of_row w9 _ 1 _ _ _ hx9
      have z2 : w9.cell? ⟨w8.heap.size, 2, none⟩ = some (.slice Ap yp.length cp) := cell_of_row w9 _ 2 _ _ _ hx9
      have hq9 := (Keeps.of_fresh hB9 (fun _ => False)).grownTo hQ8 id
      have y1 : w9.cell? ⟨q, 1, none⟩ = some (.slice As k cs) := cell_of_row w9 q 1 _ _ _ hq9
      have HY := Lib.hid hy
      have HYA := Lib.hid (hYA.fresh hB9)
      have HQ9 := Lib.hid hq9
      have HS9 := Lib.hid (hS8.fresh hB9)
      have HK9 := Lib.hid (hK8'.fresh hB9)
      have HR9 := Lib.hid (hR8.fresh hB9)
      have HB9 := Lib.hid (Nat.le_trans hB8 hB9.size)
      clear hy hYA hY8 hR8 hK8 hQ8 hS8 hK8' hB8 hB9 hx9 hq9
      go_wp2_with (at_builtin; refine elStream.append _ (by rfl) _ _ rfl B _ S rfl (HS9.out.1.fresh ((Below.refl _ _).alloc (Nat.le_refl _) _)) _ _ [⟨⟨yn, ye, yp⟩, .slice Ae ye.length ce, .slice Ap yp.length cp, o1, o2⟩] rfl (Sl.single (heap_alloc_new _ _) rfl) ?_ ?_ ?_; (have := HSL.out; simp only [List.length_singleton]; omega); (have := HB9.out; simp only [World.size_alloc]; omega); intro v' w10 hown' hgrow hat; (obtain ⟨As', cs', rfl, _, _⟩ := hown'.shape_ (n := k + 1) (by rw [List.length_append, HSL.out]; rfl)); have hnx := (fun e => by have := (HS9.out.1.lt q e).1; omega : ¬ ((Value.slice As k cs).ownBlock = some q)); have hq10 := (Keeps.of_grown hgrow).grownTo ((Keeps.of_fresh ((Below.refl w9.heap.size w9).alloc (Nat.le_refl _) _) (fun _ => False)).grownTo HQ9.out id) hnx; have m3 := cell_of_row w10 q 1 _ _ _ hq10; have f3 := frozen_block hq10 1; have HQ10 := Lib.hid hq10; have HO10 := Lib.hid hown'; have HGR := Lib.hid hgrow; have HAT := Lib.hid hat; clear hown' hgrow hat hq10 hnx)
      go_roundw
      case rel =>
        have hal := (Below.refl w9.heap.size w9).alloc (Nat.le_refl _) (.cells #[.string yn, .slice Ae ye.length ce, .slice Ap yp.length cp] 90)
        have hgr := Keeps.of_grown HGR.out
        have hkS := Keeps.one w10 q 1 (.slice As' (k + 1) cs')
        have hnB : ∀ b, (Value.slice As k cs).ownBlock = some b → B ≤ b := fun b e => (HS9.out.1.lt b e).1
        have hsz := HGR.out.size
        rw [World.size_alloc] at hsz
        refine ⟨k + 1, _, S ++ [⟨⟨yn, ye, yp⟩, .slice Ae ye.length ce, .slice Ap yp.length cp, o1, o2⟩], hlt, by go_num, ?_, setCell_block' (o := 1) HQ10.out _, (SmRow.snoc (HS9.out.fresh hal) (HYA.out.fresh hal) HO10.out HGR.out HAT.out).keep hkS (fun k _ h e => by omega), ?_, ?_, by have := hkS.size; have := HB9.out; omega⟩
        · rw [HTT.out]
          exact hkS.grownTo (hgr.grownTo ((Keeps.of_fresh hal (fun _ => False)).grownTo HR9.out id) (fun e => by have := hnB p e; omega)) (fun e => by omega)
        · rw [List.map_append, HM7.out, HTS.out, ← HY.out]
          rfl
        · exact ((HK9.out.fresh hal).andThen hgr (fun i hi e => by have := hnB i e; have := HQ3.out; omega)).andThen hkS (fun i hi e => by have := HQ3.out; omega)
      case measure => simp [intOf]; omega
    · have hkd : k = pt.ss.length := by omega
      subst hkd
      have d0 : decide ((pt.ss.length : Int) < (pt.ss.length : Int)) = false := by simp
      have hR8 := HR7.out
      rw [List.drop_length, List.flatMap_nil, List.nil_append] at hR8
      have hM8 := HM7.out
      rw [List.take_length] at hM8
      have hsms := HS7.out.sms
      rw [hM8] at hsms
      have HSMS := Lib.hid hsms
      have HC := Lib.hid (snumber_ok wr p pt.rs.length (by omega) (pt.rs.flatMap rqsL) (by omega) _ rfl hR8)
      clear hR8 hM8 hsms HR7 HS7 HM7
      go_wp2_with fail
      refine HC.out.mono ?_
      rintro e w7 ⟨rfl, hR9, hK9⟩
      have HR9 := Lib.hid hR9
      have HQ9 := Lib.hid (hK9.grownTo HQ7.out (fun e => by omega))
      have HS9 := Lib.hid (HSMS.out.keep hK9 (fun k _ h e => by omega))
      have HK9 := Lib.hid (HK7.out.trans hK9)
      have HB9 := Lib.hid (Nat.le_trans HB7.out hK9.size)
      clear hR9 hK9 HC y1 HSMS HQ7 HK7 HB7
      obtain ⟨sv, hsv⟩ : ∃ sv, Value.slice As pt.ss.length cs = sv := ⟨_, rfl⟩
      rw [hsv] at HS9 HQ9
      have HSV := Lib.hid hsv
      clear hsv
      go_wp2_with fail
      go_loopw [12, 13] (fun i _ wr => TkR w3 p q B ap pt sv i wr) (fun i _ _ => pt.rs.length - (intOf i).toNat)
      case atStart => exact ⟨0, .slice none 0 0, Nat.zero_le _, rfl, by rw [List.drop_zero, List.append_nil]; exact HR9.out, HQ9.out, HS9.out.mono (fun k _ h => ⟨h, by simp [Value.ownBlock]⟩), by rw [List.take_zero]; exact Own.nil_ _ _ _ _ _, HK9.out, HB9.out⟩
      case round =>
        obtain ⟨k, rv, hk, rfl, hR7, hQ7, hS7, hO7, hK7, hB7⟩ := hrel
        obtain ⟨Ar, cr, rfl, _, _⟩ := hO7.shape_ (show (pt.rs.take k).length = k by rw [List.length_take]; omega)
        have y1 : wr.cell? ⟨p, 1, none⟩ = some (.int .i64 0) := cell_of_row wr p 1 _ _ _ hR7
        have HR7 := Lib.hid hR7
        have HQ7 := Lib.hid hQ7
        have HS7 := Lib.hid hS7
        have HO7 := Lib.hid hO7
        have HK7 := Lib.hid hK7
        have HB7 := Lib.hid hB7
        clear hR7 hQ7 hS7 hO7 hK7 hB7 HR9 HQ9 HS9 HK9
        by_cases hlt : k < pt.rs.length
        · have d0 : decide ((k : Int) < (pt.rs.length : Int)) = true := decide_eq_true (by omega)
          have hrq := HSM.out.ok.rq (List.getElem_mem hlt)
          have hdr := drop_flat rqsL hlt []
          have hdl := drop_flat_le rqsL pt.rs k
          have hdl2 := congrArg List.length hdr
          have HTS := Lib.hid (List.take_succ_eq_append_getElem hlt)
          have hR7 := HR7.out
          rw [hdr] at hR7
          obtain ⟨X, hX⟩ : ∃ X, X = pt.rs[k] := ⟨_, rfl⟩
          rw [← hX] at hrq hR7 hdl2 HTS
          obtain ⟨t, ht⟩ : ∃ t, (pt.rs.drop (k + 1)).flatMap rqsL ++ [] = t := ⟨_, rfl⟩
          rw [ht] at hR7 hdl2
          have htl : t.length ≤ 900000 := by
            simp only [List.length_append, List.length_nil] at hdl2
            omega
          have HC := Lib.hid (srequest_ok wr p X hrq t (by omega) hR7)
          have HTT := Lib.hid ht
          clear hrq hdr hdl hdl2 hR7 hX ht htl
          go_wp2_with fail
          refine HC.out.mono ?_
          rintro x w8 ⟨rfl, hR8, hK8⟩
          have hQ8 := hK8.grownTo HQ7.out (fun e => by omega)
          have hS8 := HS7.out.keep hK8 (fun k _ h e => by omega)
          have hO8 := HO7.out.keep hK8 (fun b hb e => by have := (HO7.out.lt b hb).1; omega)
          have hK8' := HK7.out.trans hK8
          have hB8 := Nat.le_trans HB7.out hK8.size
          obtain ⟨r1, r2, ⟨r3, r4, r5, r6⟩⟩ := X
          have hB9 : Below w8.heap.size w8 (w8.alloc (.cells #[.int .i64 r1, .int .i64 r2, .int .i64 r3, .int .i64 r4, .int .i64 r5, .int .i64 r6] 94)) := (Below.refl _ w8).alloc (Nat.le_refl _) _
          have hx9 := heap_alloc_new w8 (.cells #[.int .i64 r1, .int .i64 r2, .int .i64 r3, .int .i64 r4, .int .i64 r5, .int .i64 r6] 94)
          clear HC y1 HR7 HQ7 HS7 HO7 HK7
          go_upto_region 19 with (fail)
          generalize w8.alloc (.cells #[.int .i64 r1, .int .i64 r2, .int .i64 r3, .int .i64 r4, .int .i64 r5, .int .i64 r6] 94) = w9 at hB9 hx9 ⊢
          have z0 : w9.cell? ⟨w8.heap.size, 0, none⟩ = some (.int .i64 r1) := cell_of_row w9 _ 0 _ _ _ hx9
          have z1 : w9.cell? ⟨w8.heap.size, 1, none⟩ = some (.int .i64 r2) := cell_of_row w9 _ 1 _ _ _ hx9
          have z2 : w9.cell? ⟨w8.heap.size, 2, none⟩ = some (.int .i64 r3) := cell_of_row w9 _ 2 _ _ _ hx9
          have z3 : w9.cell? ⟨w8.heap.size, 3, none⟩ = some (.int .i64 r4) := cell_of_row w9 _ 3 _ _ _ hx9
          have z4 : w9.cell? ⟨w8.heap.size, 4, none⟩ = some (.int .i64 r5) := cell_of_row w9 _ 4 _ _ _ hx9
          have z5 : w9.cell? ⟨w8.heap.size, 5, none⟩ = some (.int .i64 r6) := cell_of_row w9 _ 5 _ _ _ hx9
          have hq9 := (Keeps.of_fresh hB9 (fun _ => False)).grownTo hQ8 id
          have y2 : w9.cell? ⟨q, 2, none⟩ = some (.slice Ar k cr) := cell_of_row w9 q 2 _ _ _ hq9
          have HQ9 := Lib.hid hq9
          have HS9 := Lib.hid (hS8.fresh hB9)
          have HO9 := Lib.hid (hO8.fresh hB9)
          have HK9 := Lib.hid (hK8'.fresh hB9)
          have HR9 := Lib.hid (hR8.fresh hB9)
          have HB9 := Lib.hid (Nat.le_trans hB8 hB9.size)
          clear hR8 hK8 hQ8 hS8 hO8 hK8' hB8 hB9 hx9 hq9
          go_wp2_with (at_builtin; refine elRequest.append _ (by rfl) _ _ rfl B _ (pt.rs.take k) rfl (HO9.out.fresh ((Below.refl _ _).alloc (Nat.le_refl _) _)) _ _ [⟨r1, r2, ⟨r3, r4, r5, r6⟩⟩] rfl (Sl.single (heap_alloc_new _ _) rfl) ?_ ?_ ?_; (simp only [List.length_take, List.length_singleton]; omega); (have := HB9.out; simp only [World.size_alloc]; omega); intro v' w10 hown' hgrow hat; (obtain ⟨Ar', cr', rfl, _, _⟩ := hown'.shape_ (n := k + 1) (by simp; omega)); have hnx := (fun e => by have := (HO9.out.lt q e).1; omega : ¬ ((Value.slice Ar k cr).ownBlock = some q)); have hq10 := (Keeps.of_grown hgrow).grownTo ((Keeps.of_fresh ((Below.refl w9.heap.size w9).alloc (Nat.le_refl _) _) (fun _ => False)).grownTo HQ9.out id) hnx; have m3 := cell_of_row w10 q 2 _ _ _ hq10; have f3 := frozen_block hq10 2; have HQ10 := Lib.hid hq10; have HO10 := Lib.hid hown'; have HGR := Lib.hid hgrow; have HAT := Lib.hid hat; clear hown' hgrow hat hq10 hnx)
          go_roundw
          case rel =>
            have hal := (Below.refl w9.heap.size w9).alloc (Nat.le_refl _) (.cells #[.int .i64 r1, .int .i64 r2, .int .i64 r3, .int .i64 r4, .int .i64 r5, .int .i64 r6] 94)
            have hgr := Keeps.of_grown HGR.out
            have hkS := Keeps.one w10 q 2 (.slice Ar' (k + 1) cr')
            have hnB : ∀ b, (Value.slice Ar k cr).ownBlock = some b → B ≤ b := fun b e => (HO9.out.lt b e).1
            have hsz := HGR.out.size
            rw [World.size_alloc] at hsz
            refine ⟨k + 1, _, hlt, by go_num, ?_, setCell_block' (o := 2) HQ10.out _, ?_, ?_, ?_, by have := hkS.size; have := HB9.out; omega⟩
            · rw [HTT.out]
              exact hkS.grownTo (hgr.grownTo ((Keeps.of_fresh hal (fun _ => False)).grownTo HR9.out id) (fun e => by have := hnB p e; omega)) (fun e => by omega)
            · have h1 := (HS9.out.mono (G' := fun b => (B ≤ b ∧ (Value.slice Ar k cr).ownBlock ≠ some b) ∧ b < w9.heap.size) (fun b hb h => ⟨h, hb⟩)).fresh hal
              have h2 := (h1.keep hgr (fun b _ h e => h.1.2 e)).keep hkS (fun b _ h e => by have := h.1.1; omega)
              refine h2.mono (fun b _ h => ⟨h.1.1, fun e => ?_⟩)
              rcases HAT.out with a | a
              · rw [a] at e; exact h.1.2 e
              · rw [a] at e
                have := Option.some.inj e
                rw [World.size_alloc] at this
                have := h.2
                omega
            · rw [HTS.out]
              exact HO10.out.keep hkS (fun b hb e => by have := (HO10.out.lt b hb).1; omega)
            · exact ((HK9.out.fresh hal).andThen hgr (fun i hi e => by have := hnB i e; have := HQ3.out; omega)).andThen hkS (fun i hi e => by have := HQ3.out; omega)
          case measure => simp [intOf]; omega
        · have hkd : k = pt.rs.length := by omega
          subst hkd
          have d0 : decide ((pt.rs.length : Int) < (pt.rs.length : Int)) = false := by simp
          have hR8 := HR7.out
          rw [List.drop_length, List.flatMap_nil, List.append_nil] at hR8
          have hO8 := HO7.out
          rw [List.take_length] at hO8
          have hPA : PtAt wr (fun b => b < wr.heap.size) sv (.slice Ar pt.rs.length cr) pt := ⟨HS7.out.mono (fun b hb _ => hb), (hO8.sl (fun _ => rfl)).bound.mono (fun b hb _ => hb)⟩
          have HOF := Lib.hid (of_any wr (HT3.out.keep HK7.out (fun k e => by omega) HT3.out.lt) (fun b => b < wr.heap.size) (fun k hk => hk) pt _ _ hPA (fun x hx => ⟨by have := (HSM.out.ok.sp hx).1; omega, fun e he => rightE_ok (HSM.out.ok.evs hx e he)⟩) (ones_len HSM.out) (by omega))
          rw [HAP.out] at HOF
          have hR8 : wr.heap[p]? = some (.cells #[.string ⟨#[]⟩, .int .i64 0] 103 (0, 0)) := hR8
          have x0 := cell_of_row wr q 0 _ _ _ HQ7.out
          have x1 := cell_of_row wr q 1 _ _ _ HQ7.out
          have x2 := cell_of_row wr q 2 _ _ _ HQ7.out
          obtain ⟨As', hsv⟩ : ∃ a : Unit, Value.slice As pt.ss.length cs = sv := ⟨(), HSV.out⟩
          subst hsv
          have HR8 := Lib.hid hR8
          clear hR8 hO8 hPA
          go_wp2_with fail
          refine HOF.out.mono ?_
          rintro e w8 ⟨hB8, hok, _⟩
          obtain ⟨q4, F4, W4, rfl, hS4, hF4⟩ := hok HSM.out.ok
          have hr8 := (Keeps.of_fresh hB8 (fun _ => False)).grownTo HR8.out id
          have y0 : w8.cell? ⟨p, 0, none⟩ = some (.string ⟨#[]⟩) := cell_of_row w8 p 0 _ _ _ hr8
          have HS4 := Lib.hid hS4
          have HBF := Lib.hid ((HB3.out.trans (HK7.out.below (by have := HB3.out.size; omega) (fun k e => by have := HPW.out; omega))).trans (hB8.mono (by have := HB3.out.size; have := HK7.out.size; omega)))
          have HF4 := Lib.hid (show ∀ k, F4 k → w.heap.size ≤ k from fun k hk => by have := hF4 k hk; have := HB3.out.size; have := HK7.out.size; omega)
          clear hok hB8 hS4 hF4 hr8 x0 x1 x2 y1
          go_wp2_with fail
          go_ret2
          exact ⟨q4, F4, W4, rfl, HS4.out, HF4.out, HBF.out⟩
end Go.Proofs.YthebmbhdlkldiaaGreatDoor

/- What the statements' loops 'e := l[i]; e.Pos = s.Applied() + 1; s.Apply(e)' keep. No condition. -/
namespace Go.Proofs.YthebmbhdlkldiaaGreatDoor
open Go.RowKit Go.Bl

/-- Entries played so far: w is where the arguments lie, I what is known of the state. -/
def PlayRel (I : St → Prop) (w : World) (p n : Nat) (i : Value) (wr : World) : Prop :=
  ∃ (k : Nat) (s : St) (F W : Nat → Prop), k ≤ n ∧ i = .int .i64 k ∧ StAt wr p s F W ∧ (∀ j, F j → w.heap.size ≤ j) ∧ I s ∧ s.L.length ≤ 8 * k ∧ s.T.length ≤ k ∧ (0 ≤ s.ap ∧ s.ap ≤ k) ∧ Below w.heap.size w wr
/-- An entry that stands at another place. -/
def Ent.at_ (a : Ent) (pos : Int) : Ent := { a with pos := pos }
theorem PlayRel.step {I : St → Prop} {w w2 w3 : World} {p n k : Nat} {s : St} {a : Ent} {F W : Nat → Prop} (hk : k < n) (hF : ∀ j, F j → w.heap.size ≤ j) (hB : Below w.heap.size w w2) (h2 : StAt w2 p s F W)
    (hI : I (applyS s a).1) (hL : s.L.length ≤ 8 * k) (hT : s.T.length ≤ k) (ha : 0 ≤ s.ap ∧ s.ap ≤ k) (h : Applied w2 w3 p (applyS s a).1 F W) {i : Value} (hi : i = .int .i64 ((k + 1 : Nat) : Int)) : PlayRel I w p n i w3 := by
  obtain ⟨W', h1, h3, hK⟩ := h
  obtain ⟨g1, g2, g3, _⟩ := apply_grows s a
  refine ⟨k + 1, _, _, W', hk, hi, h3, fun j hj => ?_, hI, by omega, by omega, by omega, ?_⟩
  · rcases hj with hj | hj
    · exact hF j hj
    · exact Nat.le_trans hB.size hj.1
  · exact Below.keep hB hK hB.size (fun j hj => hF j (h2.wf j hj))
theorem Applied.below {w w2 w3 : World} {p : Nat} {s s' : St} {F W : Nat → Prop} (h : Applied w2 w3 p s' F W) (hB : Below w.heap.size w w2) (h2 : StAt w2 p s F W) (hF : ∀ j, F j → w.heap.size ≤ j) :
    ∃ F' W', StAt w3 p s' F' W' ∧ (∀ j, F' j → w.heap.size ≤ j) ∧ (∀ k, W' k → W k ∨ w2.heap.size ≤ k) ∧ Keeps W w2 w3 ∧ Below w.heap.size w w3 := by
  obtain ⟨W', h1, h3, hK⟩ := h
  refine ⟨_, W', h3, fun j hj => ?_, h1, hK, Below.keep hB hK hB.size (fun j hj => hF j (h2.wf j hj))⟩
  rcases hj with hj | hj
  · exact hF j hj
  · exact Nat.le_trans hB.size hj.1

/-! ### What a state expects, in plain words -/
def exE (pos expect : Int) (v : Value) : Ent := ⟨pos, 1, ⟨#[115]⟩, expect, 137438953472, 137438953472, v, List.replicate 3 kEv⟩
theorem exE_right {pos expect : Int} (v : Value) (hp : 1 ≤ pos ∧ pos ≤ 100) (he : -1 ≤ expect ∧ expect ≤ 274877906944) : rightB (exE pos expect v) = true := by
  have hn : nameB ⟨#[115]⟩ = true := by kernel_rfl
  have hk : (List.replicate 3 kEv).any (fun e => !rightE e) = false := by kernel_rfl
  have hnum : numB 137438953472 = true := by decide
  have h1 : numB pos = true := by simp only [numB, Bool.and_eq_true, decide_eq_true_eq]; omega
  have h2 : numB 1 = true := by decide
  have hf : fitsI (exE pos expect v) = 0 := by
    unfold fitsI exE
    simp only [hn, hnum, hk]
    rw [if_neg (by decide), if_neg (by omega), if_neg (by decide), if_neg (by decide), if_neg (by decide), if_neg (by decide), if_neg (by decide)]
  simp only [rightB, hf]
  show (numB pos && (numB 1 && _)) = true
  rw [h1, h2]
  decide
theorem ofS_mk_same (es : List Ev) (s : ByteArray) (p : Int) : Idx.ofS (es.map (Idx.mkOne s p)) s = es.map fun e => (⟨p, e⟩ : Idx.Kp) := by
  induction es with
  | nil => rfl
  | cons e es ih =>
    simp only [List.map_cons]
    rw [show Idx.mkOne s p e :: es.map (Idx.mkOne s p) = [Idx.mkOne s p e] ++ es.map (Idx.mkOne s p) from rfl, Idx.ofS_append, ih]
    simp [Idx.ofS, Idx.mkOne, Idx.One.kp]
theorem ofS_mk_other (es : List Ev) {s t : ByteArray} (h : t ≠ s) (p : Int) : Idx.ofS (es.map (Idx.mkOne t p)) s = [] := by
  simp only [Idx.ofS, List.map_eq_nil_iff, List.filter_eq_nil_iff, List.mem_map]
  rintro o ⟨e, _, rfl⟩
  simp [Idx.mkOne, h]
/-- What is there of the stream behind a batch that is done. -/
theorem ofS_addS (s : St) (a : Ent) : Idx.ofS (addS s a) a.stream = Idx.ofS s.L a.stream ++ a.evs.map fun e => (⟨a.pos, e⟩ : Idx.Kp) := by
  rw [addS, Idx.ofS_append, ofS_mk_same]
theorem expects_done {s : St} {a : Ent} (hr : rightB a = true) (hp : a.pos = s.ap + 1) (hw : (Ded.lookL s.T a.session a.seq).2 = 0) :
    (applyS s a).2.2 = 0 ∧ ((a.expect = -1 ∨ a.expect = ((Idx.ofS s.L a.stream).length : Int)) → (applyS s a).2.1 = ⟨1, a.pos, (Idx.ofS s.L a.stream).length, (Idx.ofS s.L a.stream).length + a.evs.length⟩ ∧
      Idx.ofS (applyS s a).1.L a.stream = Idx.ofS s.L a.stream ++ a.evs.map fun e => (⟨a.pos, e⟩ : Idx.Kp)) ∧
    (¬ (a.expect = -1 ∨ a.expect = ((Idx.ofS s.L a.stream).length : Int)) → (applyS s a).2.1 = ⟨2, a.pos, (Idx.ofS s.L a.stream).length, (Idx.ofS s.L a.stream).length⟩ ∧ Idx.ofS (applyS s a).1.L a.stream = Idx.ofS s.L a.stream) := by
  rcases apply_next hr hp with ⟨o, e1, _⟩ | ⟨e1, _⟩ | ⟨_, _, _, e⟩
  · rw [e1] at hw; cases hw
  · omega
  · rw [e]
    refine ⟨rfl, fun h => ⟨?_, ?_⟩, fun h => ⟨?_, ?_⟩⟩
    · show freshO s a = _
      unfold freshO verS
      rw [if_neg (by omega)]
    · show Idx.ofS (freshL s a) _ = _
      unfold freshL verS
      rw [if_neg (by omega), ofS_addS]
    · show freshO s a = _
      unfold freshO verS
      rw [if_pos (by omega)]
    · show Idx.ofS (freshL s a) _ = _
      unfold freshL verS
      rw [if_pos (by omega)]
theorem apply_ok {s : St} {a : Ent} (hr : rightB a = true) (hp : a.pos = s.ap + 1) : (applyS s a).2.2 = 0 := by
  rcases apply_next hr hp with ⟨o, _, _, _, e⟩ | ⟨_, _, e⟩ | ⟨_, _, _, e⟩ <;> rw [e]
theorem pos_added (l : List Idx.Kp) (e : Ev) (es : List Ev) (p : Int) : Idx.posOf (l ++ (e :: es).map fun e => (⟨p, e⟩ : Idx.Kp)) ((l.length : Int) + 1) = p := by
  unfold Idx.posOf
  rw [if_neg (by rw [List.length_append, List.length_map, List.length_cons]; omega), show ((l.length : Int) + 1 - 1).toNat = l.length by omega]
  simp
end Go.Proofs.YthebmbhdlkldiaaGreatDoor

namespace Go.Proofs.YthebmbhdlkldiaaGreatDoor
open Go.RowKit Go.Bl
attribute [local go_sem ↓] Go.wp_at_zero Go.wp_at_succ

/-- Entries that fit are small. -/
theorem EntOk.small {w : World} {G : Nat → Prop} {a : Ent} (h : EntOk w G a) (hf : entF a = true) : BatchSm w G a := by
  obtain ⟨q1, q2, q3⟩ := entF_at hf
  exact ⟨h.1, fun e he => ⟨Nat.le_trans (q3 e he).1 (by decide), Nat.le_trans (q3 e he).2 (by decide)⟩, Nat.le_trans q1 (by decide), Nat.le_trans q2 (by decide)⟩
theorem EntOk.batch {w : World} {G : Nat → Prop} {a : Ent} (h : EntOk w G a) (hf : entF a = true) : BatchOk w G a :=
  ⟨h.1, h.2.1, h.2.2.1, Nat.le_trans (entF_at hf).2.1 (by decide)⟩
theorem EntsOk.mono {w : World} {G G' : Nat → Prop} {v : Value} {l : List Ent} (h : EntsOk w G v l) (hG : ∀ k, k < w.heap.size → G k → G' k) : EntsOk w G' v l :=
  ⟨h.1.mono hG, fun a ha => ⟨(h.2 a ha).1.mono hG, (h.2 a ha).2⟩⟩
theorem StAt.okL {w : World} {p : Nat} {s : St} {F W : Nat → Prop} (h : StAt w p s F W) : Ded.OkL s.T := by
  obtain ⟨px, pt, FX, FT, GT, h⟩ := h
  obtain ⟨bm, R, h, _⟩ := h.tab
  exact h.ok
theorem apply_str {s : St} {a : Ent} {n : Nat} (h : ∀ o ∈ s.L, o.stream.size ≤ n) (ha : a.stream.size ≤ n) : ∀ o ∈ (applyS s a).1.L, o.stream.size ≤ n := by
  have hf : ∀ o ∈ freshL s a, o.stream.size ≤ n := by
    unfold freshL addS
    split
    · exact h
    · intro o ho
      rcases List.mem_append.1 ho with e | e
      · exact h o e
      · obtain ⟨z, _, rfl⟩ := List.mem_map.1 e
        exact ha
  unfold applyS
  split
  · exact h
  · split
    · exact h
    · split
      · exact h
      · split
        · exact h
        · exact hf
/-- A state that k entries made. -/
structure SOk (s : St) (k : Nat) : Prop where
  lL : s.L.length ≤ 8 * k
  lT : s.T.length ≤ k
  ap : 0 ≤ s.ap ∧ s.ap ≤ k
  str : ∀ o ∈ s.L, o.stream.size ≤ 300
  rch : Rch s
theorem SOk.new : SOk St.new 0 := ⟨by simp [St.new], by simp [St.new], by simp [St.new], by simp [St.new], Rch.new⟩
theorem SOk.step {s : St} {k : Nat} (h : SOk s k) {a : Ent} (ha : a.stream.size ≤ 300) (hk : k < 1000) : SOk (applyS s a).1 (k + 1) := by
  obtain ⟨g1, g2, g3, _⟩ := apply_grows s a
  have h1 := h.lL
  have h2 := h.lT
  have h3 := h.ap
  exact ⟨by omega, by omega, by omega, apply_str h.str ha, h.rch.step (by omega)⟩
theorem SOk.more {s : St} {k j : Nat} (h : SOk s k) (hj : k ≤ j) : SOk s j := ⟨by have := h.lL; omega, by have := h.lT; omega, by have := h.ap; omega, h.str, h.rch⟩
/-- Where an entry leads that is put at the next place. -/
def stepS (s : St) (a : Ent) : St := (applyS s (a.at_ (s.ap + 1))).1
def madeS (l : List Ent) : St := l.foldl stepS St.new
theorem madeS_succ {l : List Ent} {k : Nat} (h : k < l.length) : madeS (l.take (k + 1)) = stepS (madeS (l.take k)) l[k] := by
  unfold madeS
  rw [List.take_succ_eq_append_getElem h, List.foldl_append]
  rfl
/-- Both states, behind what there was. -/
structure Made (w0 wr : World) (p m : Nat) (s : St) (F W M : Nat → Prop) : Prop where
  st : StAt wr p s F W
  mt : MtAt wr m s M
  fm : ∀ j, F j → ¬ M j
  fl : ∀ j, F j → w0.heap.size ≤ j
  ml : ∀ j, M j → w0.heap.size ≤ j
  bel : Below w0.heap.size w0 wr
section
variable {w0 wr wx w7 w8 w9 : World} {p m : Nat} {s s' : St} {F W M : Nat → Prop}
theorem Made.fresh (h : Made w0 wr p m s F W M) (hb : Below wr.heap.size wr wx) : Made w0 wx p m s F W M :=
  ⟨h.st.fresh hb, h.mt.fresh hb, h.fm, h.fl, h.ml, h.bel.trans (hb.mono h.bel.size)⟩
theorem Made.stl (h : Made w0 wr p m s F W M) : ∀ j, W j → j < wr.heap.size := fun j hj => h.st.lt j (h.st.wf j hj)
theorem Made.keep {G : Nat → Prop} (h : Made w0 wr p m s F W M) (hk : Keeps G wr wx) (hG : ∀ j, G j → wr.heap.size ≤ j) : Made w0 wx p m s F W M :=
  h.fresh (hk.below (Nat.le_refl _) hG)
theorem Made.after (h : Made w0 wr p m s F W M) (hA : Applied wr w7 p s' F W) : MtAt w7 m s M := by
  obtain ⟨W', _, _, hK⟩ := hA
  exact h.mt.keep hK (fun j hj e => h.fm j (h.st.wf j e) hj)
theorem Made.keepE (_h : Made w0 wr p m s F W M) (hA : Applied wr w7 p s' F W) {g : Nat} {o : Obj} (hg : wr.heap[g]? = some o) (hn : ¬ W g) : w7.heap[g]? = some o := by
  obtain ⟨W', _, _, hK⟩ := hA
  exact hK.grownTo hg hn
theorem Made.belApp (h : Made w0 wr p m s F W M) (hA : Applied wr w7 p s' F W) : Below w0.heap.size w0 w7 := by
  obtain ⟨W', _, _, hK⟩ := hA
  exact Below.keep h.bel hK h.bel.size (fun j hj => h.fl j (h.st.wf j hj))
theorem Made.step (h : Made w0 wr p m s F W M) (hA : Applied wr w7 p s' F W) (hb : Below w7.heap.size w7 w8) (hM : MApplied w8 w9 m s' M) :
    ∃ F' W' M', Made w0 w9 p m s' F' W' M' := by
  have hbA := h.belApp hA
  obtain ⟨W', h1, h3, hK⟩ := hA
  obtain ⟨hMt, hKM⟩ := hM
  have ml := h.mt.lt
  have fl := h.st.lt
  have z0 := hK.size
  have z1 := hb.size
  have z2 := hKM.size
  refine ⟨fun j => F j ∨ (wr.heap.size ≤ j ∧ j < w7.heap.size), W', fun j => M j ∨ (w8.heap.size ≤ j ∧ j < w9.heap.size), ?_⟩
  refine ⟨(h3.fresh hb).keep hKM ?_, hMt, ?_, ?_, ?_, ?_⟩
  · rintro j (hj | hj) e
    · exact h.fm j hj e
    · have := ml j e; omega
  · rintro j (hj | hj) (e | e)
    · exact h.fm j hj e
    · have := fl j hj; omega
    · have := ml j e; omega
    · omega
  · rintro j (hj | hj)
    · exact h.fl j hj
    · exact Nat.le_trans h.bel.size hj.1
  · rintro j (hj | hj)
    · exact h.ml j hj
    · have := hbA.size; omega
  · exact Below.keep (hbA.trans (hb.mono hbA.size)) hKM (Nat.le_trans hbA.size z1) (fun j hj => h.ml j hj)
end

def evN (l : List Ent) : Nat := (l.map fun a => a.evs.length).sum
theorem evN_succ {l : List Ent} {k : Nat} (h : k < l.length) : evN (l.take (k + 1)) = evN (l.take k) + l[k].evs.length := by
  unfold evN
  rw [List.take_succ_eq_append_getElem h, List.map_append, List.sum_append]
  simp
theorem evN_le (l : List Ent) (k : Nat) : evN (l.take k) ≤ evN l := by
  unfold evN
  conv => rhs; rw [← List.take_append_drop k l, List.map_append, List.sum_append]
  omega
/-- How much a state has. -/
structure SLn (s : St) (n k : Nat) : Prop where
  lL : s.L.length ≤ n
  lT : s.T.length ≤ k
  ap : 0 ≤ s.ap ∧ s.ap ≤ k
theorem SLn.step {s : St} {n k : Nat} (h : SLn s n k) (a : Ent) : SLn (applyS s a).1 (n + a.evs.length) (k + 1) := by
  obtain ⟨g1, g2, g3, _⟩ := apply_grows s a
  have h1 := h.lL
  have h2 := h.lT
  have h3 := h.ap
  refine ⟨?_, by omega, by omega⟩
  have hf := freshL_len s a
  unfold applyS
  split
  · simp only; omega
  · split
    · simp only; omega
    · split
      · simp only; omega
      · split
        · simp only; omega
        · simp only; omega
theorem SOk.made : ∀ (l : List Ent) (k : Nat), (∀ a ∈ l, a.stream.size ≤ 300) → k ≤ l.length → k ≤ 1000 → SOk (madeS (l.take k)) k
  | l, 0, _, _, _ => by rw [List.take_zero]; exact SOk.new
  | l, k + 1, h, hk, hn => by
    rw [madeS_succ (by omega)]
    exact (SOk.made l k h (by omega) (by omega)).step (show (l[k]'(by omega)).stream.size ≤ 300 from h _ (List.getElem_mem _)) (by omega)
set_option maxRecDepth 10000 in
set_option maxHeartbeats 4000000 in
theorem made_gen (w : World) (hT : Tabs w) (G : Nat → Prop) (v : Value) (l : List Ent) (h : EntsOk w G v l) (hfl : ∀ a ∈ l, (∀ e ∈ a.evs, EvSm e) ∧ a.stream.size ≤ 1000000000 ∧ a.evs.length ≤ 1000000) (hl : l.length ≤ 900000) (hev : evN l ≤ 900000) :
    Calls Tryz.prog 9 #[v] w fun e w' => ∃ p m F W M, e = .returned (.tuple #[.pointer (some ⟨p, 0, none⟩), .pointer (some ⟨m, 0, none⟩)]) ∧ Made w w' p m (madeS l) F W M := by
  have hb : EntsOk w (fun b => b < w.heap.size) v l := by
    refine ⟨(h.1.bound).mono (fun k _ hk => hk.2), fun a ha => ⟨((h.2 a ha).1.bound).mono (fun k _ hk => hk.2), (h.2 a ha).2⟩⟩
  obtain ⟨A, c, rfl, hA1, hA2⟩ := h.1.shape
  unfold maxLen at hA2
  have HTb := Lib.hid hT
  have HA := Lib.hid hb
  have HFL := Lib.hid hfl
  clear hT h hb hfl
  go_enter Tryz.func9, Tryz.ntmps9
  go_wp2_with fail
  refine (snew_any w).mono ?_
  rintro e w1 ⟨pa, W0, rfl, _, hW0, hS0, hB1⟩
  have HB1 := Lib.hid hB1
  have HS0 := Lib.hid hS0
  have hz1 := hB1.size
  clear hB1 hS0 hW0
  go_wp2_with fail
  refine (mnew_any w1).mono ?_
  rintro e w2 ⟨m, rfl, hM0, hB2⟩
  have hB0 : Made w w2 pa m St.new (fun k => w.heap.size ≤ k ∧ k < w1.heap.size) W0 (fun k => w1.heap.size ≤ k ∧ k < w2.heap.size) :=
    ⟨HS0.out.fresh hB2, hM0, fun j h1 h2 => by omega, fun j hj => hj.1, fun j hj => Nat.le_trans HB1.out.size hj.1, HB1.out.trans (hB2.mono HB1.out.size)⟩
  have HBo0 := Lib.hid hB0
  clear hB0 hM0 hB2
  go_wp2_with fail
  go_loopw [6, 7] (fun i _ wr => ∃ (k : Nat) (F W M : Nat → Prop), k ≤ l.length ∧ i = .int .i64 k ∧ Made w wr pa m (madeS (l.take k)) F W M ∧ SLn (madeS (l.take k)) (evN (l.take k)) k) (fun i _ _ => l.length - (RowKit.intOf i).toNat)
  case atStart => exact ⟨0, _, W0, _, Nat.zero_le _, rfl, by rw [List.take_zero]; exact HBo0.out, by rw [List.take_zero]; exact ⟨by simp [madeS, St.new], by simp [madeS, St.new], by simp [madeS, St.new]⟩⟩
  case round =>
    obtain ⟨k, F, W, M, hk, rfl, hBo, hso⟩ := hrel
    by_cases hlt : k < l.length
    · have HMS := Lib.hid (madeS_succ hlt)
      have hes := evN_succ hlt
      have hel := evN_le l (k + 1)
      obtain ⟨s, hs⟩ : ∃ s, madeS (l.take k) = s := ⟨_, rfl⟩
      rw [hs] at hBo hso HMS
      have HBo := Lib.hid hBo
      have HSO := Lib.hid hso
      clear hBo hso hs
      obtain ⟨b, o, rfl, _, _, hxx⟩ := (HA.out.1.fresh HBo.out.bel).cell_ hlt
      have hok := HA.out.2 l[k] (List.getElem_mem hlt)
      have hfe := HFL.out l[k] (List.getElem_mem hlt)
      obtain ⟨a, ha⟩ : ∃ a, l[k] = a := ⟨_, rfl⟩
      rw [ha] at hxx hok hfe HMS hes
      obtain ⟨B, d, hv, _, _⟩ := hok.1.shape
      have x0 := hxx 0 _ rfl
      have x1 := hxx 1 _ rfl
      have x2 := hxx 2 _ rfl
      have x3 := hxx 3 _ rfl
      have x4 := hxx 4 _ rfl
      have x5 := hxx 5 _ rfl
      have x6 := hxx 6 _ rfl
      rw [hv] at x6
      simp only [Nat.add_zero] at x0
      have HES := Lib.hid (show evN (l.take (k + 1)) = evN (l.take k) + a.evs.length ∧ evN (l.take (k + 1)) ≤ evN l from ⟨hes, hel⟩)
      have HV := Lib.hid hv
      have hEv : ∀ wz, Below w.heap.size w wz → ∀ pos : Int, BatchOk wz (fun b => b < w.heap.size) (a.at_ pos) ∧ BatchSm wz (fun b => b < w.heap.size) (a.at_ pos) := fun wz hz pos => by
        have h0 := hok.fresh hz
        exact ⟨⟨h0.1, h0.2.1, h0.2.2.1, hfe.2.2⟩, ⟨h0.1, hfe.1, hfe.2.1, hfe.2.2⟩⟩
      have HEV := Lib.hid hEv
      have HNW : Hid (¬ W wr.heap.size) := Lib.hid (fun e => by have := HBo.out.stl _ e; omega)
      have hB5 : Below wr.heap.size wr (wr.alloc (.cells #[.int .i64 a.pos, .int .i64 a.epoch, .string a.stream, .int .i64 a.expect, .int .i64 a.session, .int .i64 a.seq, .slice B a.evs.length d] 50)) := (Below.refl _ wr).alloc (Nat.le_refl _) _
      have hblk := heap_alloc_new wr (.cells #[.int .i64 a.pos, .int .i64 a.epoch, .string a.stream, .int .i64 a.expect, .int .i64 a.session, .int .i64 a.seq, .slice B a.evs.length d] 50)
      have hkI : ((0 : Int) ≤ (k : Int)) ∧ ((k : Int) < (l.length : Int)) := by omega
      obtain ⟨hk1, hk2⟩ := hkI
      clear hxx hok hfe ha hv hEv hes hel
      go_upto_region 7 with (fail)
      generalize wr.alloc (.cells #[.int .i64 a.pos, .int .i64 a.epoch, .string a.stream, .int .i64 a.expect, .int .i64 a.session, .int .i64 a.seq, .slice B a.evs.length d] 50) = w5 at hB5 hblk ⊢
      have HBo5 := Lib.hid (HBo.out.fresh hB5)
      have HB5 := Lib.hid hB5
      have HE := Lib.hid hblk
      have y0 : w5.cell? ⟨wr.heap.size, 0, none⟩ = some (.int .i64 a.pos) := cell_of_row w5 _ 0 _ _ _ hblk
      have g0 : w5.frozen? ⟨wr.heap.size, 0, none⟩ = false := frozen_block hblk 0
      have hap := HSO.out.ap
      have hw1 : IntKind.i64.wrap (s.ap + 1) = s.ap + 1 := IntWalk.i64_in _ (by omega)
      clear x0 x1 x2 x3 x4 x5 x6 hB5 hblk
      go_wp2_with fail
      refine (applied_any w5 pa s F W HBo5.out.st).mono ?_
      rintro e wz ⟨rfl, rfl⟩
      go_upto_region 8 with (fail)
      have hkS : Keeps (fun q => q = wr.heap.size) wr _ := ((Keeps.of_fresh HB5.out (fun q => q = wr.heap.size))).setCell (p := ⟨wr.heap.size, 0, none⟩) (fun _ => rfl) (.int .i64 (s.ap + 1))
      have hk2 := setCell_block' (o := 0) (v := .int .i64 (s.ap + 1)) HE.out
      generalize w5.setCell ⟨wr.heap.size, 0, none⟩ (.int .i64 (s.ap + 1)) = w6 at hkS hk2 ⊢
      have HBo6 := Lib.hid (HBo.out.keep hkS (fun j e => by omega))
      have HE6 := Lib.hid hk2
      clear y0 g0 hkS hw1
      have y0 : w6.cell? ⟨wr.heap.size, 0, none⟩ = some (.int .i64 (s.ap+1)) := cell_of_row w6 _ 0 _ _ _ hk2
      have y1 : w6.cell? ⟨wr.heap.size, 1, none⟩ = some (.int .i64 a.epoch) := cell_of_row w6 _ 1 _ _ _ hk2
      have y2 : w6.cell? ⟨wr.heap.size, 2, none⟩ = some (.string a.stream) := cell_of_row w6 _ 2 _ _ _ hk2
      have y3 : w6.cell? ⟨wr.heap.size, 3, none⟩ = some (.int .i64 a.expect) := cell_of_row w6 _ 3 _ _ _ hk2
      have y4 : w6.cell? ⟨wr.heap.size, 4, none⟩ = some (.int .i64 a.session) := cell_of_row w6 _ 4 _ _ _ hk2
      have y5 : w6.cell? ⟨wr.heap.size, 5, none⟩ = some (.int .i64 a.seq) := cell_of_row w6 _ 5 _ _ _ hk2
      have y6 : w6.cell? ⟨wr.heap.size, 6, none⟩ = some (.slice B a.evs.length d) := cell_of_row w6 _ 6 _ _ _ hk2
      have HBt := Lib.hid (HEV.out w6 HBo6.out.bel (s.ap + 1))
      have hcall := apply_any w6 (HTb.out.fresh HBo6.out.bel) pa s F W HBo6.out.st _ (a.at_ (s.ap + 1)) HBt.out.1 (fun q hq e => by have := HBo6.out.fl q (HBo6.out.st.wf q e); omega) (by omega) (by have := HSO.out.lL; have := HES.out; show _ + a.evs.length ≤ _; omega) (by have := HSO.out.lT; omega)
      rw [show (a.at_ (s.ap + 1)).evv = .slice B a.evs.length d from HV.out] at hcall
      rcases hrr : applyS s (a.at_ (s.ap + 1)) with ⟨s', ⟨r1, r2, r3, r4⟩, r5⟩
      rw [hrr] at hcall
      have HC := Lib.hid hcall
      have HRR := Lib.hid hrr
      clear hcall hrr hk2
      go_wp2_with fail
      refine HC.out.mono ?_
      rintro e w7 ⟨rfl, hAp⟩
      have HAp := Lib.hid hAp
      have HMt := Lib.hid (HBo6.out.after hAp)
      have hE7 := HBo6.out.keepE hAp HE6.out HNW.out
      have HBZ7 := Lib.hid (HBo6.out.belApp hAp)
      clear hAp y0 y1 y2 y3 y4 y5 y6
      have y0 : w7.cell? ⟨wr.heap.size, 0, none⟩ = some (.int .i64 (s.ap+1)) := cell_of_row w7 _ 0 _ _ _ hE7
      have y1 : w7.cell? ⟨wr.heap.size, 1, none⟩ = some (.int .i64 a.epoch) := cell_of_row w7 _ 1 _ _ _ hE7
      have y2 : w7.cell? ⟨wr.heap.size, 2, none⟩ = some (.string a.stream) := cell_of_row w7 _ 2 _ _ _ hE7
      have y3 : w7.cell? ⟨wr.heap.size, 3, none⟩ = some (.int .i64 a.expect) := cell_of_row w7 _ 3 _ _ _ hE7
      have y4 : w7.cell? ⟨wr.heap.size, 4, none⟩ = some (.int .i64 a.session) := cell_of_row w7 _ 4 _ _ _ hE7
      have y5 : w7.cell? ⟨wr.heap.size, 5, none⟩ = some (.int .i64 a.seq) := cell_of_row w7 _ 5 _ _ _ hE7
      have y6 : w7.cell? ⟨wr.heap.size, 6, none⟩ = some (.slice B a.evs.length d) := cell_of_row w7 _ 6 _ _ _ hE7
      have hcall := mapply_any w7 m s M HMt.out _ (a.at_ (s.ap + 1)) (HEV.out w7 HBZ7.out (s.ap + 1)).2 (fun q hq e => by have := HBo6.out.ml q e; omega) (by omega) (by have := HSO.out.lL; have := HES.out; show _ + a.evs.length ≤ _; omega) (by have := HSO.out.lT; omega)
      rw [show (a.at_ (s.ap + 1)).evv = .slice B a.evs.length d from HV.out, HRR.out] at hcall
      have HC := Lib.hid hcall
      clear hcall hE7
      go_wp2_with fail
      refine HC.out.mono ?_
      rintro e w9 ⟨rfl, hMp⟩
      obtain ⟨F', W', M', hBo9⟩ := HBo6.out.step HAp.out (Below.refl _ _) hMp
      have hs' : s' = madeS (l.take (k + 1)) := by
        rw [HMS.out]
        unfold stepS
        rw [HRR.out]
      have hso9 : SLn s' (evN (l.take (k + 1))) (k + 1) := by
        have := HSO.out.step (a.at_ (s.ap + 1))
        rw [HRR.out] at this
        rw [HES.out.1]
        exact this
      rw [hs'] at hBo9 hso9
      have HBo9 := Lib.hid hBo9
      have HSO9 := Lib.hid hso9
      clear hMp hBo9 hso9 hs' y0 y1 y2 y3 y4 y5 y6
      go_wp2_with fail
      go_roundw
      case rel => exact ⟨k + 1, F', W', M', hlt, by go_num, HBo9.out, HSO9.out⟩
      case measure => simp [RowKit.intOf]; omega
    · have hkd : k = l.length := by omega
      subst hkd
      rw [List.take_length] at hBo hso
      have HBo := Lib.hid hBo
      have HSO := Lib.hid hso
      clear hBo hso
      go_wp2_with fail
      go_ret2
      exact ⟨pa, m, F, W, M, rfl, HBo.out⟩

theorem made_any (w : World) (hT : Tabs w) (G : Nat → Prop) (v : Value) (l : List Ent) (h : EntsOk w G v l) (hfl : ∀ a ∈ l, entF a = true) (hl : l.length ≤ 40) :
    Calls Tryz.prog 9 #[v] w fun e w' => ∃ p m F W M, e = .returned (.tuple #[.pointer (some ⟨p, 0, none⟩), .pointer (some ⟨m, 0, none⟩)]) ∧ Made w w' p m (madeS l) F W M ∧ SOk (madeS l) l.length := by
  have hsum : ∀ l : List Ent, (∀ a ∈ l, entF a = true) → evN l ≤ l.length * 20 := by
    intro l
    induction l with
    | nil => intro _; simp [evN]
    | cons a l ih =>
      intro h
      have h1 := ih (fun b hb => h b (List.mem_cons_of_mem _ hb))
      have h2 := (entF_at (h a List.mem_cons_self)).2.1
      unfold evN at h1 ⊢
      simp only [List.map_cons, List.sum_cons, List.length_cons, Nat.add_mul]
      omega
  have hs := hsum l hfl
  refine (made_gen w hT G v l h (fun a ha => ?_) (by omega) (by omega)).mono ?_
  · have h1 := entF_at (hfl a ha)
    exact ⟨fun e he => ⟨by have := h1.2.2 e he; omega, by have := h1.2.2 e he; omega⟩, by omega, by omega⟩
  · rintro e w' ⟨p, m, F, W, M, he, hM⟩
    have := SOk.made l l.length (fun a ha => (entF_at (hfl a ha)).1) (Nat.le_refl _) (by omega)
    rw [List.take_length] at this
    exact ⟨p, m, F, W, M, he, hM, this⟩

theorem new_sm : snpB (ptOf St.new) = [UInt8.ofNat 0x2c, 0, 0, 0, 0, 0, 0] ∨ (snpB (ptOf St.new)).length = 7 := .inr (by
  rw [snpB_len]
  have h1 : (ptOf St.new).ss = [] := by kernel_rfl
  have h2 : (ptOf St.new).rs = [] := by kernel_rfl
  have h3 : (ptOf St.new).ap = 0 := rfl
  unfold snpL
  rw [h1, h2, h3]
  have h4 : numL 0 = [0] := by unfold numL; rw [putL_small (by decide)]; rfl
  simp [h4])
set_option maxRecDepth 10000 in
set_option maxHeartbeats 4000000 in
theorem shown_any (w : World) (hT : Tabs w) : Calls Tryz.prog 7 #[] w fun x w' => x = .returned (.bool true) ∧ Below w.heap.size w w' := by
  have HTb := Lib.hid hT
  have hsm := Rch.new.small (by simp [St.new]) (by simp [St.new])
  have hlen : (snpB (ptOf St.new)).length = 7 := by
    rcases new_sm with h | h
    · rw [h]; rfl
    · exact h
  have HSM := Lib.hid hsm
  clear hT hsm
  go_enter Tryz.func7, Tryz.ntmps7
  go_wp2_with fail
  refine (snew_any w).mono ?_
  rintro e w1 ⟨p, W0, rfl, _, hW0, hS0, hB1⟩
  have HB1 := Lib.hid hB1
  have HC := Lib.hid (snapPut_any w1 (HTb.out.fresh hB1) p St.new _ W0 hS0 Rch.new (by simp [St.new]) (by simp [St.new]) (by simp [St.new]))
  clear hB1 hS0 hW0
  go_wp2_with fail
  refine HC.out.mono ?_
  rintro e w2 ⟨rfl, hB2⟩
  have HB2 := Lib.hid (HB1.out.trans (hB2.mono HB1.out.size))
  have HC2 := Lib.hid (snapTake_ok w2 (HTb.out.fresh HB2.out) (ptOf St.new) HSM.out)
  have hsz : (Bl (snpB (ptOf St.new))).size = 7 := by rw [Bl_size]; exact hlen
  obtain ⟨t, ht⟩ : ∃ t, Bl (snpB (ptOf St.new)) = t := ⟨_, rfl⟩
  rw [ht] at HC2 hsz ⊢
  clear hB2 HC hlen ht
  go_wp2_with fail
  refine HC2.out.mono ?_
  rintro e w3 ⟨q, F, W, rfl, hSt, hF, hB3⟩
  have HB3 := Lib.hid (HB2.out.trans (hB3.mono HB2.out.size))
  have HST := Lib.hid hSt
  clear hB3 hSt hF HC2
  go_wp2_with fail
  refine (snapTake_none w3).mono ?_
  rintro e w4 ⟨rfl, hB4⟩
  have HB4 := Lib.hid (HB3.out.trans (hB4.mono HB3.out.size))
  have HST4 := Lib.hid (HST.out.fresh hB4)
  clear hB4
  go_wp2_with fail
  refine (applied_any w4 q _ F W HST4.out).mono ?_
  rintro e wz ⟨rfl, rfl⟩
  have hap : (stOf (ptOf St.new)).ap = 0 := rfl
  rw [hap]
  go_wp2_with fail
  go_ret
  exact ⟨rfl, HB4.out⟩
end Go.Proofs.YthebmbhdlkldiaaGreatDoor
