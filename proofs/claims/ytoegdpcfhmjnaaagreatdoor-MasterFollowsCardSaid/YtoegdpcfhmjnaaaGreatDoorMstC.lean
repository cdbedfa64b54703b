/- The master's state in memory. Under the stated premises on sizes. -/
import Derived.Test.YtoegdpcfhmjnaaaGreatDoorVwF
import Derived.Test.YtoegdpcfhmjnaaaGreatDoorMstD
import Derived.Test.YtoegdpcfhmjnaaaGreatDoorFrmC
import Derived.Test.YtoegdpcfhmjnaaaGreatDoorVwE
import Derived.Test.YtoegdpcfhmjnaaaGreatDoorFrmA
/- What views a disk keeps: kept. Under the stated premises on sizes. -/
namespace Go.Proofs.YtoegdpcfhmjnaaaGreatDoor
open Go.RowKit Go.Bl
attribute [local go_sem ↓] Go.wp_at_zero Go.wp_at_succ

def noV : Vw := ⟨0, []⟩
theorem lastV_take {vs : List Vw} {k : Nat} (h : k < vs.length) (a : Vw) : lastV a (vs.take (k + 1)) = vs[k] := by
  rw [List.take_succ_eq_append_getElem h, lastV_snoc]
theorem vsUp_at : ∀ {vs : List Vw} {a : Vw} {k : Nat} (_ : VsUp a.ep vs) (h : k < vs.length), (lastV a (vs.take k)).ep < vs[k].ep ∧ RightV vs[k]
  | [], _, _, _, h => by simp at h
  | v :: vs, a, 0, hu, _ => ⟨hu.1, hu.2.1⟩
  | v :: vs, a, k + 1, hu, h => vsUp_at (a := v) hu.2.2 (by simpa using h)
theorem vsL_bound {vs : List Vw} (hu : VsUp 0 vs) (h : vs.length ≤ 1000) : (Bl (vsL vs)).size ≤ 128000 := by
  have := vsL_len hu
  rw [Bl_size]
  omega
/-- Amid kept: the last view at block q. -/
def KtR (w2 : World) (q r : Nat) (v : Vw) (wr : World) : Prop :=
  ∃ a b c, wr.heap[q]? = some (.cells #[.int .i64 v.ep, a, b, c] 45 (0, 0)) ∧ VwSl wr (fun k => r < k ∧ k ≠ q) v.L a b c ∧ Keeps (fun k => k = q) w2 wr
set_option maxRecDepth 20000 in
set_option maxHeartbeats 8000000 in
theorem kept_any {X : Nat → Prop} {w : World} {p : Nat} {d : Dk} (h : Qd X w p d) (vs : List Vw) (hu : VsUp 0 vs) (hn : vs.length ≤ 1000) (hr : ∃ er : Int, readV (d.find sViews) = .tuple #[.string (Bl (vsL vs)), .int .i64 er]) :
    Calls Tryz.prog 28 #[.pointer (some ⟨p, 0, none⟩)] w fun e w' => ∃ a b c, e = .returned (.tuple #[.agg #[.int .i64 (lastV noV vs).ep, a, b, c], .int .i64 vs.length, .bool true]) ∧ VwSl w' (fun k => w.heap.size ≤ k) (lastV noV vs).L a b c ∧ Below w.heap.size w w' := by
  obtain ⟨er, hr⟩ := hr
  have hsz := vsL_bound hu hn
  have hsc := fun W => scan_any W (Bl (vsL vs)) (by omega)
  rw [Lb_Bl, scan_vs 0 vs hu] at hsc
  have HS := Lib.hid hsc
  have HR := Lib.hid hr
  have HU := Lib.hid hu
  have H := Lib.hid h
  obtain ⟨S, hS⟩ : ∃ S, Bl (vsL vs) = S := ⟨_, rfl⟩
  rw [hS] at hsz HS HR
  obtain ⟨l0, hl0⟩ : ∃ l, l = lastV noV vs := ⟨_, rfl⟩
  rw [← hl0]
  have HL0 := Lib.hid hl0
  clear hr hsc h hu hS hl0
  have hB0 : Below w.heap.size w (w.alloc (.cells #[.int .i64 0, .slice none 0 0, .slice none 0 0, .slice none 0 0] 45)) := (Below.refl _ w).alloc (Nat.le_refl _) _
  have hblk := heap_alloc_new w (.cells #[.int .i64 0, .slice none 0 0, .slice none 0 0, .slice none 0 0] 45)
  go_enter Tryz.func28, Tryz.ntmps28
  go_upto_region 1 with (fail)
  obtain ⟨r, hrw⟩ : ∃ r, w.heap.size = r := ⟨_, rfl⟩
  have HRQ := Lib.hid hrw
  rw [hrw] at hblk ⊢
  generalize w.alloc (.cells #[.int .i64 0, .slice none 0 0, .slice none 0 0, .slice none 0 0] 45) = w0 at hB0 hblk ⊢
  have H0 := Lib.hid (H.out.fresh hB0)
  have HB0 := Lib.hid hB0
  have HK0 := Lib.hid hblk
  clear hrw hB0 hblk H
  go_wp2_with fail
  refine (readQ H0.out ⟨#[118, 105, 101, 119, 115]⟩ (by decide)).mono ?_
  rintro e w1 ⟨rfl, rfl⟩
  rw [show (⟨#[118, 105, 101, 119, 115]⟩ : ByteArray) = sViews from rfl, HR.out]
  go_wp2_with fail
  refine (HS.out _).mono ?_
  rintro e w1 ⟨lv, rfl, hSl, hB1⟩
  obtain ⟨A, c, rfl, hA1, hA2⟩ := hSl.shape_ (n := vs.length) (by rw [List.length_map, List.length_map])
  unfold maxLen at hA2
  have hsz0 : ((S.size : Int) - (([] : List UInt8).length : Int)) = (S.size : Int) := by simp
  rw [hsz0]
  have hrw0 : r < w0.heap.size := (Array.getElem?_eq_some_iff.1 HK0.out).1
  have HK1 := Lib.hid ((hB1.block r hrw0).trans HK0.out)
  have HB1 := Lib.hid (HB0.out.trans (hB1.mono HB0.out.size))
  have HSl := Lib.hid hSl
  have hrw1 : r < w1.heap.size := Nat.lt_of_lt_of_le hrw0 hB1.size
  clear hB1 hSl hsz0
  go_upto_region 4 with (fail)
  have hB2 : Below w1.heap.size w1 (w1.alloc (.cells #[.int .i64 0, .slice none 0 0, .slice none 0 0, .slice none 0 0] 45)) := (Below.refl _ w1).alloc (Nat.le_refl _) _
  have hblk := heap_alloc_new w1 (.cells #[.int .i64 0, .slice none 0 0, .slice none 0 0, .slice none 0 0] 45)
  obtain ⟨q, hq⟩ : ∃ q, w1.heap.size = q := ⟨_, rfl⟩
  have hrq : r < q := by omega
  generalize w1.alloc (.cells #[.int .i64 0, .slice none 0 0, .slice none 0 0, .slice none 0 0] 45) = w2 at hB2 hblk ⊢
  have HS2 := Lib.hid (HSl.out.fresh hB2)
  have HK2 := Lib.hid ((hB2.block r (by omega)).trans HK1.out)
  have HB2 := Lib.hid (HB1.out.trans (hB2.mono HB1.out.size))
  rw [hq] at hblk ⊢
  have hq2 : q < w2.heap.size := (Array.getElem?_eq_some_iff.1 hblk).1
  have hr0 : KtR w2 q r (lastV noV (vs.take 0)) w2 := ⟨_, _, _, hblk, ⟨Sl.nil_ _ _ _ _, Sl.nil_ _ _ _ _, Sl.nil_ _ _ _ _⟩, Keeps.refl _ _⟩
  have hSq : ∀ k, w0.heap.size ≤ k → k < w1.heap.size → k ≠ q := fun k _ h2 => by omega
  have HSQ : Hid (Sl w2 (fun k => k ≠ q) 1 strF (.slice A vs.length c) ((vs.map vwL).map Bl)) := Lib.hid (by
    have h1 := HSl.out.bound
    exact (h1.fresh hB2).mono fun k _ hk => by omega)
  clear hB2 hq hblk hSq HS2 HSl HB1 HK1
  go_wp2_with fail
  go_loopw [26] (fun i wr => ∃ k : Nat, k ≤ vs.length ∧ i = .int .i64 k ∧ KtR w2 q r (lastV noV (vs.take k)) wr) (fun i _ => vs.length - (intOf i).toNat)
  case atStart => exact ⟨0, Nat.zero_le _, rfl, hr0⟩
  case round =>
    obtain ⟨k, hk, rfl, a, b, cc, hQ, hV, hK⟩ := hrel
    clear hr0
    by_cases hlt : k < vs.length
    · have d0 : decide ((k : Int) < (vs.length : Int)) = true := decide_eq_true (by omega)
      obtain ⟨qa, oa, rfl, hqa, hqb, hxx⟩ := (HSQ.out.keep hK (fun k _ h1 h2 => h1 h2)).cell_ (i := k) (by rw [List.length_map, List.length_map]; exact hlt)
      have x0 := hxx 0 _ rfl
      rw [Nat.mul_one, Nat.add_zero, List.getElem_map, List.getElem_map] at x0
      obtain ⟨hup, hrk⟩ := vsUp_at (a := noV) HU.out hlt
      have htk := lastV_take hlt noV
      obtain ⟨v, hv⟩ : ∃ v, v = vs[k] := ⟨_, rfl⟩
      rw [← hv] at x0 hup hrk htk
      obtain ⟨l, hl⟩ : ∃ l, l = lastV noV (vs.take k) := ⟨_, rfl⟩
      rw [← hl] at hQ hV hup
      obtain ⟨a2, rfl⟩ | ⟨A1, m1, A2, m2, A3, m3, rfl, rfl, rfl, _⟩ : (∃ x : Nat, a = .int .i64 x) ∨ ∃ A1 m1 A2 m2 A3 m3, a = .slice A1 l.L.length m1 ∧ b = .slice A2 l.L.length m2 ∧ cc = .slice A3 l.L.length m3 ∧ True := by
        obtain ⟨A1, m1, A2, m2, A3, m3, e1, e2, e3, _⟩ := hV.shape
        exact .inr ⟨A1, m1, A2, m2, A3, m3, e1, e2, e3, trivial⟩
      · obtain ⟨_, _, e, _⟩ := hV.ch.shape
        cases e
      have HQ := Lib.hid hQ
      have HV := Lib.hid hV
      have HK := Lib.hid hK
      have hc := vtake_any wr v hrk
      have HC := Lib.hid hc
      have HTK := Lib.hid htk
      have HRK := Lib.hid hrk
      have hqr : q < wr.heap.size := (Array.getElem?_eq_some_iff.1 hQ).1
      clear hQ hV hK hxx hc htk hv hl hrk
      go_wp2_with fail
      refine HC.out.mono ?_
      rintro e w5 ⟨a', b', c', rfl, hV5, hB5⟩
      obtain ⟨B1, n1, B2, n2, B3, n3, rfl, rfl, rfl, _⟩ := hV5.shape
      have hQ5 := (hB5.block q hqr).trans HQ.out
      have hal := (Below.refl _ w5).alloc (Nat.le_refl _) (.cells #[.int .i64 v.ep, .slice B1 v.L.length n1, .slice B2 v.L.length n2, .slice B3 v.L.length n3] 45)
      have hbk := heap_alloc_new w5 (.cells #[.int .i64 v.ep, .slice B1 v.L.length n1, .slice B2 v.L.length n2, .slice B3 v.L.length n3] 45)
      go_upto_region 8 with (fail)
      obtain ⟨z, hz⟩ : ∃ z, w5.heap.size = z := ⟨_, rfl⟩
      rw [hz] at hbk ⊢
      generalize w5.alloc (.cells #[.int .i64 v.ep, .slice B1 v.L.length n1, .slice B2 v.L.length n2, .slice B3 v.L.length n3] 45) = w6 at hal hbk ⊢
      have hV6 := hV5.fresh hal
      have hQ6 := (hal.block q (by have := hB5.size; omega)).trans hQ5
      have hK6 : Keeps (fun k => k = q) w2 w6 := (HK.out.fresh hB5).fresh hal
      have z0 : w6.cell? ⟨z, 0, none⟩ = some (.int .i64 v.ep) := cell_of_row w6 z 0 _ _ _ hbk
      have z1 : w6.cell? ⟨z, 1, none⟩ = some (.slice B1 v.L.length n1) := cell_of_row w6 z 1 _ _ _ hbk
      have z2 : w6.cell? ⟨z, 2, none⟩ = some (.slice B2 v.L.length n2) := cell_of_row w6 z 2 _ _ _ hbk
      have z3 : w6.cell? ⟨z, 3, none⟩ = some (.slice B3 v.L.length n3) := cell_of_row w6 z 3 _ _ _ hbk
      have y0 : w6.cell? ⟨q, 0, none⟩ = some (.int .i64 l.ep) := cell_of_row w6 q 0 _ _ _ hQ6
      have y1 : w6.cell? ⟨q, 1, none⟩ = some (.slice A1 l.L.length m1) := cell_of_row w6 q 1 _ _ _ hQ6
      have y2 : w6.cell? ⟨q, 2, none⟩ = some (.slice A2 l.L.length m2) := cell_of_row w6 q 2 _ _ _ hQ6
      have y3 : w6.cell? ⟨q, 3, none⟩ = some (.slice A3 l.L.length m3) := cell_of_row w6 q 3 _ _ _ hQ6
      have g0 := frozen_block hQ6 0
      have g1 := frozen_block hQ6 1
      have g2 := frozen_block hQ6 2
      have g3 := frozen_block hQ6 3
      have HQ6 := Lib.hid hQ6
      have HV6 := Lib.hid (hV6.mono (F' := fun k => r < k ∧ k ≠ q) fun k _ hk => by have hk2 : wr.heap.size ≤ k := hk; exact ⟨by omega, by omega⟩)
      have HK6 := Lib.hid hK6
      have d1 : decide (v.ep ≤ l.ep) = false := decide_eq_false (by omega)
      clear hQ5 hal hbk hV6 hQ6 hK6 hV5 hB5 hz HQ
      go_wp2_with fail
      have hb4 := four_block HQ6.out (.int .i64 v.ep) (.slice B1 v.L.length n1) (.slice B2 v.L.length n2) (.slice B3 v.L.length n3)
      have hk4 := four_keeps w6 q (.int .i64 v.ep) (.slice B1 v.L.length n1) (.slice B2 v.L.length n2) (.slice B3 v.L.length n3)
      have HRel : Hid (KtR w2 q r (lastV noV (vs.take (k + 1))) ((((w6.setCell ⟨q, 0, none⟩ (.int .i64 v.ep)).setCell ⟨q, 1, none⟩ (.slice B1 v.L.length n1)).setCell ⟨q, 2, none⟩ (.slice B2 v.L.length n2)).setCell ⟨q, 3, none⟩ (.slice B3 v.L.length n3))) :=
        Lib.hid (by rw [HTK.out]; exact ⟨_, _, _, hb4, HV6.out.keep hk4 (fun k _ h1 h2 => h1.2 h2), HK6.out.trans hk4⟩)
      clear hb4 hk4
      go_roundw
      case rel => exact ⟨k + 1, hlt, by go_num, HRel.out⟩
      case measure => simp [intOf]; omega
    · have hkl : k = vs.length := by omega
      subst hkl
      rw [List.take_length] at hQ hV
      rw [← HL0.out] at hQ hV
      obtain ⟨l, rfl⟩ : ∃ l, l = l0 := ⟨_, rfl⟩
      have d0 : decide ((vs.length : Int) < (vs.length : Int)) = false := by simp
      obtain ⟨A1, m1, A2, m2, A3, m3, rfl, rfl, rfl, _⟩ := hV.shape
      have hRr := (hK.block r (by omega) (fun e => by have e2 : r = q := e; omega)).trans HK2.out
      have y0 : wr.cell? ⟨q, 0, none⟩ = some (.int .i64 l.ep) := cell_of_row wr q 0 _ _ _ hQ
      have y1 : wr.cell? ⟨q, 1, none⟩ = some (.slice A1 l.L.length m1) := cell_of_row wr q 1 _ _ _ hQ
      have y2 : wr.cell? ⟨q, 2, none⟩ = some (.slice A2 l.L.length m2) := cell_of_row wr q 2 _ _ _ hQ
      have y3 : wr.cell? ⟨q, 3, none⟩ = some (.slice A3 l.L.length m3) := cell_of_row wr q 3 _ _ _ hQ
      have r0 : wr.cell? ⟨r, 0, none⟩ = some (.int .i64 0) := cell_of_row wr r 0 _ _ _ hRr
      have r1 : wr.cell? ⟨r, 1, none⟩ = some (.slice none 0 0) := cell_of_row wr r 1 _ _ _ hRr
      have r2 : wr.cell? ⟨r, 2, none⟩ = some (.slice none 0 0) := cell_of_row wr r 2 _ _ _ hRr
      have r3 : wr.cell? ⟨r, 3, none⟩ = some (.slice none 0 0) := cell_of_row wr r 3 _ _ _ hRr
      have g0 := frozen_block hRr 0
      have g1 := frozen_block hRr 1
      have g2 := frozen_block hRr 2
      have g3 := frozen_block hRr 3
      have HRr := Lib.hid hRr
      have HV := Lib.hid hV
      have HBw := Lib.hid (Below.keep HB2.out hK (by have := HB2.out.size; omega) (fun k e => by have e2 : k = q := e; have := HRQ.out; omega))
      clear hQ hV hK hRr
      go_wp2_with fail
      have hb4 := four_block HRr.out (.int .i64 l.ep) (.slice A1 l.L.length m1) (.slice A2 l.L.length m2) (.slice A3 l.L.length m3)
      have hk4 := four_keeps wr r (.int .i64 l.ep) (.slice A1 l.L.length m1) (.slice A2 l.L.length m2) (.slice A3 l.L.length m3)
      have hrq2 := HRQ.out
      have hBe := Below.keep HBw.out hk4 HBw.out.size (fun k e => by have e2 : k = r := e; omega)
      have hVe := (HV.out.keep hk4 (fun k _ h1 h2 => by have e2 : k = r := h2; have := h1.1; omega)).mono (F' := fun k => w.heap.size ≤ k) (fun k _ h1 => by have := h1.1; show w.heap.size ≤ k; omega)
      generalize ((((wr.setCell ⟨r, 0, none⟩ (.int .i64 l.ep)).setCell ⟨r, 1, none⟩ (.slice A1 l.L.length m1)).setCell ⟨r, 2, none⟩ (.slice A2 l.L.length m2)).setCell ⟨r, 3, none⟩ (.slice A3 l.L.length m3)) = w6 at hb4 hBe hVe ⊢
      have z0 := cell_of_row w6 r 0 _ _ _ hb4
      have z1 := cell_of_row w6 r 1 _ _ _ hb4
      have z2 := cell_of_row w6 r 2 _ _ _ hb4
      have z3 := cell_of_row w6 r 3 _ _ _ hb4
      refine bodyPost_ret (v := .tuple #[.agg #[.int .i64 l.ep, .slice A1 l.L.length m1, .slice A2 l.L.length m2, .slice A3 l.L.length m3], .int .i64 vs.length, .bool true]) (by simp [results, Tryz.results28, go_sem, z0, z1, z2, z3]) rfl ⟨_, _, _, rfl, hVe, hBe⟩
end Go.Proofs.YtoegdpcfhmjnaaaGreatDoor

/- A view is kept: keep. Under the stated premises on sizes. -/
namespace Go.Proofs.YtoegdpcfhmjnaaaGreatDoor
open Go.RowKit Go.Bl
attribute [local go_sem ↓] Go.wp_at_zero Go.wp_at_succ

set_option maxRecDepth 20000 in
set_option maxHeartbeats 4000000 in
theorem keepQ {X F : Nat → Prop} {w : World} {p : Nat} {room : Int} {vs : List Vw} (h : Qd X w p (mvD room vs)) (v : Vw) (a b c : Value) (hV : VwSl w F v.L a b c) (hr : RightV v) (hu : VsUp 0 vs) (hlen : vs.length ≤ 21) (hroom : 128 * ((vs.length : Int) + 1) ≤ room) :
    Calls Tryz.prog 31 #[.pointer (some ⟨p, 0, none⟩), .agg #[.int .i64 v.ep, a, b, c]] w fun e w' => e = .returned (.int .i64 0) ∧ Qd X w' p (mvD room (keepV vs v)) ∧ Kx X w w' := by
  obtain ⟨A, ca, B, cb, C, cc, rfl, rfl, rfl, _⟩ := hV.shape
  have hB0 : Below w.heap.size w (w.alloc (.cells #[.int .i64 v.ep, .slice A v.L.length ca, .slice B v.L.length cb, .slice C v.L.length cc] 45)) := (Below.refl _ w).alloc (Nat.le_refl _) _
  have HBK := Lib.hid (heap_alloc_new w (.cells #[.int .i64 v.ep, .slice A v.L.length ca, .slice B v.L.length cb, .slice C v.L.length cc] 45))
  have hwl := vwL_len hr
  have hf := fun W => framePut_any W (Bl (vwL v)) (by rw [Bl_size]; omega) (by rw [Bl_size]; omega)
  rw [Lb_Bl] at hf
  have hfl := (vfL_len hr).2
  obtain ⟨f, hfe⟩ : ∃ f, f = Bl (vfL v) := ⟨_, rfl⟩
  rw [show Bl (frmL crcU (vwL v)) = f from hfe.symm] at hf
  have hfs : f.size ≤ 128 := by rw [hfe, Bl_size]; exact hfl
  obtain ⟨er, hrd, _, _⟩ := mvD_read room vs
  have HF := Lib.hid hf
  have HRD := Lib.hid (show ∃ er : Int, readV ((mvD room vs).find sViews) = .tuple #[.string (Bl (vsL vs)), .int .i64 er] from ⟨er, hrd⟩)
  have HQ := Lib.hid h
  have HV := Lib.hid hV
  have HR := Lib.hid (show RightV ⟨v.ep, v.L⟩ from hr)
  have HU := Lib.hid hu
  have HB0 := Lib.hid hB0
  have hA := mvD_app hu hr hroom
  by_cases h20 : vs.length ≤ 20
  · have d0 : decide ((vs.length : Int) ≤ 20) = true := decide_eq_true (by omega)
    rw [← hfe] at hA
    have hkv : keepV vs v = vs ++ [v] := by unfold keepV; rw [if_pos h20]
    rw [hkv]
    obtain ⟨d2, hd2⟩ : ∃ d2, ((mvD room vs).app sViews f).2 = d2 := ⟨_, rfl⟩
    rw [hd2] at hA
    obtain ⟨hA1, hA2, hA3⟩ := hA
    have HA1 := Lib.hid hA1
    have HA2 := Lib.hid hA2
    have HA3 := Lib.hid hA3
    clear hV hr hu hB0 hf hfe hfl hrd h hwl hA1 hA2 hA3 hd2 hkv
    go_enter Tryz.func31, Tryz.ntmps31
    go_upto_region 1 with (fail)
    generalize w.alloc (.cells #[.int .i64 v.ep, .slice A v.L.length ca, .slice B v.L.length cb, .slice C v.L.length cc] 45) = w1 at HB0 HBK ⊢
    obtain ⟨g, hg⟩ : ∃ g, w.heap.size = g := ⟨_, rfl⟩
    rw [hg] at HBK ⊢
    have c0 : w1.cell? ⟨g, 0, none⟩ = some (.int .i64 v.ep) := cell_of_row w1 g 0 _ _ _ HBK.out
    have c1 : w1.cell? ⟨g, 1, none⟩ = some (.slice A v.L.length ca) := cell_of_row w1 g 1 _ _ _ HBK.out
    have c2 : w1.cell? ⟨g, 2, none⟩ = some (.slice B v.L.length cb) := cell_of_row w1 g 2 _ _ _ HBK.out
    have c3 : w1.cell? ⟨g, 3, none⟩ = some (.slice C v.L.length cc) := cell_of_row w1 g 3 _ _ _ HBK.out
    clear hg
    go_wp2_with fail
    refine (vput_any w1 F v.ep v.L _ _ _ (HV.out.fresh HB0.out) HR.out).mono ?_
    rintro e w2 ⟨rfl, hB2⟩
    have HB2 := Lib.hid (HB0.out.trans (hB2.mono HB0.out.size))
    rw [show vwL ⟨v.ep, v.L⟩ = vwL v from rfl]
    clear hB2 c0 c1 c2 c3
    go_wp2_with fail
    refine (HF.out w2).mono ?_
    rintro e w3 ⟨rfl, hB3⟩
    have HB3 := Lib.hid (HB2.out.trans (hB3.mono HB2.out.size))
    clear hB3 HB2
    go_wp2_with fail
    refine (kept_any (HQ.out.fresh HB3.out) vs HU.out (by omega) HRD.out).mono ?_
    rintro e w4 ⟨a', b', c', rfl, hV4, hB4⟩
    obtain ⟨A', ca', B', cb', C', cc', rfl, rfl, rfl, _⟩ := hV4.shape
    have HB4 := Lib.hid (HB3.out.trans (hB4.mono HB3.out.size))
    clear hB4 hV4 HB3
    go_upto_region 5 with (fail)
    have HB5 := Lib.hid (HB4.out.alloc HB4.out.size (.cells #[.int .i64 (lastV noV vs).ep, .slice A' (lastV noV vs).L.length ca', .slice B' (lastV noV vs).L.length cb', .slice C' (lastV noV vs).L.length cc'] 45))
    generalize w4.alloc (.cells #[.int .i64 (lastV noV vs).ep, .slice A' (lastV noV vs).L.length ca', .slice B' (lastV noV vs).L.length cb', .slice C' (lastV noV vs).L.length cc'] 45) = w5 at HB5 ⊢
    go_wp2_with fail
    refine (appendQ (HQ.out.fresh HB5.out) ⟨#[118, 105, 101, 119, 115]⟩ f (by decide) (by omega)).mono ?_
    rintro e w6 ⟨rfl, h6, k6⟩
    rw [show (⟨#[118, 105, 101, 119, 115]⟩ : ByteArray) = sViews from rfl, HA1.out] at h6 ⊢
    have H6 := Lib.hid (show Qd X w6 p d2 from h6)
    have K6 := Lib.hid ((Kx.of_below (X := X) HB5.out).trans k6)
    clear h6 k6
    go_wp2_with fail
    refine (syncQ H6.out ⟨#[118, 105, 101, 119, 115]⟩ (by decide)).mono ?_
    rintro e w7 ⟨rfl, h7, k7⟩
    rw [show (⟨#[118, 105, 101, 119, 115]⟩ : ByteArray) = sViews from rfl, HA3.out] at h7
    rw [show (⟨#[118, 105, 101, 119, 115]⟩ : ByteArray) = sViews from rfl, if_neg HA2.out]
    have H7 := Lib.hid h7
    have K7 := Lib.hid (K6.out.trans k7)
    clear h7 k7
    go_wp2_with fail
    go_ret
    exact ⟨rfl, H7.out, K7.out⟩
  · have d0 : decide ((vs.length : Int) ≤ 20) = false := decide_eq_false (by omega)
    have hne : vs ≠ [] := fun e => h20 (by rw [e]; exact Nat.zero_le _)
    have hN := mvD_new hne hu hr hroom
    rw [← hfe] at hN
    have hkv : keepV vs v = [v] := by unfold keepV; rw [if_neg h20]
    rw [hkv]
    obtain ⟨d2, hd2⟩ : ∃ d2, ((mvD room vs).app sTemp f).2 = d2 := ⟨_, rfl⟩
    rw [hd2] at hN
    obtain ⟨hN1, hN2, hN3⟩ := hN
    have HN1 := Lib.hid hN1
    have HN2 := Lib.hid hN2
    have HN3 := Lib.hid hN3
    clear hV hr hu hB0 hf hfe hfl hrd h hwl hN1 hN2 hN3 hd2 hkv hA hne
    go_enter Tryz.func31, Tryz.ntmps31
    go_upto_region 1 with (fail)
    generalize w.alloc (.cells #[.int .i64 v.ep, .slice A v.L.length ca, .slice B v.L.length cb, .slice C v.L.length cc] 45) = w1 at HB0 HBK ⊢
    obtain ⟨g, hg⟩ : ∃ g, w.heap.size = g := ⟨_, rfl⟩
    rw [hg] at HBK ⊢
    have c0 : w1.cell? ⟨g, 0, none⟩ = some (.int .i64 v.ep) := cell_of_row w1 g 0 _ _ _ HBK.out
    have c1 : w1.cell? ⟨g, 1, none⟩ = some (.slice A v.L.length ca) := cell_of_row w1 g 1 _ _ _ HBK.out
    have c2 : w1.cell? ⟨g, 2, none⟩ = some (.slice B v.L.length cb) := cell_of_row w1 g 2 _ _ _ HBK.out
    have c3 : w1.cell? ⟨g, 3, none⟩ = some (.slice C v.L.length cc) := cell_of_row w1 g 3 _ _ _ HBK.out
    clear hg
    go_wp2_with fail
    refine (vput_any w1 F v.ep v.L _ _ _ (HV.out.fresh HB0.out) HR.out).mono ?_
    rintro e w2 ⟨rfl, hB2⟩
    have HB2 := Lib.hid (HB0.out.trans (hB2.mono HB0.out.size))
    rw [show vwL ⟨v.ep, v.L⟩ = vwL v from rfl]
    clear hB2 c0 c1 c2 c3
    go_wp2_with fail
    refine (HF.out w2).mono ?_
    rintro e w3 ⟨rfl, hB3⟩
    have HB3 := Lib.hid (HB2.out.trans (hB3.mono HB2.out.size))
    clear hB3 HB2
    go_wp2_with fail
    refine (kept_any (HQ.out.fresh HB3.out) vs HU.out (by omega) HRD.out).mono ?_
    rintro e w4 ⟨a', b', c', rfl, hV4, hB4⟩
    obtain ⟨A', ca', B', cb', C', cc', rfl, rfl, rfl, _⟩ := hV4.shape
    have HB4 := Lib.hid (HB3.out.trans (hB4.mono HB3.out.size))
    clear hB4 hV4 HB3
    go_upto_region 5 with (fail)
    have HB5 := Lib.hid (HB4.out.alloc HB4.out.size (.cells #[.int .i64 (lastV noV vs).ep, .slice A' (lastV noV vs).L.length ca', .slice B' (lastV noV vs).L.length cb', .slice C' (lastV noV vs).L.length cc'] 45))
    generalize w4.alloc (.cells #[.int .i64 (lastV noV vs).ep, .slice A' (lastV noV vs).L.length ca', .slice B' (lastV noV vs).L.length cb', .slice C' (lastV noV vs).L.length cc'] 45) = w5 at HB5 ⊢
    go_wp2_with fail
    refine (deleteQ (HQ.out.fresh HB5.out) ⟨#[116, 101, 109, 112]⟩ (by decide)).mono ?_
    rintro e w6 ⟨rfl, h6, k6⟩
    rw [show (⟨#[116, 101, 109, 112]⟩ : ByteArray) = sTemp from rfl, mvD_del] at h6
    obtain ⟨ev, hev⟩ : ∃ ev : Int, (if (mvD room vs).find ⟨#[116, 101, 109, 112]⟩ = none then (6 : Int) else 0) = ev := ⟨_, rfl⟩
    rw [hev]
    have H6 := Lib.hid h6
    have K6 := Lib.hid ((Kx.of_below (X := X) HB5.out).trans k6)
    clear h6 k6 hev
    go_wp2_with fail
    refine (appendQ H6.out ⟨#[116, 101, 109, 112]⟩ f (by decide) (by omega)).mono ?_
    rintro e w7 ⟨rfl, h7, k7⟩
    rw [show (⟨#[116, 101, 109, 112]⟩ : ByteArray) = sTemp from rfl, HN1.out] at h7 ⊢
    have H7 := Lib.hid (show Qd X w7 p d2 from h7)
    have K7 := Lib.hid (K6.out.trans k7)
    clear h7 k7
    go_wp2_with fail
    refine (syncQ H7.out ⟨#[116, 101, 109, 112]⟩ (by decide)).mono ?_
    rintro e w8 ⟨rfl, h8, k8⟩
    rw [show (⟨#[116, 101, 109, 112]⟩ : ByteArray) = sTemp from rfl] at h8
    rw [show (⟨#[116, 101, 109, 112]⟩ : ByteArray) = sTemp from rfl, if_neg HN2.out]
    have H8 := Lib.hid h8
    have K8 := Lib.hid (K7.out.trans k8)
    clear h8 k8
    go_wp2_with fail
    refine (renameQ H8.out ⟨#[116, 101, 109, 112]⟩ ⟨#[118, 105, 101, 119, 115]⟩ (by decide) (by decide)).mono ?_
    rintro e w9 ⟨rfl, h9, k9⟩
    rw [show (⟨#[116, 101, 109, 112]⟩ : ByteArray) = sTemp from rfl, show (⟨#[118, 105, 101, 119, 115]⟩ : ByteArray) = sViews from rfl, HN3.out] at h9 ⊢
    have H9 := Lib.hid (show Qd X w9 p (mvD room [v]) from h9)
    have K9 := Lib.hid (K8.out.trans k9)
    clear h9 k9
    go_wp2_with fail
    go_ret
    exact ⟨rfl, H9.out, K9.out⟩
end Go.Proofs.YtoegdpcfhmjnaaaGreatDoor

namespace Go.Proofs.YtoegdpcfhmjnaaaGreatDoor
open Go.RowKit Go.Bl
attribute [local go_sem ↓] Go.wp_at_zero Go.wp_at_succ

def intLit (n : Int) : Lit := .int .i64 n
theorem intLit_inj (a b : Int) (h : intLit a = intLit b) : a = b := by simpa [intLit] using h
theorem lawI : Maps.Keyed Tryz.prog 3 := Maps.int_keyed Tryz.underlying3
theorem i64_wf {n : Int} (h : i64 n) : (Lit.int .i64 n).wf = true := by
  have h1 : IntKind.i64.min = -9223372036854775808 := rfl
  have h2 : IntKind.i64.max = 9223372036854775807 := rfl
  simp only [Lit.wf, h1, h2, Bool.and_eq_true, decide_eq_true_eq]
  exact h
theorem keyI {n : Int} (h : i64 n) : keyOf Tryz.prog 3 (.int .i64 n) = some (intLit n) := Maps.keyOf_int_mk Tryz.underlying3 (i64_wf h)
def hdF (s : Ms) (x : Int) : Option Value := if x ∈ s.v.nodes then some (.int .i64 (s.hd x)) else none
def rdF (s : Ms) (x : Int) : Option Value := if s.rd x = 0 then none else some (.int .i64 (s.rd x))
/-- A map of numbers by numbers that has just what g says; so many keys at most. -/
def MapI (w : World) (b : Nat) (g : Int → Option Value) (c : Nat) : Prop := ∃ n, n ≤ c ∧ MapV w Tryz.prog 3 intLit b n g
theorem MapI.keep {w w' : World} {b c : Nat} {g : Int → Option Value} {G : Nat → Prop} (h : MapI w b g c) (hk : Keeps G w w') (hb : ¬ G b) : MapI w' b g c := by
  obtain ⟨n, h1, h2⟩ := h
  exact ⟨n, h1, h2.keep hk hb⟩
theorem MapI.lt {w : World} {b c : Nat} {g : Int → Option Value} (h : MapI w b g c) : b < w.heap.size := by
  obtain ⟨n, h1, h2⟩ := h
  exact h2.lt
theorem MapV.congrI {w : World} {b n : Nat} {g g' : Int → Option Value} (h : MapV w Tryz.prog 3 intLit b n g) (hg : ∀ x, g x = g' x) : MapV w Tryz.prog 3 intLit b n g' := h.congr rfl hg

/-- A master m on the disk p, beside X; the blocks Y are kept from the disk, and F of them are the view's rows. -/
structure MstIn (X : Nat → Prop) (w : World) (m p : Nat) (room fail : Int) (vs : List Vw) (s : Ms) (c : Nat) (Y F : Nat → Prop) (bh br : Nat) (va vb vc : Value) : Prop where
  disk : Qd Y w p (mvD room vs)
  lx : ∀ k, k < 2 → X k
  xy : ∀ k, X k → Y k
  ym : Y m ∧ Y bh ∧ Y br
  yf : ∀ k, F k → Y k
  xm : ¬ X m ∧ ¬ X bh ∧ ¬ X br
  fm : ¬ F m ∧ ¬ F bh ∧ ¬ F br
  hne : bh ≠ br
  blk : w.heap[m]? = some (.cells #[.pointer (some ⟨p, 0, none⟩), .int .i64 s.v.ep, va, vb, vc, .int .i64 fail, .map (some bh), .map (some br)] 89 (0, 0))
  sl : VwSl w F s.v.L va vb vc
  heard : MapI w bh (hdF s) c
  ready : MapI w br (rdF s) c
  ups : VsUp 0 vs
  ne : vs ≠ []
  lenv : vs.length ≤ 21
  last : lastV noV vs = s.v
  right : RightV s.v
  rdge : ∀ x, 0 ≤ s.rd x
  xf : ∀ k, X k → ¬ F k
def Mst (X : Nat → Prop) (w : World) (m p : Nat) (room fail : Int) (vs : List Vw) (s : Ms) (c : Nat) : Prop := ∃ Y F bh br va vb vc, MstIn X w m p room fail vs s c Y F bh br va vb vc
section
variable {X : Nat → Prop} {w w' : World} {m p : Nat} {room fail : Int} {vs : List Vw} {s : Ms} {c : Nat} {Y F : Nat → Prop} {bh br : Nat} {va vb vc : Value}
theorem MstIn.fresh (h : MstIn X w m p room fail vs s c Y F bh br va vb vc) (hB : Below w.heap.size w w') : MstIn X w' m p room fail vs s c Y F bh br va vb vc :=
  { h with disk := h.disk.fresh hB, blk := (hB.block m (Array.getElem?_eq_some_iff.1 h.blk).1).trans h.blk, sl := h.sl.fresh hB, heard := h.heard.keep (Keeps.of_fresh hB fun _ => False) id, ready := h.ready.keep (Keeps.of_fresh hB fun _ => False) id }
theorem MstIn.lt (h : MstIn X w m p room fail vs s c Y F bh br va vb vc) : m < w.heap.size := (Array.getElem?_eq_some_iff.1 h.blk).1
theorem MstIn.lh (h : MstIn X w m p room fail vs s c Y F bh br va vb vc) : bh < w.heap.size := h.heard.lt
theorem MstIn.lr (h : MstIn X w m p room fail vs s c Y F bh br va vb vc) : br < w.heap.size := h.ready.lt
theorem MstIn.mh (h : MstIn X w m p room fail vs s c Y F bh br va vb vc) : m ≠ bh := fun e => by
  obtain ⟨n, _, D, ⟨es, cl, h1, _⟩, _⟩ := h.heard
  have := h.blk
  rw [e, h1] at this
  cases this
theorem MstIn.mr (h : MstIn X w m p room fail vs s c Y F bh br va vb vc) : m ≠ br := fun e => by
  obtain ⟨n, _, D, ⟨es, cl, h1, _⟩, _⟩ := h.ready
  have := h.blk
  rw [e, h1] at this
  cases this
theorem MstIn.nodes (h : MstIn X w m p room fail vs s c Y F bh br va vb vc) {x : Int} (hx : x ∈ s.v.nodes) : 1 ≤ x ∧ x ≤ 100 := by
  obtain ⟨y, hy, rfl⟩ := List.mem_map.1 hx
  have := h.right.bd y hy
  exact ⟨this.1, this.2.1⟩
theorem MstIn.cells (h : MstIn X w m p room fail vs s c Y F bh br va vb vc) : w.cell? ⟨m, 0, none⟩ = some (.pointer (some ⟨p, 0, none⟩)) ∧ w.cell? ⟨m, 1, none⟩ = some (.int .i64 s.v.ep) ∧ w.cell? ⟨m, 2, none⟩ = some va ∧ w.cell? ⟨m, 3, none⟩ = some vb ∧ w.cell? ⟨m, 4, none⟩ = some vc ∧
    w.cell? ⟨m, 5, none⟩ = some (.int .i64 fail) ∧ w.cell? ⟨m, 6, none⟩ = some (.map (some bh)) ∧ w.cell? ⟨m, 7, none⟩ = some (.map (some br)) :=
  ⟨cell_of_row w m 0 _ _ _ h.blk, cell_of_row w m 1 _ _ _ h.blk, cell_of_row w m 2 _ _ _ h.blk, cell_of_row w m 3 _ _ _ h.blk, cell_of_row w m 4 _ _ _ h.blk, cell_of_row w m 5 _ _ _ h.blk, cell_of_row w m 6 _ _ _ h.blk, cell_of_row w m 7 _ _ _ h.blk⟩
theorem Mst.fresh (h : Mst X w m p room fail vs s c) (hB : Below w.heap.size w w') : Mst X w' m p room fail vs s c := by
  obtain ⟨Y, F, bh, br, va, vb, vc, h⟩ := h
  exact ⟨Y, F, bh, br, va, vb, vc, h.fresh hB⟩
theorem Mst.right (h : Mst X w m p room fail vs s c) : RightV s.v := by
  obtain ⟨Y, F, bh, br, va, vb, vc, h⟩ := h
  exact h.right

set_option maxRecDepth 8000 in
/-- Is a node in the view? -/
theorem in_any (h : Mst X w m p room fail vs s c) (x : Int) : Calls Tryz.prog 32 #[.pointer (some ⟨m, 0, none⟩), .int .i64 x] w fun e w' => e = .returned (.bool (decide (x ∈ s.v.nodes))) ∧ w = w' := by
  obtain ⟨Y, F, bh, br, va, vb, vc, h⟩ := h
  have hc := contains_any w F va s.v.nodes h.sl.ch x
  obtain ⟨c0, c1, c2, c3, c4, c5, c6, c7⟩ := h.cells
  obtain ⟨A, ca, rfl, _, _⟩ := h.sl.ch.shape_ (n := s.v.L.length) (List.length_map _)
  have HC := Lib.hid hc
  clear hc h
  go_enter Tryz.func32, Tryz.ntmps32
  go_wp2_with fail
  refine HC.out.mono ?_
  rintro e w1 ⟨rfl, rfl⟩
  go_wp2_with fail
  go_ret
  exact ⟨rfl, rfl⟩
theorem MstIn.lookR (h : MstIn X w m p room fail vs s c Y F bh br va vb vc) {x : Int} (hx : i64 x) : (Instr.lookup 87 (.map (some br)) (.int .i64 x) false).run Tryz.prog w = .ok (.int .i64 (s.rd x)) w := by
  obtain ⟨n, _, h2⟩ := h.ready
  rw [h2.look lawI Tryz.underlying87 (z := .int .i64 0) (zeroInt w) (keyI hx)]
  unfold rdF
  split
  · rename_i e; rw [e]; rfl
  · rfl
theorem MstIn.lookH (h : MstIn X w m p room fail vs s c Y F bh br va vb vc) {x : Int} (hx : x ∈ s.v.nodes) : (Instr.lookup 87 (.map (some bh)) (.int .i64 x) false).run Tryz.prog w = .ok (.int .i64 (s.hd x)) w := by
  obtain ⟨n, _, h2⟩ := h.heard
  have h3 := h.nodes hx
  rw [h2.look lawI Tryz.underlying87 (z := .int .i64 0) (zeroInt w) (keyI (by unfold i64; omega))]
  unfold hdF
  rw [if_pos hx]
  rfl
set_option maxRecDepth 8000 in
/-- Is a node of the view ready? -/
theorem ready_any (h : Mst X w m p room fail vs s c) (x : Int) (hx : i64 x) : Calls Tryz.prog 15 #[.pointer (some ⟨m, 0, none⟩), .int .i64 x] w fun e w' => e = .returned (.bool (decide (x ∈ s.v.nodes) && decide (0 < s.rd x))) ∧ w = w' := by
  have hc := in_any h x
  obtain ⟨Y, F, bh, br, va, vb, vc, h⟩ := h
  obtain ⟨c0, c1, c2, c3, c4, c5, c6, c7⟩ := h.cells
  have hl := h.lookR hx
  have HC := Lib.hid hc
  have HL := Lib.hid hl
  clear hc h c0 c1 c2 c3 c4 c5 c6 hl
  obtain ⟨r, hr⟩ : ∃ r, s.rd x = r := ⟨_, rfl⟩
  rw [hr] at HL ⊢
  obtain ⟨b, hb⟩ : ∃ b, decide (x ∈ s.v.nodes) = b := ⟨_, rfl⟩
  rw [hb] at HC ⊢
  clear hr hb
  have hl := HL.out
  go_enter Tryz.func15, Tryz.ntmps15
  go_wp2_with fail
  refine HC.out.mono ?_
  rintro e w1 ⟨rfl, rfl⟩
  cases b
  · go_wp2_with fail
    go_ret
    exact ⟨rfl, rfl⟩
  · go_wp2_with fail
    go_ret
    exact ⟨rfl, rfl⟩
set_option maxRecDepth 8000 in
theorem heard_any (h : Mst X w m p room fail vs s c) (x : Int) : Calls Tryz.prog 14 #[.pointer (some ⟨m, 0, none⟩), .int .i64 x] w fun e w' => e = .returned (.int .i64 (if x ∈ s.v.nodes then s.hd x else -1)) ∧ w = w' := by
  have hc := in_any h x
  obtain ⟨Y, F, bh, br, va, vb, vc, h⟩ := h
  obtain ⟨c0, c1, c2, c3, c4, c5, c6, c7⟩ := h.cells
  by_cases hx : x ∈ s.v.nodes
  · have hl := h.lookH hx
    rw [decide_eq_true hx] at hc
    rw [if_pos hx]
    have HC := Lib.hid hc
    clear hc h c0 c1 c2 c3 c4 c5 c7 hx
    go_enter Tryz.func14, Tryz.ntmps14
    go_wp2_with fail
    refine HC.out.mono ?_
    rintro e w1 ⟨rfl, rfl⟩
    go_wp2_with fail
    go_ret
    exact ⟨rfl, rfl⟩
  · rw [decide_eq_false hx] at hc
    rw [if_neg hx]
    have HC := Lib.hid hc
    clear hc h c0 c1 c2 c3 c4 c5 c7 hx
    go_enter Tryz.func14, Tryz.ntmps14
    go_wp2_with fail
    refine HC.out.mono ?_
    rintro e w1 ⟨rfl, rfl⟩
    go_wp2_with fail
    go_ret
    exact ⟨rfl, rfl⟩
/-- Is it another one, and ready? -/
theorem others_any (h : Mst X w m p room fail vs s c) (mb nb : Nat) (k j : Int) (hm : w.cell? ⟨mb, 0, none⟩ = some (.pointer (some ⟨m, 0, none⟩))) (hn : w.cell? ⟨nb, 0, none⟩ = some (.int .i64 k)) (hj : i64 j) :
    Calls Tryz.prog 40 #[.int .i64 j, .pointer (some ⟨nb, 0, none⟩), .pointer (some ⟨mb, 0, none⟩)] w fun e w' => e = .returned (.bool (decide (j ≠ k) && (decide (j ∈ s.v.nodes) && decide (0 < s.rd j)))) ∧ w = w' := by
  have hc := ready_any h j hj
  obtain ⟨b, hb⟩ : ∃ b, (decide (j ∈ s.v.nodes) && decide (0 < s.rd j)) = b := ⟨_, rfl⟩
  rw [hb] at hc ⊢
  have HC := Lib.hid hc
  clear hc h hb
  by_cases e : j = k
  · have d1 : (j != k) = false := by rw [bne_eq_false_iff_eq]; exact e
    rw [decide_eq_false (show ¬ j ≠ k from fun h => h e)]
    clear e
    go_enter Tryz.func40, Tryz.ntmps40
    go_wp2_with fail
    go_ret
    exact ⟨rfl, rfl⟩
  · have d1 : (j != k) = true := by rw [bne_iff_ne]; exact e
    rw [decide_eq_true (show j ≠ k from e)]
    clear e
    go_enter Tryz.func40, Tryz.ntmps40
    go_wp2_with fail
    refine HC.out.mono ?_
    rintro e w1 ⟨rfl, rfl⟩
    cases b <;> (go_wp2_with fail; go_ret; exact ⟨rfl, rfl⟩)
def othersB (s : Ms) (k j : Int) : Bool := decide (j ≠ k) && (decide (j ∈ s.v.nodes) && decide (0 < s.rd j))
theorem others_eq (s : Ms) (k : Int) : s.v.nodes.any (othersB s k) = s.others k := by
  unfold Ms.others othersB
  rw [Bool.eq_iff_iff, List.any_eq_true, List.any_eq_true]
  constructor
  · rintro ⟨x, hx, h⟩
    simp only [Bool.and_eq_true, decide_eq_true_eq] at h
    exact ⟨x, hx, by simp only [Bool.and_eq_true, decide_eq_true_eq]; exact ⟨h.1, h.2.2⟩⟩
  · rintro ⟨x, hx, h⟩
    simp only [Bool.and_eq_true, decide_eq_true_eq] at h
    exact ⟨x, hx, by simp only [Bool.and_eq_true, decide_eq_true_eq]; exact ⟨h.1, hx, h.2⟩⟩
set_option maxHeartbeats 1000000 in
theorem indexO_any (h : Mst X w m p room fail vs s c) (v : Value) (G : Nat → Prop) (hv : Sl w G 1 intc v s.v.nodes) (mb nb : Nat) (k : Int) (hm : w.cell? ⟨mb, 0, none⟩ = some (.pointer (some ⟨m, 0, none⟩))) (hn : w.cell? ⟨nb, 0, none⟩ = some (.int .i64 k)) :
    Calls Tryz.prog 42 #[v, .func (.func 40) #[] #[.pointer (some ⟨nb, 0, none⟩), .pointer (some ⟨mb, 0, none⟩)]] w fun e w' => (∃ r : Int, e = .returned (.int .i64 r) ∧ decide (0 ≤ r) = s.others k) ∧ w = w' := by
  have hnd : ∀ x ∈ s.v.nodes, i64 x := fun x hx => by
    obtain ⟨Y, F, bh, br, va, vb, vc, h⟩ := h
    have := h.nodes hx
    unfold i64; omega
  have hf : ∀ x, x ∈ s.v.nodes → Calls Tryz.prog 40 #[.int .i64 x, .pointer (some ⟨nb, 0, none⟩), .pointer (some ⟨mb, 0, none⟩)] w fun e w' => e = .returned (.bool (othersB s k x)) ∧ w = w' := fun x hx => others_any h mb nb k x hm hn (hnd x hx)
  rw [← others_eq]
  obtain ⟨A, ca, rfl, hA1, hA2⟩ := hv.shape
  unfold maxLen at hA2
  have HF := Lib.hid hf
  have HV := Lib.hid hv
  obtain ⟨L, hL⟩ : ∃ L, s.v.nodes = L := ⟨_, rfl⟩
  rw [hL] at HF HV hA1 ⊢
  clear hf hv h hnd hm hn hL
  go_enter Tryz.func42, Tryz.ntmps42
  go_wp2_with fail
  go_loop [8, 5] (fun i _ => ∃ k' : Nat, k' ≤ L.length ∧ i = .int .i64 k' ∧ Hid (∀ e ∈ L.take k', othersB s k e = false)) (fun i _ => L.length - (intOf i).toNat)
  case atStart => exact ⟨0, Nat.zero_le _, rfl, Lib.hid (by simp)⟩
  case round =>
    obtain ⟨q, hk, rfl, hall⟩ := hrel
    by_cases hlt : q < L.length
    · have d0 : decide ((q : Int) < (L.length : Int)) = true := decide_eq_true (by omega)
      obtain ⟨b, o, rfl, _, _, hxx⟩ := HV.out.cell_ hlt
      have x0 := hxx 0 _ rfl
      rw [Nat.mul_one, Nat.add_zero] at x0
      have hc := HF.out L[q] (List.getElem_mem hlt)
      have htk := List.take_succ_eq_append_getElem hlt
      have hmem := List.getElem_mem hlt
      obtain ⟨x, hx⟩ : ∃ x, x = L[q] := ⟨_, rfl⟩
      rw [← hx] at x0 hc htk hmem
      obtain ⟨B, hB⟩ : ∃ B, othersB s k x = B := ⟨_, rfl⟩
      rw [hB] at hc
      have HC := Lib.hid hc
      have HTK := Lib.hid htk
      have HBB := Lib.hid hB
      have HM := Lib.hid hmem
      clear hxx hc htk hx hB hmem
      cases B
      · go_wp2_with fail
        refine HC.out.mono ?_
        rintro e w1 ⟨rfl, rfl⟩
        go_wp2_with fail
        go_round
        case rel =>
          refine ⟨q + 1, hlt, by go_num, Lib.hid fun e he => ?_⟩
          rw [HTK.out, List.mem_append, List.mem_singleton] at he
          rcases he with he | rfl
          · exact hall.out e he
          · exact HBB.out
        case measure => simp [intOf]; omega
      · go_wp2_with fail
        refine HC.out.mono ?_
        rintro e w1 ⟨rfl, rfl⟩
        go_wp2_with fail
        go_ret
        refine ⟨⟨q, rfl, ?_⟩, rfl⟩
        rw [decide_eq_true (by omega), eq_comm, List.any_eq_true]
        exact ⟨x, HM.out, HBB.out⟩
    · have hkl : q = L.length := by omega
      subst hkl
      have d0 : decide ((L.length : Int) < (L.length : Int)) = false := by simp
      have h1 := hall.out
      rw [List.take_length] at h1
      have H1 := Lib.hid h1
      clear h1 hall
      go_wp2_with fail
      go_ret
      refine ⟨⟨-1, rfl, ?_⟩, rfl⟩
      rw [decide_eq_false (by omega), eq_comm, List.any_eq_false]
      exact fun x hx => by rw [H1.out x hx]; decide
theorem contO_any (h : Mst X w m p room fail vs s c) (v : Value) (G : Nat → Prop) (hv : Sl w G 1 intc v s.v.nodes) (mb nb : Nat) (k : Int) (hm : w.cell? ⟨mb, 0, none⟩ = some (.pointer (some ⟨m, 0, none⟩))) (hn : w.cell? ⟨nb, 0, none⟩ = some (.int .i64 k)) :
    Calls Tryz.prog 41 #[v, .func (.func 40) #[] #[.pointer (some ⟨nb, 0, none⟩), .pointer (some ⟨mb, 0, none⟩)]] w fun e w' => e = .returned (.bool (s.others k)) ∧ w = w' := by
  have hc := indexO_any h v G hv mb nb k hm hn
  obtain ⟨A, ca, rfl, hA1, hA2⟩ := hv.shape
  obtain ⟨B, hB⟩ : ∃ B, s.others k = B := ⟨_, rfl⟩
  rw [hB] at hc ⊢
  have HC := Lib.hid hc
  clear hc h hv hm hn hB
  go_enter Tryz.func41, Tryz.ntmps41
  go_wp2_with fail
  refine HC.out.mono ?_
  rintro e w1 ⟨⟨r, rfl, hr⟩, rfl⟩
  have HR := Lib.hid hr
  clear hr
  by_cases h0 : 0 ≤ r
  · have d0 : decide (0 ≤ r) = true := decide_eq_true h0
    go_wp2_with fail
    go_ret
    exact ⟨by rw [← HR.out, d0]; rfl, rfl⟩
  · have d0 : decide (0 ≤ r) = false := decide_eq_false h0
    go_wp2_with fail
    go_ret
    exact ⟨by rw [← HR.out, d0]; rfl, rfl⟩
end
end Go.Proofs.YtoegdpcfhmjnaaaGreatDoor
