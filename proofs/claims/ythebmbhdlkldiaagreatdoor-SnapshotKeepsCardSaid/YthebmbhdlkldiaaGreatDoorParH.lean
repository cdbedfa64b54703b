/- The document's State.Parts. Under the stated premises on sizes. -/
import Derived.Test.YthebmbhdlkldiaaGreatDoorParA
import Derived.Test.YthebmbhdlkldiaaGreatDoorStaR
/- The law's 'as': parts as the document has them. Under the stated premises on sizes. -/
namespace Go.Proofs.YthebmbhdlkldiaaGreatDoor
open Go.RowKit Go.Bl
attribute [local go_sem ↓] Go.wp_at_zero Go.wp_at_succ

theorem infoMStream : (Tryz.prog.info? 107).map (fun i => (i.zero, i.size, i.bytes)) = some (some (.agg #[.string ByteArray.empty, .slice none 0 0, .slice none 0 0]), 3, 64) := by kernel_rfl
theorem elMStream : El Tryz.prog 34 107 3 64 smc := ⟨Tryz.underlying34, ⟨_, infoMStream, rfl⟩, by decide, by decide, fun _ => rfl, smc_one⟩
theorem infoMReq : (Tryz.prog.info? 108).map (fun i => (i.zero, i.size, i.bytes)) = some (some (.agg #[.int .i64 0, .int .i64 0, .int .i64 0, .int .i64 0, .int .i64 0, .int .i64 0]), 6, 48) := by kernel_rfl
theorem elMReq : El Tryz.prog 35 108 6 48 Ded.onec := ⟨Tryz.underlying35, ⟨_, infoMReq, rfl⟩, by decide, by decide, fun _ => rfl, Ded.onec_one⟩

end Go.Proofs.YthebmbhdlkldiaaGreatDoor

namespace Go.Proofs.YthebmbhdlkldiaaGreatDoor
open Go.RowKit Go.Bl
attribute [local go_sem ↓] Go.wp_at_zero Go.wp_at_succ

theorem drewN_below' (w : World) (q : Nat) : Below w.heap.size w (w.drewN q) := ⟨rfl, rfl, rfl, Nat.le_refl _, fun _ _ => rfl⟩
/-- The first loop. -/
def MPRel (w2 : World) (g q : Nat) (s : St) (ks : List ByteArray) (i : Value) (wr : World) : Prop :=
  ∃ (k : Nat) (sv : Value) (S : List SmS), k ≤ ks.length ∧ i = .int .i64 k ∧ wr.heap[q]? = some (.cells #[.int .i64 s.ap, sv, .slice none 0 0] 37 (0, 0)) ∧
    wr.heap[g]? = some (.cells #[.int .i64 0, .slice none 0 0, .slice none 0 0] 37 (0, 0)) ∧ SmRow wr w2.heap.size 107 sv S ∧ S.map SmS.sp = (ks.take k).map (spOf s.L) ∧ Keeps (fun k => k = q) w2 wr
/-- What 'x := Stream{..}' leaves. -/
def MXCut (wr : World) (n : ByteArray) (es : List Ev) (s6 : Value) (wx : World) : Prop :=
  ∃ xb ev, s6 = .pointer (some ⟨xb, 0, none⟩) ∧ wr.heap.size ≤ xb ∧ wx.heap[xb]? = some (.cells #[.string n, ev, .slice none 0 0] 107 (0, 0)) ∧ Sl wx (fun b => wr.heap.size ≤ b ∧ b ≠ xb) 2 evc ev es ∧ Below wr.heap.size wr wx
theorem MXCut.new {wr wv : World} {n : ByteArray} {es : List Ev} {v : Value} (hB : Below wr.heap.size wr wv) (hS : Sl wv (fun b => wr.heap.size ≤ b) 2 evc v es) :
    MXCut wr n es (.pointer (some ⟨wv.heap.size, 0, none⟩)) (wv.alloc (.cells #[.string n, v, .slice none 0 0] 107)) :=
  ⟨_, v, rfl, hB.size, heap_alloc_new wv _, (hS.bound.fresh ((Below.refl _ wv).alloc (Nat.le_refl _) _)).mono (fun b _ h => ⟨h.1, by have := h.2; omega⟩), hB.alloc hB.size _⟩
theorem MXCut.old {wr wv : World} {n : ByteArray} {es : List Ev} {v : Value} {a b c : Value} (hB : Below wr.heap.size wr wv) (hblk : wv.heap[wr.heap.size]? = some (.cells #[a, b, c] 107 (0, 0))) (hS : Sl wv (fun b => wr.heap.size + 1 ≤ b) 2 evc v es) :
    MXCut wr n es (.pointer (some ⟨wr.heap.size, 0, none⟩)) (((wv.setCell ⟨wr.heap.size, 0, none⟩ (.string n)).setCell ⟨wr.heap.size, 1, none⟩ v).setCell ⟨wr.heap.size, 2, none⟩ (.slice none 0 0)) := by
  have hks : Keeps (fun q => q = wr.heap.size) wv _ := (((Keeps.refl (fun q => q = wr.heap.size) wv).setCell (p := ⟨wr.heap.size, 0, none⟩) (fun _ => rfl) (.string n)).setCell (p := ⟨wr.heap.size, 1, none⟩) (fun _ => rfl) v).setCell (p := ⟨wr.heap.size, 2, none⟩) (fun _ => rfl) (.slice none 0 0)
  exact ⟨_, v, rfl, Nat.le_refl _, setCell_block' (o := 2) (setCell_block' (o := 1) (setCell_block' (o := 0) hblk _) _) _, (hS.keep hks (fun k _ h e => by omega)).mono (fun b _ h => ⟨by omega, by omega⟩), hB.trans (hks.below hB.size (fun q hq => by omega))⟩
/-- The inner loop: places. -/
def MXRel (wx : World) (xb : Nat) (n : ByteArray) (ev : Value) (l : List Idx.Kp) (i : Value) (wr : World) : Prop :=
  ∃ (j : Nat) (pv : Value), j ≤ l.length ∧ i = .int .i64 ((j : Int) + 1) ∧ wr.heap[xb]? = some (.cells #[.string n, ev, pv] 107 (0, 0)) ∧ Own wr wx.heap.size 3 1 intc pv ((l.take j).map Idx.Kp.pos) ∧ Keeps (fun k => k = xb) wx wr
/-- The requests' loops. -/
def MQRel (w5 : World) (g q : Nat) (ap : Int) (sv : Value) (T : List Ded.En) (js : List Int) (i : Value) (wr : World) : Prop :=
  ∃ (k : Nat) (rv : Value), k ≤ js.length ∧ i = .int .i64 k ∧ wr.heap[q]? = some (.cells #[.int .i64 ap, sv, rv] 37 (0, 0)) ∧
    wr.heap[g]? = some (.cells #[.int .i64 0, .slice none 0 0, .slice none 0 0] 37 (0, 0)) ∧ Own wr w5.heap.size 108 6 Ded.onec rv ((js.take k).flatMap fun x => (seqsOf T x).map (reqL T x)) ∧ Keeps (fun k => k = q) w5 wr
def MRRel (w5 w6 : World) (g q : Nat) (ap : Int) (sv rv0 : Value) (T D : List Ded.En) (x : Int) (qs : List Int) (i : Value) (wr : World) : Prop :=
  ∃ (j : Nat) (rv : Value), j ≤ qs.length ∧ i = .int .i64 j ∧ wr.heap[q]? = some (.cells #[.int .i64 ap, sv, rv] 37 (0, 0)) ∧
    wr.heap[g]? = some (.cells #[.int .i64 0, .slice none 0 0, .slice none 0 0] 37 (0, 0)) ∧ Own wr w5.heap.size 108 6 Ded.onec rv (D ++ (qs.take j).map (reqL T x)) ∧ Keeps (fun k => k = q) w5 wr ∧
    Keeps (fun k => k = q ∨ rv0.ownBlock = some k) w6 wr ∧ ∀ b, rv.ownBlock = some b → rv0.ownBlock = some b ∨ w6.heap.size ≤ b
set_option maxRecDepth 20000 in
set_option maxHeartbeats 4000000 in
theorem mparts_any (w : World) (p : Nat) (s : St) (F : Nat → Prop) (h : MtAt w p s F) (hL : s.L.length ≤ 100000) (hTl : s.T.length ≤ 100000) (hst : ∀ o ∈ s.L, o.stream.size ≤ 1000000) (hok : Ded.OkL s.T) :
    Calls Tryz.prog 13 #[.pointer (some ⟨p, 0, none⟩)] w (GaveP w (ptOf s)) := by
  have hpl : p < w.heap.size := by
    obtain ⟨px, pt, FX, FT, h⟩ := h
    exact h.lt _ h.fm
  obtain ⟨px, pt, FX, FT, h⟩ := h
  have hB0 : Below w.heap.size w ((w.alloc (.cells #[.int .i64 0, .slice none 0 0, .slice none 0 0] 37)).alloc (.cells #[.int .i64 s.ap, .slice none 0 0, .slice none 0 0] 37)) := ((Below.refl _ w).alloc (Nat.le_refl _) _).alloc (by simp) _
  have hb1 : ((w.alloc (.cells #[.int .i64 0, .slice none 0 0, .slice none 0 0] 37)).alloc (.cells #[.int .i64 s.ap, .slice none 0 0, .slice none 0 0] 37)).heap[w.heap.size]? = some (.cells #[.int .i64 0, .slice none 0 0, .slice none 0 0] 37 (0, 0)) := (Below.heap_alloc _ _ _ (by simp)).trans (heap_alloc_new w _)
  have hb2 := heap_alloc_new (w.alloc (.cells #[.int .i64 0, .slice none 0 0, .slice none 0 0] 37)) (.cells #[.int .i64 s.ap, .slice none 0 0, .slice none 0 0] 37)
  rw [World.size_alloc] at hb2
  have hsz : ((w.alloc (.cells #[.int .i64 0, .slice none 0 0, .slice none 0 0] 37)).alloc (.cells #[.int .i64 s.ap, .slice none 0 0, .slice none 0 0] 37)).heap.size = w.heap.size + 2 := by simp
  have h1 := (h.fresh ((Below.refl _ w).alloc (Nat.le_refl _) (.cells #[.int .i64 0, .slice none 0 0, .slice none 0 0] 37)))
  have c2 := h1.c2
  have H := Lib.hid h
  have HST := Lib.hid hst
  have HOK := Lib.hid hok
  clear h hst hok h1
  go_enter Tryz.func13, Tryz.ntmps13
  go_upto_region 2 with (fail)
  generalize (w.alloc (.cells #[.int .i64 0, .slice none 0 0, .slice none 0 0] 37)).alloc (.cells #[.int .i64 s.ap, .slice none 0 0, .slice none 0 0] 37) = w1 at hB0 hb1 hb2 hsz ⊢
  obtain ⟨g, hg⟩ : ∃ g, w.heap.size = g := ⟨_, rfl⟩
  have HG := Lib.hid hg
  have HB1 := Lib.hid hB0
  rw [hg] at hb1 hb2 hsz hpl ⊢
  obtain ⟨q, hq⟩ : ∃ q, g + 1 = q := ⟨_, rfl⟩
  rw [hq] at hb2 ⊢
  have hgq : g < q := by omega
  have hq2 : w1.heap.size = q + 1 := by omega
  have HZ := Lib.hid hb1
  have HQ := Lib.hid hb2
  have h1 := H.out.fresh hB0
  have c0 := h1.c0
  have HI := Lib.hid h1.idx
  clear hg hq hb1 hb2 hB0 hsz c2 h1
  go_wp2_with fail
  refine (Idx.rnames_any w1 px s.L FX HI.out (by omega)).mono ?_
  rintro e w2 ⟨vn, rfl, hB2, hSn⟩
  obtain ⟨ks, hks⟩ : ∃ ks, ks = Idx.namesOf s.L := ⟨_, rfl⟩
  have hKs := Idx.namesOf_spec s.L
  rw [← hks] at hSn hKs
  obtain ⟨An, cn, rfl, hn1, hn2⟩ := hSn.shape
  unfold maxLen at hn2
  have hkl := Idx.streams_len hKs
  have HKS := Lib.hid hKs
  have HKE := Lib.hid hks
  have HSN := Lib.hid hSn
  have HZ := Lib.hid ((Keeps.of_fresh hB2 (fun _ => False)).grownTo HZ.out id)
  have HQ := Lib.hid ((Keeps.of_fresh hB2 (fun _ => False)).grownTo HQ.out id)
  have HB2 := Lib.hid (HB1.out.trans (hB2.mono HB1.out.size))
  obtain ⟨B, hBe⟩ : ∃ B, w2.heap.size = B := ⟨_, rfl⟩
  have HBE := Lib.hid hBe
  have hqB : q < B := by have := hB2.size; omega
  have hgB : w.heap.size ≤ B := by have := HG.out; omega
  clear hKs hks hSn hB2 c0 HI HB1 hBe
  go_wp2_with fail
  go_loopw [5, 6, 7, 8] (fun i _ _ _ wr => MPRel w2 g q s ks i wr) (fun i _ _ _ _ => ks.length - (Go.RowKit.intOf i).toNat)
  case atStart => exact ⟨0, .slice none 0 0, [], Nat.zero_le _, rfl, HQ.out, HZ.out, SmRow.nil _ _ _, by simp, Keeps.refl _ _⟩
  case round =>
    obtain ⟨w3, rfl⟩ : ∃ z, z = wr := ⟨_, rfl⟩
    obtain ⟨k, sv, S, hk, rfl, hQ3, hZ3, hR3, hM3, hK3⟩ := hrel
    have hB3 : Below w.heap.size w w3 := HB2.out.trans (hK3.below HB2.out.size (fun k e => by have := HG.out; omega))
    rw [HBE.out] at hR3
    have hs3 : B ≤ w3.heap.size := by have := hK3.size; have := HBE.out; omega
    have HQ3 := Lib.hid hQ3
    have HZ3 := Lib.hid hZ3
    have HR3 := Lib.hid hR3
    have HM3 := Lib.hid hM3
    have HB3 := Lib.hid hB3
    have HK3 := Lib.hid hK3
    obtain ⟨As, cs, rfl, _, _⟩ := hR3.1.shape_ rfl
    have h3 := H.out.fresh hB3
    have c0 := h3.c0
    have c1 := h3.c1
    have HI3 := Lib.hid h3.idx
    clear hQ3 hZ3 hR3 hM3 hB3 hK3 h3
    by_cases hlt : k < ks.length
    · have d0 : decide ((k : Int) < (ks.length : Int)) = true := by simp; omega
      obtain ⟨bn, on, rfl, _, _, hxx⟩ := (HSN.out.keep HK3.out (fun b _ h e => by omega)).cell_ hlt
      have x0 := hxx 0 _ rfl
      simp only [Nat.add_zero, Nat.mul_one] at x0
      have hnm : ks[k] ∈ ks := List.getElem_mem hlt
      have hsz : ks[k].size ≤ maxLen := by have := Idx.streams_size HKS.out HST.out ks[k] hnm; unfold maxLen; omega
      obtain ⟨n, hn⟩ : ∃ n, ks[k] = n := ⟨_, rfl⟩
      have HN := Lib.hid hn
      rw [hn] at x0 hsz
      obtain ⟨l, hl⟩ : ∃ l, Idx.ofS s.L n = l := ⟨_, rfl⟩
      have hle := Idx.ofS_le s.L n
      rw [hl] at hle
      have hver : ∀ z : Nat, Calls Tryz.prog _ #[.pointer (some ⟨px, 0, none⟩), .string n] (w3.drewN z) fun e w' => e = .returned (.int .i64 (l.length : Nat)) ∧ w' = w3.drewN z := fun z => by
        have h := Idx.rversion_any (w3.drewN z) px s.L FX (HI3.out.fresh (drewN_below' w3 z)) n (by omega)
        rw [hl] at h
        exact h.mono fun e w' h => ⟨h.1, h.2.symm⟩
      have hrng := fun (wz : World) (hz : Below w3.heap.size w3 wz) => Idx.rrange_any wz px s.L FX (HI3.out.fresh hz) n 1 ((l.length : Nat) : Int) (by omega)
      have hpos := fun (wz : World) (hz : Idx.RefAt wz px s.L FX) (j : Int) => Idx.rpos_any wz px s.L FX hz n j (by omega)
      rw [hl] at hpos hrng
      have hcut : Idx.rangeOf l 1 ((l.length : Nat) : Int) = l.map Idx.Kp.e := by unfold Idx.rangeOf; simp
      have HL := Lib.hid hl
      have HVE := Lib.hid hver
      rw [hcut] at hrng
      have HRA := Lib.hid hrng
      have HPO := Lib.hid hpos
      have hki : ((0 : Int) ≤ (k : Int)) ∧ ((k : Int) < (ks.length : Int)) := by omega
      obtain ⟨hki1, hki2⟩ := hki
      clear hxx hn hl hver hrng hpos hcut hnm
      go_wp2_with fail
      go_quiet (refine Calls.quiet_of_same (HVE.out _))
      go_upto_region 7 with (fail)
      have hBq0 : Below w3.heap.size w3 (w3.drewN nq) := drewN_below' w3 nq
      have HX0 := Lib.hid x0
      have c0 : (w3.drewN nq).cell? ⟨p, 0, none⟩ = some (.pointer (some ⟨px, 0, none⟩)) := c0
      have x0 : (w3.drewN nq).cell? ⟨bn, on + k, none⟩ = some (.string n) := x0
      have hsz4 : (w3.drewN nq).heap.size = w3.heap.size := rfl
      generalize w3.drewN nq = w4 at hBq0 c0 x0 hsz4 ⊢
      have HBQ0 := Lib.hid hBq0
      have HSZ4 := Lib.hid hsz4
      clear hBq0 hsz4
      go_cut [7] (fun s7 wx => MXCut w4 n (l.map Idx.Kp.e) s7 wx)
      case first =>
        have hnew0 := World.new_ne w4 _ c0
        have hnew1 := World.new_ne w4 _ x0
        have HD := Lib.hid (show Below w4.heap.size w4 w4.drew from ⟨rfl, rfl, rfl, Nat.le_refl _, fun _ _ => rfl⟩)
        have HRB := Lib.hid (fun (wz : World) (hz : Below w4.heap.size w4 wz) => HRA.out wz (HBQ0.out.trans (hz.mono HBQ0.out.size)))
        go_region_held3 (fun x => x.cell? ⟨p, 0, none⟩ = some (.pointer (some ⟨px, 0, none⟩)) ∧ x.cell? ⟨bn, on + k, none⟩ = some (.string n))
          (first | exact ⟨c0, x0⟩ | go_keep)
          (first
            | (go_at_call 53
               refine (HRB.out _ (by first | exact HD.out | exact HD.out.alloc (Nat.le_refl _) _)).mono ?_
               rintro e wv ⟨v, rfl, hBv, hSv⟩
               obtain ⟨Av, cv, rfl, _, _⟩ := hSv.shape_ (show (l.map Idx.Kp.e).length = l.length by simp)
               have hBv' : Below w4.heap.size w4 wv := by
                 first
                 | exact HD.out.trans ⟨hBv.os, hBv.tape, hBv.output, hBv.size, hBv.block⟩
                 | exact (HD.out.alloc (Nat.le_refl _) _).trans (hBv.mono (by simp))
               have c0 := (hBv'.cell (p := ⟨p, 0, none⟩) (lt_of_cellP c0)).trans c0
               have x0 := (hBv'.cell (p := ⟨bn, on + k, none⟩) (lt_of_cellP x0)).trans x0
               try
                 (have hblk := (Keeps.of_fresh hBv (fun _ => False)).grownTo (heap_alloc_new w4.drew (.cells #[.string ⟨#[]⟩, .slice none 0 0, .slice none 0 0] 107)) id
                  have q0 : wv.cell? ⟨w4.heap.size, 0, none⟩ = some (.string ⟨#[]⟩) := cell_of_row wv _ 0 _ _ _ hblk
                  have q1 : wv.cell? ⟨w4.heap.size, 1, none⟩ = some (.slice none 0 0) := cell_of_row wv _ 1 _ _ _ hblk
                  have q2 : wv.cell? ⟨w4.heap.size, 2, none⟩ = some (.slice none 0 0) := cell_of_row wv _ 2 _ _ _ hblk
                  have f0 : wv.frozen? ⟨w4.heap.size, 0, none⟩ = false := frozen_block hblk 0
                  have f1 : wv.frozen? ⟨w4.heap.size, 1, none⟩ = false := frozen_block hblk 1
                  have f2 : wv.frozen? ⟨w4.heap.size, 2, none⟩ = false := frozen_block hblk 2
                  have HBLK := Lib.hid hblk
                  clear hblk)
               have HBw := Lib.hid hBv
               have HBv := Lib.hid hBv'
               have HSv := Lib.hid hSv
               clear hBv hSv hBv'))
        all_goals go_wp2_with fail
        all_goals go_meet
        all_goals first
          | exact MXCut.new HBv.out HSv.out
          | exact MXCut.old HBv.out HBLK.out (HSv.out.mono (fun b _ h => by simpa using h))
      case rest =>
        obtain ⟨xb, ev, rfl, hxb, hX, hS, hB4⟩ := hcut
        rw [HSZ4.out] at hxb hS
        have hB4 := HBQ0.out.trans (hB4.mono HBQ0.out.size)
        have c0 := (H.out.fresh HB3.out).c0
        have HRA : Hid True := Lib.hid trivial
        obtain ⟨Av, cv, rfl, hc1, hc2⟩ := hS.shape_ (show (l.map Idx.Kp.e).length = l.length by simp)
        unfold maxLen at hc2
        have z1 : wc.cell? ⟨xb, 1, none⟩ = some (.slice Av l.length cv) := cell_of_row wc xb 1 _ _ _ hX
        have HX := Lib.hid hX
        have HS4 := Lib.hid hS
        have HB4 := Lib.hid hB4
        have hxl := (Array.getElem?_eq_some_iff.1 hX).1
        clear hX hS hB4 HVE HRA x0
        go_wp2_with fail
        go_loopw [8] (fun i wr => MXRel wc xb n (.slice Av l.length cv) l i wr) (fun i _ => l.length + 1 - (Go.RowKit.intOf i).toNat)
        case atStart => exact ⟨0, .slice none 0 0, Nat.zero_le _, rfl, HX.out, Own.nil_ _ _ _ _ _, Keeps.refl _ _⟩
        case round =>
          obtain ⟨j, pv, hj, rfl, hX5, hO5, hK5⟩ := hrel
          obtain ⟨Ap, cp, rfl, hp1, hp2⟩ := hO5.shape_ (show ((l.take j).map Idx.Kp.pos).length = j by simp; omega)
          have HX5 := Lib.hid hX5
          have HO5 := Lib.hid hO5
          have HK5 := Lib.hid hK5
          have hBq : Below w3.heap.size w3 wr := HB4.out.trans (hK5.below HB4.out.size (fun k e => by omega))
          have HI5 := Lib.hid (HI3.out.fresh hBq)
          have c0 := (hBq.cell (p := ⟨p, 0, none⟩) (lt_of_cellP c0)).trans c0
          have x0 := (hBq.cell (p := ⟨bn, on + k, none⟩) (lt_of_cellP HX0.out)).trans HX0.out
          have HBq := Lib.hid hBq
          clear hX5 hO5 hK5 hBq
          by_cases hjl : j < l.length
          · have d1 : decide ((j : Int) + 1 ≤ (l.length : Int)) = true := decide_eq_true (by omega)
            have m1 : wr.cell? ⟨xb, 2, none⟩ = some (.slice Ap j cp) := cell_of_row wr xb 2 _ _ _ HX5.out
            have hpo : Idx.posOf l ((j : Int) + 1) = l[j].pos := by
              unfold Idx.posOf
              rw [if_neg (by omega), show ((j : Int) + 1 - 1).toNat = j by omega, List.getElem?_eq_getElem hjl]
              rfl
            have hca := HPO.out wr.drew (HI5.out.fresh ⟨rfl, rfl, rfl, Nat.le_refl _, fun _ _ => rfl⟩) ((j : Int) + 1)
            rw [hpo] at hca
            have hwj : IntKind.i64.wrap ((j : Int) + 1 + 1) = (j : Int) + 1 + 1 := IntWalk.i64_in _ (by omega)
            have HCA := Lib.hid hca
            have hown := HO5.out.lt
            have HOW := Lib.hid hown
            clear hpo hca hown
            go_wp2_with fail
            refine wp_region_noPanic ?_
            refine region_loads 13 11 (fun x => x.cell? ⟨xb, 2, none⟩ = some (.slice Ap j cp) ∧ x.cell? ⟨p, 0, none⟩ = some (.pointer (some ⟨px, 0, none⟩)) ∧ x.cell? ⟨bn, on + k, none⟩ = some (.string n)) (by kernel_rfl) (by kernel_rfl) (fun _ _ _ _ h => h) ⟨m1, c0, x0⟩
              ⟨.pointer (some ⟨xb, 2, none⟩), .inl ⟨rfl, fun x hx => by go_simp⟩, .slice Ap j cp, .inl ⟨rfl, fun x hx => by obtain ⟨hx1, hx2, hx3⟩ := hx; go_simp⟩, .pointer (some ⟨p, 0, none⟩), .inl ⟨rfl, fun x hx => by go_simp⟩, .pointer (some ⟨p, 0, none⟩), .inl ⟨rfl, fun x hx => by go_simp⟩, .pointer (some ⟨p, 0, none⟩), .inl ⟨rfl, fun x hx => by go_simp⟩, .pointer (some ⟨px, 0, none⟩), .inl ⟨rfl, fun x hx => by obtain ⟨hx1, hx2, hx3⟩ := hx; go_simp⟩, .slice (some ⟨bn, on, none⟩) ks.length cn, .inl ⟨rfl, fun x hx => by go_simp⟩, .int .i64 k, .inl ⟨rfl, fun x hx => by go_simp⟩, .pointer (some ⟨bn, on + k, none⟩), .inl ⟨rfl, fun x hx => by go_simp⟩, .string n, .inl ⟨rfl, fun x hx => by obtain ⟨hx1, hx2, hx3⟩ := hx; go_simp⟩, .int .i64 ((j : Int) + 1), .inl ⟨rfl, fun x hx => by go_simp⟩, rfl⟩ ?_
            simp only [List.drop_succ_cons, List.drop_zero]
            refine wpListS_step (fun K hK => ?_)
            go_simp
            refine HCA.out.mono ?_
            rintro e w8 ⟨rfl, rfl⟩
            refine hK _ _ (fun _ => ⟨m1, c0, x0⟩) ?_
            clear hK K
            refine wpListS_step (fun K hK => ?_)
            go_simp
            have hal : Below wr.heap.size wr (wr.drew.alloc (.cells #[.int .i64 l[j].pos] 3)) := (show Below wr.heap.size wr wr.drew from ⟨rfl, rfl, rfl, Nat.le_refl _, fun _ _ => rfl⟩).alloc (Nat.le_refl _) _
            have HAL := Lib.hid hal
            refine hK _ _ (fun _ => ⟨(hal.cell (p := ⟨xb, 2, none⟩) (lt_of_cellP m1)).trans m1, (hal.cell (p := ⟨p, 0, none⟩) (lt_of_cellP c0)).trans c0, (hal.cell (p := ⟨bn, on + k, none⟩) (lt_of_cellP x0)).trans x0⟩) ?_
            clear hK K hal
            refine wpListS_late (Nat.le_refl _) ?_
            go_wp2_with (at_builtin; refine elIntP.append _ (by rfl) _ _ rfl wc.heap.size _ ((l.take j).map Idx.Kp.pos) rfl (HO5.out.fresh HAL.out) _ _ [l[j].pos] rfl (Sl.single (heap_alloc_new _ _) rfl) ?_ ?_ ?_; (simp; omega); (have := HK5.out.size; simp; omega); intro v' w9 hown' hgrow hat; (obtain ⟨Ap', cp', rfl, _, _⟩ := hown'.shape_ (show ((l.take j).map Idx.Kp.pos ++ [l[j].pos]).length = j + 1 by simp; omega)); have hnx := (fun e => by have := (HOW.out xb e).1; omega : ¬ ((Value.slice Ap j cp).ownBlock = some xb)); have hx9 := (Keeps.of_grown hgrow).grownTo ((Keeps.of_fresh HAL.out (fun _ => False)).grownTo HX5.out id) hnx; have m3 := cell_of_row w9 xb 2 _ _ _ hx9; have f3 := frozen_block hx9 2; have HX9 := Lib.hid hx9; have HO9 := Lib.hid hown'; have HGR := Lib.hid hgrow; clear hown' hgrow hat hx9 hnx)
            refine NoPanic.normal ?_
            have hkS := Keeps.one w9 xb 2 (.slice Ap' (j + 1) cp')
            have hX10 := setCell_block' (o := 2) HX9.out (.slice Ap' (j + 1) cp')
            have hO10 : Own (w9.setCell ⟨xb, 2, none⟩ (.slice Ap' (j + 1) cp')) wc.heap.size 3 1 intc (.slice Ap' (j + 1) cp') ((l.take (j + 1)).map Idx.Kp.pos) := by
              rw [List.take_succ_eq_append_getElem hjl, List.map_append, List.map_cons, List.map_nil]
              exact HO9.out.keep hkS (fun b hb e => by have := (HO9.out.lt b hb).1; omega)
            have hK10 : Keeps (fun k => k = xb) wc (w9.setCell ⟨xb, 2, none⟩ (.slice Ap' (j + 1) cp')) := by
              have hfr := HK5.out.trans (Keeps.of_fresh HAL.out (fun k => k = xb))
              exact (hfr.andThen (Keeps.of_grown HGR.out) (fun k hk e => by have := (HOW.out k e).1; omega)).trans hkS
            generalize w9.setCell ⟨xb, 2, none⟩ (.slice Ap' (j + 1) cp') = w10 at hX10 hO10 hK10 ⊢
            have HX10 := Lib.hid hX10
            have HO10 := Lib.hid hO10
            have HK10 := Lib.hid hK10
            clear hX10 hO10 hK10 hkS m1 m3 f3
            go_wp2_with fail
            go_roundw
            case rel => exact ⟨j + 1, _, hjl, by go_num, HX10.out, HO10.out, HK10.out⟩
            case measure => simp [Go.RowKit.intOf]; omega
          · have hjd : j = l.length := by omega
            subst hjd
            have d1 : decide ((l.length : Int) + 1 ≤ (l.length : Int)) = false := decide_eq_false (by omega)
            have m0 : wr.cell? ⟨xb, 0, none⟩ = some (.string n) := cell_of_row wr xb 0 _ _ _ HX5.out
            have m1 : wr.cell? ⟨xb, 1, none⟩ = some (.slice Av l.length cv) := cell_of_row wr xb 1 _ _ _ HX5.out
            have m2 : wr.cell? ⟨xb, 2, none⟩ = some (.slice Ap l.length cp) := cell_of_row wr xb 2 _ _ _ HX5.out
            have hq5 := (HBq.out.block q (by omega)).trans HQ3.out
            have y1 : wr.cell? ⟨q, 1, none⟩ = some (.slice As S.length cs) := cell_of_row wr q 1 _ _ _ hq5
            have hO6 := HO5.out
            rw [List.take_length] at hO6
            obtain ⟨x, hx⟩ : ∃ x : SmS, x.sp = spOf s.L n ∧ x.ev = .slice Av l.length cv ∧ x.pv = .slice Ap l.length cp := ⟨⟨spOf s.L n, _, _, rfl, rfl⟩, rfl, rfl, rfl⟩
            have hsp : spOf s.L n = ⟨n, l.map Idx.Kp.e, l.map Idx.Kp.pos⟩ := by unfold spOf; rw [HL.out]
            have hxc : (#[.string n, .slice Av l.length cv, .slice Ap l.length cp] : Array Value).toList = smc x := by unfold smc; rw [hx.1, hx.2.1, hx.2.2]; rfl
            have hSx : Sl wr (fun b => w3.heap.size ≤ b ∧ b ≠ xb) 2 evc (.slice Av l.length cv) (l.map Idx.Kp.e) := HS4.out.keep HK5.out (fun k _ h e => h.2 e)
            have hrow := HR3.out.fresh HBq.out
            have hown3 := HR3.out.1.lt
            have hxa : SmAt wr (fun b => B ≤ b ∧ (Value.slice As S.length cs).ownBlock ≠ some b) x := by
              refine ⟨?_, ?_⟩
              · rw [hx.2.1, hx.1, hsp]
                exact hSx.mono (fun b _ h => ⟨by omega, fun e => by have := (hown3 b e).2; omega⟩)
              · rw [hx.2.2, hx.1, hsp]
                exact (hO6.sl (fun _ => rfl)).mono (fun b _ h => by have := (hO6.lt b h).1; exact ⟨by omega, fun e => by have := (hown3 b e).2; omega⟩)
            have HXC := Lib.hid hxc
            have HXA := Lib.hid hxa
            have HX2 := Lib.hid hx
            have HRW := Lib.hid hrow
            have HQ5 := Lib.hid hq5
            have hsw := HBq.out.size
            have hsl : S.length = k := by have := congrArg List.length HM3.out; rw [List.length_map, List.length_map, List.length_take] at this; omega
            have HSL := Lib.hid hsl
            clear hO6 hx hsp hxc hSx hrow hxa hq5 hown3 hsl
            go_wp2_with (at_builtin; refine elMStream.append _ (by rfl) _ _ rfl B _ S rfl (HRW.out.1.fresh ((Below.refl _ wr).alloc (Nat.le_refl _) _)) _ _ [x] rfl (Sl.single (heap_alloc_new _ _) HXC.out) ?_ ?_ ?_; (have := HSL.out; simp only [List.length_singleton]; omega); (simp only [World.size_alloc]; omega); intro v' w9 hown' hgrow hat; (obtain ⟨As', cs', rfl, _, _⟩ := hown'.shape_ (show (S ++ [x]).length = S.length + 1 by simp)); have hal := (Below.refl wr.heap.size wr).alloc (Nat.le_refl _) (.cells #[.string n, .slice Av l.length cv, .slice Ap l.length cp] 107); have hnx := (fun e => by have := (HRW.out.1.lt q e).1; omega : ¬ ((Value.slice As S.length cs).ownBlock = some q)); have hq9 := (Keeps.of_grown hgrow).grownTo ((Keeps.of_fresh hal (fun _ => False)).grownTo HQ5.out id) hnx; have m3 := cell_of_row w9 q 1 _ _ _ hq9; have f3 := frozen_block hq9 1; have HQ9 := Lib.hid hq9; have HO9 := Lib.hid hown'; have HGR := Lib.hid hgrow; have HAT := Lib.hid hat; clear hown' hgrow hat hq9 hnx hal)
            have hal := (Below.refl wr.heap.size wr).alloc (Nat.le_refl _) (.cells #[.string n, .slice Av l.length cv, .slice Ap l.length cp] 107)
            have hkS := Keeps.one w9 q 1 (.slice As' (S.length + 1) cs')
            have hnB : ∀ b, (Value.slice As S.length cs).ownBlock = some b → B ≤ b := fun b e => (HRW.out.1.lt b e).1
            have hQ10 := setCell_block' (o := 1) HQ9.out (.slice As' (S.length + 1) cs')
            have hZ10 : (w9.setCell ⟨q, 1, none⟩ (.slice As' (S.length + 1) cs')).heap[g]? = _ := hkS.grownTo ((Keeps.of_grown HGR.out).grownTo ((Keeps.of_fresh hal (fun _ => False)).grownTo ((Keeps.of_fresh HBq.out (fun _ => False)).grownTo HZ3.out id) id) (fun e => by have := hnB g e; omega)) (fun e => by omega)
            have hR10 : SmRow (w9.setCell ⟨q, 1, none⟩ (.slice As' (S.length + 1) cs')) B 107 (.slice As' (S.length + 1) cs') (S ++ [x]) := (SmRow.snoc (HRW.out.fresh hal) (HXA.out.fresh hal) HO9.out HGR.out HAT.out).keep hkS (fun k _ h e => by omega)
            have hK10 : Keeps (fun k => k = q) w2 (w9.setCell ⟨q, 1, none⟩ (.slice As' (S.length + 1) cs')) := by
              have h1 := (HK3.out.trans (Keeps.of_fresh HBq.out (fun k => k = q))).trans (Keeps.of_fresh hal (fun k => k = q))
              exact (h1.andThen (Keeps.of_grown HGR.out) (fun k hk e => by have := hnB k e; have := HBE.out; omega)).trans hkS
            generalize w9.setCell ⟨q, 1, none⟩ (.slice As' (S.length + 1) cs') = w10 at hQ10 hZ10 hR10 hK10 ⊢
            have HQ10 := Lib.hid hQ10
            have HZ10 := Lib.hid hZ10
            have HR10 := Lib.hid hR10
            have HK10 := Lib.hid hK10
            clear hal hkS hnB hQ10 hZ10 hR10 hK10 m0 m1 m2 y1 m3 f3
            go_wp2_with fail
            go_roundw
            case rel =>
              refine ⟨k + 1, _, S ++ [x], hlt, by go_num, HQ10.out, HZ10.out, by rw [HBE.out]; exact HR10.out, ?_, HK10.out⟩
              rw [List.map_append, HM3.out, List.take_succ_eq_append_getElem hlt, List.map_append, List.map_cons, List.map_nil, List.map_cons, List.map_nil, HX2.out.1, HN.out]
            case measure => simp [Go.RowKit.intOf]; omega
    · have hkd : k = ks.length := by omega
      subst hkd
      have d0 : decide ((ks.length : Int) < (ks.length : Int)) = false := by simp
      have HM4 : Hid (S.map SmS.sp = (ptOf s).ss) := Lib.hid (by rw [HM3.out, List.take_length, HKE.out]; rfl)
      have HI4 := Lib.hid (H.out.fresh HB3.out).tab
      have c1 := (H.out.fresh HB3.out).c1
      clear c0 HI3 HM3
      go_wp2_with fail
      refine (Ded.rsess_any w3 pt s.T FT HI4.out (by omega)).mono ?_
      rintro e w5 ⟨vj, js, rfl, hj1, hj2, hSj', hB5⟩
      have hSj : Sl w5 (fun b => w3.heap.size ≤ b) 1 intc vj js := (hSj'.sl (fun _ => rfl)).mono (fun b _ h => (hSj'.lt b h).1)
      clear hSj'
      have hjs : js = sesOf s.T := rise_ext (R := fun a b : Int => a < b) (fun a b c h k => by omega) (fun a => by omega) hj1 (riseL_rise _) (fun z => by rw [hj2]; unfold sesOf; rw [riseL_mem, List.mem_map])
      obtain ⟨Aj, cj, rfl, hjA, hjB⟩ := hSj.shape
      unfold maxLen at hjB
      have hrl := reqs_len s.T
      rw [← reqs_flat, ← hjs] at hrl
      have HJ2 := Lib.hid hj2
      have HJS := Lib.hid hjs
      have HSJ := Lib.hid hSj
      have HQ5 := Lib.hid ((Keeps.of_fresh hB5 (fun _ => False)).grownTo HQ3.out id)
      have HZ5 := Lib.hid ((Keeps.of_fresh hB5 (fun _ => False)).grownTo HZ3.out id)
      have HR5 := Lib.hid (HR3.out.fresh hB5)
      have HB5 := Lib.hid (HB3.out.trans (hB5.mono HB3.out.size))
      have hs5 : B ≤ w5.heap.size := by have := hB5.size; omega
      have HRL := Lib.hid hrl
      clear hj1 hj2 hjs hSj hB5 c1 HI4 hrl
      go_wp2_with fail
      go_loopw [10, 11, 12, 13, 14] (fun i _ _ _ _ wr => MQRel w5 g q s.ap (.slice As S.length cs) s.T js i wr) (fun i _ _ _ _ _ => js.length - (Go.RowKit.intOf i).toNat)
      case atStart => exact ⟨0, .slice none 0 0, Nat.zero_le _, rfl, HQ5.out, HZ5.out, Own.nil_ _ _ _ _ _, Keeps.refl _ _⟩
      case round =>
        obtain ⟨w6, rfl⟩ : ∃ z, z = wr := ⟨_, rfl⟩
        obtain ⟨k, rv, hk6, rfl, hQ6, hZ6, hO6, hK6⟩ := hrel
        obtain ⟨D, hD⟩ : ∃ D, ((js.take k).flatMap fun x => (seqsOf s.T x).map (reqL s.T x)) = D := ⟨_, rfl⟩
        rw [hD] at hO6
        have HD := Lib.hid hD
        clear hD
        obtain ⟨Ar, cr, rfl, _, _⟩ := hO6.shape_ rfl
        have hB6 : Below w.heap.size w w6 := HB5.out.trans (hK6.below HB5.out.size (fun k e => by have := HG.out; omega))
        have h6 := H.out.fresh hB6
        have c1 := h6.c1
        have HI6 := Lib.hid h6.tab
        have HQ6 := Lib.hid hQ6
        have HZ6 := Lib.hid hZ6
        have HO6 := Lib.hid hO6
        have HK6 := Lib.hid hK6
        have HB6 := Lib.hid hB6
        clear hQ6 hZ6 hO6 hK6 hB6 h6
        by_cases hlt : k < js.length
        · have d0 : decide ((k : Int) < (js.length : Int)) = true := by simp; omega
          obtain ⟨bj, oj, rfl, hbj, hbjl, hxx⟩ := HSJ.out.cell_ hlt
          have x0 := hxx 0 _ rfl
          simp only [Nat.add_zero, Nat.mul_one] at x0
          have hjm : js[k] ∈ js := List.getElem_mem hlt
          obtain ⟨x, hx⟩ : ∃ x, js[k] = x := ⟨_, rfl⟩
          rw [hx] at x0 hjm
          have hxi : Ded.i64 x := by
            obtain ⟨e, he, rfl⟩ := (HJ2.out x).1 hjm
            have := HOK.out.ses e he
            exact ⟨by omega, by omega⟩
          have HXK := Lib.hid hx
          have HX5 := Lib.hid x0
          have x0 := (HK6.out.cell (a := ⟨bj, oj + k, none⟩) hbjl (by simp only; omega)).trans x0
          have hki : ((0 : Int) ≤ (k : Int)) ∧ ((k : Int) < (js.length : Int)) := by omega
          obtain ⟨hki1, hki2⟩ := hki
          clear hxx hx hjm
          go_wp2_with fail
          refine region_mid 8 rfl (by kernel_rfl) (by kernel_rfl) ?_
          simp only [List.take_succ_cons, List.take_zero, List.drop_succ_cons, List.drop_zero]
          change wpStill _ _ w6.drew _ _ _
          refine still_of_quiet ?_
          repeat (go_big_quiet_step (fail))
          refine wpQuiet_nil ?_
          change wpList _ _ _ _ _ w6.drew
          go_wp2_with fail
          refine (Ded.rseqs_any w6.drew pt s.T FT (HI6.out.fresh ⟨rfl, rfl, rfl, Nat.le_refl _, fun _ _ => rfl⟩) (by omega) x).mono ?_
          rintro e w7 ⟨vq, qs, rfl, hq1, hq2', hSq', hB7⟩
          have hB7 : Below w6.heap.size w6 w7 := ⟨hB7.os, hB7.tape, hB7.output, hB7.size, hB7.block⟩
          have hSq : Sl w7 (fun b => w6.heap.size ≤ b) 1 intc vq qs := (hSq'.sl (fun _ => rfl)).mono (fun b _ h => (hSq'.lt b h).1)
          clear hSq'
          have hqs : qs = seqsOf s.T x := rise_ext (R := fun a b : Int => a < b) (fun a b c h k => by omega) (fun a => by omega) hq1 (riseL_rise _) (fun z => by rw [hq2']; exact (seqs_mem x z).symm)
          obtain ⟨Aq, cq, rfl, hqA, hqB⟩ := hSq.shape
          unfold maxLen at hqB
          have HQS := Lib.hid hqs
          have HQ2 := Lib.hid hq2'
          have HSQ := Lib.hid hSq
          have HQ7 := Lib.hid ((Keeps.of_fresh hB7 (fun _ => False)).grownTo HQ6.out id)
          have HZ7 := Lib.hid ((Keeps.of_fresh hB7 (fun _ => False)).grownTo HZ6.out id)
          have HO7 := Lib.hid (HO6.out.fresh hB7)
          have HB7 := Lib.hid (HB6.out.trans (hB7.mono HB6.out.size))
          have HK7 := Lib.hid (HK6.out.trans (Keeps.of_fresh hB7 (fun k => k = q)))
          have HOB : Hid (∀ b, (Value.slice Ar D.length cr).ownBlock = some b → b < w6.heap.size) := Lib.hid (fun b e => (HO6.out.lt b e).2)
          have hs67 := hB7.size
          clear hq1 hq2' hqs hSq hB7 c1 x0
          go_wp2_with fail
          unfold Go.Bl.Rest
          refine still_of_quiet ?_
          repeat (go_big_quiet_step (fail))
          refine wpQuiet_nil ?_
          go_wp2_with fail
          go_loopw [12, 13, 14] (fun i _ _ wr => MRRel w5 w7 g q s.ap (.slice As S.length cs) (.slice Ar D.length cr) s.T D x qs i wr) (fun i _ _ _ => qs.length - (Go.RowKit.intOf i).toNat)
          case atStart => exact ⟨0, _, Nat.zero_le _, rfl, HQ7.out, HZ7.out, by rw [List.take_zero, List.map_nil, List.append_nil]; exact HO7.out, HK7.out, Keeps.refl _ _, fun b e => .inl e⟩
          case round =>
            obtain ⟨j, rv, hjq, rfl, hQ8, hZ8, hO8, hK8, hKr, hob⟩ := hrel
            obtain ⟨Ar', cr', rfl, _, _⟩ := hO8.shape_ rfl
            have hB8 : Below w.heap.size w wr := HB5.out.trans (hK8.below HB5.out.size (fun k e => by have := HG.out; omega))
            have h8 := H.out.fresh hB8
            have c1 := h8.c1
            have HI8 := Lib.hid h8.tab
            have HQ8 := Lib.hid hQ8
            have HZ8 := Lib.hid hZ8
            have HO8 := Lib.hid hO8
            have HK8 := Lib.hid hK8
            have HKR := Lib.hid hKr
            have HOB8 := Lib.hid hob
            have HB8 := Lib.hid hB8
            clear hQ8 hZ8 hO8 hK8 hKr hob hB8 h8
            by_cases hjl : j < qs.length
            · have d1 : decide ((j : Int) < (qs.length : Int)) = true := by simp; omega
              obtain ⟨bq, oq, rfl, hbq, _, hyy⟩ := (HSQ.out.keep HKR.out (fun b _ h e => by
                rcases e with e | e
                · have := HK6.out.size; omega
                · have := HOB.out b e; omega)).cell_ hjl
              have y0 := hyy 0 _ rfl
              simp only [Nat.add_zero, Nat.mul_one] at y0
              have hqm : qs[j] ∈ qs := List.getElem_mem hjl
              obtain ⟨y, hy⟩ : ∃ y, qs[j] = y := ⟨_, rfl⟩
              rw [hy] at y0 hqm
              have hyk := (HQ2.out y).1 hqm
              have hyi : Ded.i64 y := by
                have := HOK.out.seq _ (find_in (look_one hyk).1)
                simp only at this
                exact ⟨by omega, by omega⟩
              have HYK := Lib.hid hy
              rcases hlo : Ded.lookL s.T x y with ⟨⟨o1, o2, o3, o4⟩, o5⟩
              have hre : reqL s.T x y = ⟨x, y, ⟨o1, o2, o3, o4⟩⟩ := by unfold reqL; rw [hlo]
              have hlk := fun (wz : World) (hz : Below wr.heap.size wr wz) => Ded.rlook_any wz pt s.T FT (HI8.out.fresh hz) x y
              unfold Ded.ocv at hlk
              rw [hlo] at hlk
              have HLK := Lib.hid hlk
              have HRE := Lib.hid hre
              have x0 := (HK8.out.cell (a := ⟨bj, oj + k, none⟩) hbjl (by simp only; omega)).trans HX5.out
              have hji : ((0 : Int) ≤ (j : Int)) ∧ ((j : Int) < (qs.length : Int)) := by omega
              obtain ⟨hji1, hji2⟩ := hji
              clear hyy hy hqm hyk hlo hre hlk
              go_upto_region 21 with (fail)
              have HY0 := Lib.hid y0
              have HX8 := Lib.hid x0
              go_cut [13, 14] (fun s13 s14 wx => SawCut wr o1 o2 o3 o4 o5 s13 s14 wx)
              case first =>
                have hn0 := World.new_ne wr _ x0
                have hn1 := World.new_ne wr _ y0
                have hn2 := World.new_ne wr _ c1
                have HWd := Lib.hid (show Below wr.heap.size wr wr.drew from ⟨rfl, rfl, rfl, Nat.le_refl _, fun _ _ => rfl⟩)
                go_region_held3 (fun x' => x'.cell? ⟨p, 1, none⟩ = some (.pointer (some ⟨pt, 0, none⟩)) ∧ x'.cell? ⟨bj, oj + k, none⟩ = some (.int .i64 x) ∧ x'.cell? ⟨bq, oq + j, none⟩ = some (.int .i64 y))
                  (first | exact ⟨c1, x0, y0⟩ | go_keep)
                  (first
                    | (go_at_call 57
                       refine (HLK.out _ (by first | exact HWd.out | exact HWd.out.alloc (Nat.le_refl _) _)).mono ?_
                       rintro e wv ⟨he, hBv⟩
                       obtain rfl : e = .returned (.tuple #[.agg #[.int .i64 o1, .int .i64 o2, .int .i64 o3, .int .i64 o4], .int .i64 o5]) := he
                       have hBv' : Below wr.heap.size wr wv := by
                         first
                         | exact HWd.out.trans ⟨hBv.os, hBv.tape, hBv.output, hBv.size, hBv.block⟩
                         | exact (HWd.out.alloc (Nat.le_refl _) _).trans (hBv.mono (by simp))
                       try
                         (have hblk := (Keeps.of_fresh hBv (fun _ => False)).grownTo (heap_alloc_new wr.drew (.cells #[.int .i64 0, .int .i64 0, .int .i64 0, .int .i64 0] 53)) id
                          have q0 : wv.cell? ⟨wr.heap.size, 0, none⟩ = some (.int .i64 0) := cell_of_row wv _ 0 _ _ _ hblk
                          have q1 : wv.cell? ⟨wr.heap.size, 1, none⟩ = some (.int .i64 0) := cell_of_row wv _ 1 _ _ _ hblk
                          have q2 : wv.cell? ⟨wr.heap.size, 2, none⟩ = some (.int .i64 0) := cell_of_row wv _ 2 _ _ _ hblk
                          have q3 : wv.cell? ⟨wr.heap.size, 3, none⟩ = some (.int .i64 0) := cell_of_row wv _ 3 _ _ _ hblk
                          have f0 : wv.frozen? ⟨wr.heap.size, 0, none⟩ = false := frozen_block hblk 0
                          have f1 : wv.frozen? ⟨wr.heap.size, 1, none⟩ = false := frozen_block hblk 1
                          have f2 : wv.frozen? ⟨wr.heap.size, 2, none⟩ = false := frozen_block hblk 2
                          have f3 : wv.frozen? ⟨wr.heap.size, 3, none⟩ = false := frozen_block hblk 3
                          have HBLK := Lib.hid hblk
                          clear hblk)
                       have HBv := Lib.hid hBv'
                       have c1 := (hBv'.cell (p := ⟨p, 1, none⟩) (lt_of_cellP c1)).trans c1
                       have x0 := (hBv'.cell (p := ⟨bj, oj + k, none⟩) (lt_of_cellP x0)).trans x0
                       have y0 := (hBv'.cell (p := ⟨bq, oq + j, none⟩) (lt_of_cellP y0)).trans y0
                       clear hBv hBv'))
                all_goals go_wp2_with fail
                all_goals go_meet
                all_goals first
                  | exact SawCut.new HBv.out
                  | exact SawCut.old HBv.out HBLK.out
              case rest =>
              obtain ⟨g9, rfl, rfl, hg9, hn, hB10⟩ := hcut
              obtain ⟨w10, rfl⟩ : ∃ z, z = wc := ⟨_, rfl⟩
              have z0 : w10.cell? ⟨g9, 0, none⟩ = some (.int .i64 o1) := cell_of_row w10 _ 0 _ _ _ hn
              have z1 : w10.cell? ⟨g9, 1, none⟩ = some (.int .i64 o2) := cell_of_row w10 _ 1 _ _ _ hn
              have z2 : w10.cell? ⟨g9, 2, none⟩ = some (.int .i64 o3) := cell_of_row w10 _ 2 _ _ _ hn
              have z3 : w10.cell? ⟨g9, 3, none⟩ = some (.int .i64 o4) := cell_of_row w10 _ 3 _ _ _ hn
              have x0 := (hB10.cell (p := ⟨bj, oj + k, none⟩) (lt_of_cellP HX8.out)).trans HX8.out
              have y0 := (hB10.cell (p := ⟨bq, oq + j, none⟩) (lt_of_cellP HY0.out)).trans HY0.out
              have hq10 := (Keeps.of_fresh hB10 (fun _ => False)).grownTo HQ8.out id
              have m2 : w10.cell? ⟨q, 2, none⟩ = some (.slice Ar' (D ++ (qs.take j).map (reqL s.T x)).length cr') := cell_of_row w10 q 2 _ _ _ hq10
              have HB10 := Lib.hid hB10
              have HQ10 := Lib.hid hq10
              have HO10 := Lib.hid (HO8.out.fresh hB10)
              have hs10 := hB10.size
              have hs8 := HK8.out.size
              have hlen : (D ++ (qs.take j).map (reqL s.T x)).length ≤ 100000 := by
                have h1 : (D ++ qs.map (reqL s.T x)).length ≤ s.T.length := by
                  have := take_flat_len (fun x => (seqsOf s.T x).map (reqL s.T x)) js (k + 1)
                  rw [take_flat _ _ hlt, HD.out, HXK.out, ← HQS.out] at this
                  exact Nat.le_trans this HRL.out
                simp only [List.length_append, List.length_map, List.length_take] at h1 ⊢
                omega
              obtain ⟨E, hE⟩ : ∃ E, D ++ (qs.take j).map (reqL s.T x) = E := ⟨_, rfl⟩
              rw [hE] at HO10 hlen m2 HQ10 HOB8
              have HE := Lib.hid hE
              clear hn hB10 hq10 HQ8 HO8 hE c1
              go_wp2_with fail
              refine wp_region_noPanic ?_
              refine region_loads 13 12 (fun x' => x'.cell? ⟨q, 2, none⟩ = some (.slice Ar' E.length cr') ∧ x'.cell? ⟨bj, oj + k, none⟩ = some (.int .i64 x) ∧ x'.cell? ⟨bq, oq + j, none⟩ = some (.int .i64 y) ∧ x'.cell? ⟨g9, 0, none⟩ = some (.int .i64 o1) ∧ x'.cell? ⟨g9, 1, none⟩ = some (.int .i64 o2) ∧ x'.cell? ⟨g9, 2, none⟩ = some (.int .i64 o3) ∧ x'.cell? ⟨g9, 3, none⟩ = some (.int .i64 o4)) (by kernel_rfl) (by kernel_rfl) (fun _ _ _ _ h => h) ⟨m2, x0, y0, z0, z1, z2, z3⟩
                ⟨.pointer (some ⟨q, 2, none⟩), .inl ⟨rfl, fun x hx => by go_simp⟩, (.slice Ar' E.length cr'), .inl ⟨rfl, fun x hx => by obtain ⟨hx0, hx1, hx2, hx3, hx4, hx5, hx6⟩ := hx; go_simp⟩, .slice (some ⟨bj, oj, none⟩) js.length cj, .inl ⟨rfl, fun x hx => by go_simp⟩, .int .i64 k, .inl ⟨rfl, fun x hx => by go_simp⟩, .pointer (some ⟨bj, oj + k, none⟩), .inl ⟨rfl, fun x hx => by go_simp⟩, .int .i64 x, .inl ⟨rfl, fun x hx => by obtain ⟨hx0, hx1, hx2, hx3, hx4, hx5, hx6⟩ := hx; go_simp⟩, .slice (some ⟨bq, oq, none⟩) qs.length cq, .inl ⟨rfl, fun x hx => by go_simp⟩, .int .i64 j, .inl ⟨rfl, fun x hx => by go_simp⟩, .pointer (some ⟨bq, oq + j, none⟩), .inl ⟨rfl, fun x hx => by go_simp⟩, .int .i64 y, .inl ⟨rfl, fun x hx => by obtain ⟨hx0, hx1, hx2, hx3, hx4, hx5, hx6⟩ := hx; go_simp⟩, .agg #[.int .i64 o1, .int .i64 o2, .int .i64 o3, .int .i64 o4], .inl ⟨rfl, fun x hx => by obtain ⟨hx0, hx1, hx2, hx3, hx4, hx5, hx6⟩ := hx; go_simp⟩, .agg #[.int .i64 x, .int .i64 y, .int .i64 o1, .int .i64 o2, .int .i64 o3, .int .i64 o4], .inl ⟨rfl, fun x hx => by go_simp⟩, rfl⟩ ?_
              simp only [List.drop_succ_cons, List.drop_zero]
              refine wpListS_step (fun K hK => ?_)
              go_simp
              have hal : Below w10.heap.size w10 (w10.drew.alloc (.cells #[.int .i64 x, .int .i64 y, .int .i64 o1, .int .i64 o2, .int .i64 o3, .int .i64 o4] 108)) := (show Below w10.heap.size w10 w10.drew from ⟨rfl, rfl, rfl, Nat.le_refl _, fun _ _ => rfl⟩).alloc (Nat.le_refl _) _
              have HAL := Lib.hid hal
              refine hK _ _ (fun _ => ⟨(hal.cell (p := ⟨q, 2, none⟩) (lt_of_cellP m2)).trans m2, (hal.cell (p := ⟨bj, oj + k, none⟩) (lt_of_cellP x0)).trans x0, (hal.cell (p := ⟨bq, oq + j, none⟩) (lt_of_cellP y0)).trans y0, (hal.cell (p := ⟨g9, 0, none⟩) (lt_of_cellP z0)).trans z0, (hal.cell (p := ⟨g9, 1, none⟩) (lt_of_cellP z1)).trans z1, (hal.cell (p := ⟨g9, 2, none⟩) (lt_of_cellP z2)).trans z2, (hal.cell (p := ⟨g9, 3, none⟩) (lt_of_cellP z3)).trans z3⟩) ?_
              clear hK K hal
              refine wpListS_late (Nat.le_refl _) ?_
              go_wp2_with (at_builtin; refine elMReq.append _ (by rfl) _ _ rfl w5.heap.size _ E rfl (HO10.out.fresh HAL.out) _ _ [⟨x, y, ⟨o1, o2, o3, o4⟩⟩] rfl (Sl.single (heap_alloc_new _ _) rfl) ?_ ?_ ?_; (simp only [List.length_singleton]; omega); (simp; omega); intro v' w11 hown' hgrow hat; (obtain ⟨As', cs', rfl, _, _⟩ := hown'.shape_ (show (E ++ [(⟨x, y, ⟨o1, o2, o3, o4⟩⟩ : Ded.En)]).length = E.length + 1 by simp)); have hnx := (fun e => by have := (HO10.out.lt q e).1; omega : ¬ ((Value.slice Ar' E.length cr').ownBlock = some q)); have hq11 := (Keeps.of_grown hgrow).grownTo ((Keeps.of_fresh HAL.out (fun _ => False)).grownTo HQ10.out id) hnx; have m3 := cell_of_row w11 q 2 _ _ _ hq11; have f3 := frozen_block hq11 2; have HQ11 := Lib.hid hq11; have HO11 := Lib.hid hown'; have HGR := Lib.hid hgrow; have HAT := Lib.hid hat; clear hown' hgrow hat hq11 hnx)
              refine NoPanic.normal ?_
              have hal := HAL.out
              have hkS := Keeps.one w11 q 2 (.slice As' (E.length + 1) cs')
              have hnB : ∀ b, (Value.slice Ar' E.length cr').ownBlock = some b → w5.heap.size ≤ b := fun b e => (HO10.out.lt b e).1
              have hQ12 := setCell_block' (o := 2) HQ11.out (.slice As' (E.length + 1) cs')
              have hZ12 : (w11.setCell ⟨q, 2, none⟩ (.slice As' (E.length + 1) cs')).heap[g]? = _ := hkS.grownTo ((Keeps.of_grown HGR.out).grownTo ((Keeps.of_fresh hal (fun _ => False)).grownTo ((Keeps.of_fresh HB10.out (fun _ => False)).grownTo HZ8.out id) id) (fun e => by have := hnB g e; omega)) (fun e => by omega)
              have hO12 := HO11.out.keep hkS (fun b hb e => by have := (HO11.out.lt b hb).1; omega)
              have hK12 : Keeps (fun k => k = q) w5 (w11.setCell ⟨q, 2, none⟩ (.slice As' (E.length + 1) cs')) := by
                have h1 := (HK8.out.trans (Keeps.of_fresh HB10.out (fun k => k = q))).trans (Keeps.of_fresh hal (fun k => k = q))
                exact (h1.andThen (Keeps.of_grown HGR.out) (fun k hk e => by have := hnB k e; omega)).trans hkS
              have hKR12 : Keeps (fun k => k = q ∨ (Value.slice Ar D.length cr).ownBlock = some k) w7 (w11.setCell ⟨q, 2, none⟩ (.slice As' (E.length + 1) cs')) := by
                have h1 := (HKR.out.trans (Keeps.of_fresh HB10.out (fun k => k = q ∨ (Value.slice Ar D.length cr).ownBlock = some k))).trans (Keeps.of_fresh hal (fun k => k = q ∨ (Value.slice Ar D.length cr).ownBlock = some k))
                exact (h1.andThen (Keeps.of_grown HGR.out) (fun k hk e => (HOB8.out k e).elim (fun e => .inr e) (fun e => by omega))).trans (hkS.mono (fun k _ e => .inl e))
              have hOB12 : ∀ b, (Value.slice As' (E.length + 1) cs').ownBlock = some b → (Value.slice Ar D.length cr).ownBlock = some b ∨ w7.heap.size ≤ b := fun b e => by
                rcases HAT.out with h | h
                · rw [h] at e; exact HOB8.out b e
                · rw [h] at e
                  injection e with e
                  have h4 : w10.heap.size ≤ b := Nat.le_trans HAL.out.size (Nat.le_of_eq e)
                  have := HKR.out.size
                  exact .inr (by have := HB10.out.size; omega)
              generalize w11.setCell ⟨q, 2, none⟩ (.slice As' (E.length + 1) cs') = w12 at hQ12 hZ12 hO12 hK12 hKR12 ⊢
              have HQ12 := Lib.hid hQ12
              have HZ12 := Lib.hid hZ12
              have HO12 := Lib.hid hO12
              have HK12 := Lib.hid hK12
              have HKR12 := Lib.hid hKR12
              have HOB12 := Lib.hid hOB12
              clear hal hkS hnB hQ12 hZ12 hO12 hK12 hKR12 hOB12 m2 m3 f3 z0 z1 z2 z3 x0 y0
              go_wp2_with fail
              go_roundw
              case rel =>
                refine ⟨j + 1, _, hjl, by go_num, HQ12.out, HZ12.out, ?_, HK12.out, HKR12.out, HOB12.out⟩
                rw [List.take_succ_eq_append_getElem hjl, List.map_append, List.map_cons, List.map_nil, ← List.append_assoc, HE.out, HYK.out, HRE.out]
                exact HO12.out
              case measure => simp [Go.RowKit.intOf]; omega
            · have hjd : j = qs.length := by omega
              subst hjd
              have d1 : decide ((qs.length : Int) < (qs.length : Int)) = false := by simp
              go_wp2_with fail
              go_roundw
              case rel =>
                refine ⟨k + 1, _, hlt, by go_num, HQ8.out, HZ8.out, ?_, HK8.out⟩
                rw [take_flat _ _ hlt, HD.out, HXK.out, ← HQS.out]
                have hO9 := HO8.out
                simp only [List.take_length] at hO9 ⊢
                exact hO9
              case measure => simp [Go.RowKit.intOf]; omega
        · have hkd : k = js.length := by omega
          subst hkd
          have d0 : decide ((js.length : Int) < (js.length : Int)) = false := by simp
          have hDe : D = (ptOf s).rs := by rw [← HD.out, List.take_length, HJS.out, reqs_flat]; rfl
          have y0 : w6.cell? ⟨q, 0, none⟩ = some (.int .i64 s.ap) := cell_of_row w6 q 0 _ _ _ HQ6.out
          have y1 : w6.cell? ⟨q, 1, none⟩ = some (.slice As S.length cs) := cell_of_row w6 q 1 _ _ _ HQ6.out
          have y2 : w6.cell? ⟨q, 2, none⟩ = some (.slice Ar D.length cr) := cell_of_row w6 q 2 _ _ _ HQ6.out
          have z0 : w6.cell? ⟨g, 0, none⟩ = some (.int .i64 0) := cell_of_row w6 g 0 _ _ _ HZ6.out
          have z1 : w6.cell? ⟨g, 1, none⟩ = some (.slice none 0 0) := cell_of_row w6 g 1 _ _ _ HZ6.out
          have z2 : w6.cell? ⟨g, 2, none⟩ = some (.slice none 0 0) := cell_of_row w6 g 2 _ _ _ HZ6.out
          have f0 : w6.frozen? ⟨g, 0, none⟩ = false := frozen_block HZ6.out 0
          have f1 : w6.frozen? ⟨g, 1, none⟩ = false := frozen_block HZ6.out 1
          have f2 : w6.frozen? ⟨g, 2, none⟩ = false := frozen_block HZ6.out 2
          have HDE := Lib.hid hDe
          clear hDe c1
          go_wp2_with fail
          have hkS : Keeps (fun k => k = g) w6 _ := (((Keeps.refl (fun k => k = g) w6).setCell (p := ⟨g, 0, none⟩) (fun _ => rfl) (.int .i64 s.ap)).setCell (p := ⟨g, 1, none⟩) (fun _ => rfl) (.slice As S.length cs)).setCell (p := ⟨g, 2, none⟩) (fun _ => rfl) (.slice Ar D.length cr)
          have hk7 := setCell_block' (o := 2) (v := .slice Ar D.length cr) (setCell_block' (o := 1) (v := .slice As S.length cs) (setCell_block' (o := 0) (v := .int .i64 s.ap) HZ6.out))
          generalize ((w6.setCell ⟨g, 0, none⟩ (.int .i64 s.ap)).setCell ⟨g, 1, none⟩ (.slice As S.length cs)).setCell ⟨g, 2, none⟩ (.slice Ar D.length cr) = w9 at hkS hk7 ⊢
          have q0 : w9.cell? ⟨g, 0, none⟩ = some (.int .i64 s.ap) := cell_of_row w9 _ 0 _ _ _ hk7
          have q1 : w9.cell? ⟨g, 1, none⟩ = some (.slice As S.length cs) := cell_of_row w9 _ 1 _ _ _ hk7
          have q2 : w9.cell? ⟨g, 2, none⟩ = some (.slice Ar D.length cr) := cell_of_row w9 _ 2 _ _ _ hk7
          refine bodyPost_ret (v := .agg #[.int .i64 s.ap, .slice As S.length cs, .slice Ar D.length cr]) (by simp [results, Tryz.results13, go_sem, q0, q1, q2]) rfl ⟨.slice As S.length cs, .slice Ar D.length cr, rfl, ⟨?_, ?_⟩, HB6.out.trans (hkS.below HB6.out.size (fun k e => by have := HG.out; omega))⟩
          · rw [← HM4.out]
            exact (((HR5.out.keep HK6.out (fun k _ h e => by omega)).keep hkS (fun k _ h e => by omega)).sms).mono (fun k _ h => by omega)
          · rw [← HDE.out]
            have := HO6.out.keep hkS (fun b hb e => by have := (HO6.out.lt b hb).1; omega)
            exact (this.sl (fun _ => rfl)).mono (fun b _ h => by have := (this.lt b h).1; have := HB5.out.size; omega)
end Go.Proofs.YthebmbhdlkldiaaGreatDoor
