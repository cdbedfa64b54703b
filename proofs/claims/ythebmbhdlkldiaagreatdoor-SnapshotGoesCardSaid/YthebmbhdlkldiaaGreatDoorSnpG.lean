/- SnapshotGoes: what the statement's function does: it answers true. Under the tables that utf8 lays. -/
import Derived.Test.YthebmbhdlkldiaaGreatDoorSnpM
namespace Go.Proofs.YthebmbhdlkldiaaGreatDoor
open Go.RowKit Go.Bl
attribute [local go_sem ↓] Go.wp_at_zero Go.wp_at_succ

theorem sizeEntry (w : World) : (sizeOf 50).run Tryz.prog w = .ok 7 w := by kernel_rfl
/-- Two of the system's states that are alike, behind what there was. -/
structure Twin (w0 wr : World) (p q : Nat) (s : St) (F W F2 W2 : Nat → Prop) : Prop where
  st : StAt wr p s F W
  tw : StAt wr q s F2 W2
  ap : ∀ j, F j → ¬ F2 j
  fl : ∀ j, F j → w0.heap.size ≤ j
  tl : ∀ j, F2 j → w0.heap.size ≤ j
  bel : Below w0.heap.size w0 wr
section
variable {w0 wr wx w7 w8 w9 : World} {p q : Nat} {s s' : St} {F W F2 W2 : Nat → Prop}
theorem Twin.fresh (h : Twin w0 wr p q s F W F2 W2) (hb : Below wr.heap.size wr wx) : Twin w0 wx p q s F W F2 W2 :=
  ⟨h.st.fresh hb, h.tw.fresh hb, h.ap, h.fl, h.tl, h.bel.trans (hb.mono h.bel.size)⟩
theorem Twin.stl (h : Twin w0 wr p q s F W F2 W2) : ∀ j, W j → j < wr.heap.size := fun j hj => h.st.lt j (h.st.wf j hj)
theorem Twin.keep {G : Nat → Prop} (h : Twin w0 wr p q s F W F2 W2) (hk : Keeps G wr wx) (hG : ∀ j, G j → wr.heap.size ≤ j) : Twin w0 wx p q s F W F2 W2 :=
  h.fresh (hk.below (Nat.le_refl _) hG)
theorem Twin.after (h : Twin w0 wr p q s F W F2 W2) (hA : Applied wr w7 p s' F W) : StAt w7 q s F2 W2 := by
  obtain ⟨W', _, _, hK⟩ := hA
  exact h.tw.keep hK (fun j hj e => h.ap j (h.st.wf j e) hj)
theorem Twin.keepE (_h : Twin w0 wr p q s F W F2 W2) (hA : Applied wr w7 p s' F W) {g : Nat} {o : Obj} (hg : wr.heap[g]? = some o) (hn : ¬ W g) : w7.heap[g]? = some o := by
  obtain ⟨W', _, _, hK⟩ := hA
  exact hK.grownTo hg hn
theorem Twin.belApp (h : Twin w0 wr p q s F W F2 W2) (hA : Applied wr w7 p s' F W) : Below w0.heap.size w0 w7 := by
  obtain ⟨W', _, _, hK⟩ := hA
  exact Below.keep h.bel hK h.bel.size (fun j hj => h.fl j (h.st.wf j hj))
theorem Twin.step (h : Twin w0 wr p q s F W F2 W2) (hA : Applied wr w7 p s' F W) (hb : Below w7.heap.size w7 w8) (hM : Applied w8 w9 q s' F2 W2) :
    ∃ F' W' F2' W2', Twin w0 w9 p q s' F' W' F2' W2' := by
  have hbA := h.belApp hA
  have hTl := (h.after hA).lt
  have hF2 := h.tw.wf
  obtain ⟨W', h1, h3, hK⟩ := hA
  obtain ⟨W2', h1', h3', hK'⟩ := hM
  have fl := h.st.lt
  have tl := h.tw.lt
  have z0 := hK.size
  have z1 := hb.size
  have z2 := hK'.size
  refine ⟨fun j => F j ∨ (wr.heap.size ≤ j ∧ j < w7.heap.size), W', fun j => F2 j ∨ (w8.heap.size ≤ j ∧ j < w9.heap.size), W2', ?_⟩
  refine ⟨(h3.fresh hb).keep hK' ?_, h3', ?_, ?_, ?_, ?_⟩
  · rintro j (hj | hj) e
    · exact h.ap j hj (hF2 j e)
    · have := tl j (hF2 j e); omega
  · rintro j (hj | hj) (e | e)
    · exact h.ap j hj e
    · have := fl j hj; omega
    · have := tl j e; omega
    · omega
  · rintro j (hj | hj)
    · exact h.fl j hj
    · exact Nat.le_trans h.bel.size hj.1
  · rintro j (hj | hj)
    · exact h.tl j hj
    · have := hbA.size; omega
  · exact Below.keep (hbA.trans (hb.mono hbA.size)) hK' (Nat.le_trans hbA.size z1) (fun j hj => h.tl j (hF2 j hj))
end

set_option maxRecDepth 10000 in
set_option maxHeartbeats 4000000 in
theorem goes_any (w : World) (hT : Tabs w) (v : Value) (l : List Ent) (h : EntsOk w (fun b => b < w.heap.size) v l) (at_ : Int) (hat : -9223372036854775808 ≤ at_ ∧ at_ ≤ 9223372036854775807) :
    Calls Tryz.prog 4 #[v, .int .i64 at_] w fun x w' => x = .returned (.bool true) ∧ Below w.heap.size w w' := by
  have hne := neqOc
  obtain ⟨A, c, rfl, hA1, hA2⟩ := h.1.shape
  unfold maxLen at hA2
  have HTb := Lib.hid hT
  have HA := Lib.hid h
  clear hT h
  go_enter Tryz.func4, Tryz.ntmps4
  go_wp2_with fail
  refine (shown_any w HTb.out).mono ?_
  rintro e wa ⟨rfl, hBa⟩
  have HBa := Lib.hid hBa
  clear hBa
  go_wp2_with fail
  refine (fits_all wa _ _ l (HA.out.fresh HBa.out)).mono ?_
  rintro x wb ⟨rfl, hBb⟩
  have HBb := Lib.hid (HBa.out.trans (hBb.mono HBa.out.size))
  clear hBb
  cases hfb : fitsB l
  · go_wp2_with fail
    go_ret
    exact ⟨rfl, HBb.out⟩
  have HFB := Lib.hid hfb
  clear hfb
  have hl40 := (fitsB_at HFB.out).1
  have hpk := pick_any wb at_ hat (l.length + 1) (by omega) (by omega)
  rw [show ((l.length + 1 : Nat) : Int) = (l.length : Int) + 1 by omega] at hpk
  have HPK := Lib.hid hpk
  clear hpk
  go_wp2_with fail
  refine HPK.out.mono ?_
  rintro e wz ⟨n, hn, rfl, rfl⟩
  have hcut : ∀ w, (Instr.slice 22 (.slice A l.length c) none (some (.int .i64 n)) none).run Tryz.prog w = .ok (.slice (cutA A c 0 7) n c) w := fun w => by
    simpa using run_cut_high (P := Tryz.prog) Tryz.underlying22 sizeEntry A l.length c (n : Int) (by omega) (by omega) w
  have hAb := HA.out.fresh HBb.out
  have HC := Lib.hid (made_any wb (HTb.out.fresh HBb.out) (fun b => b < w.heap.size) _ (l.take n) ⟨hAb.1.take_ (by omega), fun a ha => hAb.2 a (List.mem_of_mem_take ha)⟩ (fun a ha => (fitsB_at HFB.out).2 a (List.mem_of_mem_take ha)) (by rw [List.length_take]; omega))
  clear hAb
  go_wp2_with fail
  refine HC.out.mono ?_
  rintro e wc ⟨p, m, F, W, M, rfl, hMd, hso⟩
  obtain ⟨s, hs⟩ : ∃ s, madeS (l.take n) = s := ⟨_, rfl⟩
  rw [hs] at hMd hso
  rw [List.length_take, Nat.min_eq_left (by omega)] at hso
  have HMD := Lib.hid hMd
  have HSO := Lib.hid hso
  have HTc := Lib.hid (HTb.out.fresh (HBb.out.trans (hMd.bel.mono HBb.out.size)))
  have HC2 := Lib.hid (snapPut_any wc HTc.out p s F W hMd.st hso.rch (by have := hso.lL; omega) (by have := hso.lT; omega) (fun o ho => Nat.le_trans (hso.str o ho) (by decide)))
  clear hcut hs hMd hso HC
  go_wp2_with fail
  refine HC2.out.mono ?_
  rintro e wd ⟨rfl, hBd⟩
  have HMD2 := Lib.hid (HMD.out.fresh hBd)
  have HC3 := Lib.hid (snapTake_ok wd (HTc.out.fresh hBd) (ptOf s) (HSO.out.rch.small (by have := HSO.out.lL; omega) (by have := HSO.out.lT; omega)))
  clear hBd HC2
  go_wp2_with fail
  refine HC3.out.mono ?_
  rintro e we ⟨q, F2, W2, rfl, hSt, hF2, hBe⟩
  have hm3 := HMD2.out.fresh hBe
  have hT0 : Twin wb we p q s F W F2 W2 := ⟨hm3.st, eqv_at hSt HSO.out.rch.eqv hm3.st.okL, fun j hj e => by have := HMD2.out.st.lt j hj; have := hF2 j e; omega, hm3.fl, fun j hj => Nat.le_trans HMD2.out.bel.size (hF2 j hj), hm3.bel⟩
  have HT0 := Lib.hid hT0
  clear hSt hF2 hBe hm3 hT0 HC3
  go_wp2_with fail
  go_loopw [12, 13, 14, 15, 16, 17] (fun i _ _ _ _ _ wr => ∃ (k : Nat) (s : St) (F W F2 W2 : Nat → Prop), k ≤ l.length ∧ i = .int .i64 k ∧ Twin wb wr p q s F W F2 W2 ∧ SOk s k) (fun i _ _ _ _ _ _ => l.length - (RowKit.intOf i).toNat)
  case atStart => exact ⟨n, s, F, W, F2, W2, by omega, rfl, HT0.out, HSO.out⟩
  case round =>
    obtain ⟨k, s, F, W, F2, W2, hk, rfl, hBo, hso⟩ := hrel
    have HBo := Lib.hid hBo
    have HSO := Lib.hid hso
    have HBB := Lib.hid (HBb.out.trans (hBo.bel.mono HBb.out.size))
    clear hBo hso HT0 HMD HMD2
    by_cases hlt : k < l.length
    · obtain ⟨b, o, rfl, _, _, hxx⟩ := (HA.out.1.fresh HBB.out).cell_ hlt
      have hok := HA.out.2 l[k] (List.getElem_mem hlt)
      have hfe := (fitsB_at HFB.out).2 l[k] (List.getElem_mem hlt)
      obtain ⟨a, ha⟩ : ∃ a, l[k] = a := ⟨_, rfl⟩
      rw [ha] at hxx hok hfe
      obtain ⟨B, d, hv, _, _⟩ := hok.1.shape
      have x0 := hxx 0 _ rfl
      have x1 := hxx 1 _ rfl
      have x2 := hxx 2 _ rfl
      have x3 := hxx 3 _ rfl
      have x4 := hxx 4 _ rfl
      have x5 := hxx 5 _ rfl
      have x6 := hxx 6 _ rfl
      rw [hv] at x6
      simp only [Nat.add_zero] at x0
      have HFE := Lib.hid (entF_at hfe).1
      have hevl := (entF_at hfe).2.1
      have HV := Lib.hid hv
      have hEv : ∀ wz, Below w.heap.size w wz → ∀ pos : Int, BatchOk wz (fun b => b < w.heap.size) (a.at_ pos) := fun wz hz pos => (hok.fresh hz).batch hfe
      have HEV := Lib.hid hEv
      have HNW : Hid (¬ W wr.heap.size) := Lib.hid (fun e => by have := HBo.out.stl _ e; omega)
      have hB5 : Below wr.heap.size wr (wr.alloc (.cells #[.int .i64 a.pos, .int .i64 a.epoch, .string a.stream, .int .i64 a.expect, .int .i64 a.session, .int .i64 a.seq, .slice B a.evs.length d] 50)) := (Below.refl _ wr).alloc (Nat.le_refl _) _
      have hblk := heap_alloc_new wr (.cells #[.int .i64 a.pos, .int .i64 a.epoch, .string a.stream, .int .i64 a.expect, .int .i64 a.session, .int .i64 a.seq, .slice B a.evs.length d] 50)
      have hkI : ((0 : Int) ≤ (k : Int)) ∧ ((k : Int) < (l.length : Int)) := by omega
      obtain ⟨hk1, hk2⟩ := hkI
      clear hxx hok hfe ha hv hEv
      go_upto_region 16 with (fail)
      generalize wr.alloc (.cells #[.int .i64 a.pos, .int .i64 a.epoch, .string a.stream, .int .i64 a.expect, .int .i64 a.session, .int .i64 a.seq, .slice B a.evs.length d] 50) = w5 at hB5 hblk ⊢
      have HBo5 := Lib.hid (HBo.out.fresh hB5)
      have HB5 := Lib.hid hB5
      have HE := Lib.hid hblk
      have y0 : w5.cell? ⟨wr.heap.size, 0, none⟩ = some (.int .i64 a.pos) := cell_of_row w5 _ 0 _ _ _ hblk
      have g0 : w5.frozen? ⟨wr.heap.size, 0, none⟩ = false := frozen_block hblk 0
      have hap := HSO.out.ap
      have hw1 : IntKind.i64.wrap (s.ap + 1) = s.ap + 1 := IntWalk.i64_in _ (by omega)
      clear x0 x1 x2 x3 x4 x5 x6 hB5 hblk
      go_wp2_with fail
      refine (applied_any w5 p s F W HBo5.out.st).mono ?_
      rintro e wz ⟨rfl, rfl⟩
      go_upto_region 17 with (fail)
      have hkS : Keeps (fun q => q = wr.heap.size) wr _ := ((Keeps.of_fresh HB5.out (fun q => q = wr.heap.size))).setCell (p := ⟨wr.heap.size, 0, none⟩) (fun _ => rfl) (.int .i64 (s.ap + 1))
      have hk2' := setCell_block' (o := 0) (v := .int .i64 (s.ap + 1)) HE.out
      generalize w5.setCell ⟨wr.heap.size, 0, none⟩ (.int .i64 (s.ap + 1)) = w6 at hkS hk2' ⊢
      have HBo6 := Lib.hid (HBo.out.keep hkS (fun j e => by omega))
      have HE6 := Lib.hid hk2'
      clear y0 g0 hkS hw1
      have y0 : w6.cell? ⟨wr.heap.size, 0, none⟩ = some (.int .i64 (s.ap+1)) := cell_of_row w6 _ 0 _ _ _ hk2'
      have y1 : w6.cell? ⟨wr.heap.size, 1, none⟩ = some (.int .i64 a.epoch) := cell_of_row w6 _ 1 _ _ _ hk2'
      have y2 : w6.cell? ⟨wr.heap.size, 2, none⟩ = some (.string a.stream) := cell_of_row w6 _ 2 _ _ _ hk2'
      have y3 : w6.cell? ⟨wr.heap.size, 3, none⟩ = some (.int .i64 a.expect) := cell_of_row w6 _ 3 _ _ _ hk2'
      have y4 : w6.cell? ⟨wr.heap.size, 4, none⟩ = some (.int .i64 a.session) := cell_of_row w6 _ 4 _ _ _ hk2'
      have y5 : w6.cell? ⟨wr.heap.size, 5, none⟩ = some (.int .i64 a.seq) := cell_of_row w6 _ 5 _ _ _ hk2'
      have y6 : w6.cell? ⟨wr.heap.size, 6, none⟩ = some (.slice B a.evs.length d) := cell_of_row w6 _ 6 _ _ _ hk2'
      have HBZ6 := Lib.hid (HBb.out.trans (HBo6.out.bel.mono HBb.out.size))
      have hwb : w.heap.size ≤ wb.heap.size := HBb.out.size
      have hcall := apply_any w6 (HTb.out.fresh HBZ6.out) p s F W HBo6.out.st _ (a.at_ (s.ap + 1)) (HEV.out w6 HBZ6.out (s.ap + 1)) (fun q hq e => by have := HBo6.out.fl q (HBo6.out.st.wf q e); omega) (by omega) (by have := HSO.out.lL; show _ + a.evs.length ≤ _; omega) (by have := HSO.out.lT; omega)
      rw [show (a.at_ (s.ap + 1)).evv = .slice B a.evs.length d from HV.out] at hcall
      rcases hrr : applyS s (a.at_ (s.ap + 1)) with ⟨s', ⟨r1, r2, r3, r4⟩, r5⟩
      rw [hrr] at hcall
      have HC := Lib.hid hcall
      have HRR := Lib.hid hrr
      clear hcall hrr hk2'
      go_wp2_with fail
      refine HC.out.mono ?_
      rintro e w7 ⟨rfl, hAp⟩
      have HAp := Lib.hid hAp
      have HMt := Lib.hid (HBo6.out.after hAp)
      have HE7 := Lib.hid (HBo6.out.keepE hAp HE6.out HNW.out)
      have HBZ7 := Lib.hid (HBb.out.trans ((HBo6.out.belApp hAp).mono HBb.out.size))
      have hB8 : Below w7.heap.size w7 (w7.alloc (.cells #[.int .i64 r1, .int .i64 r2, .int .i64 r3, .int .i64 r4] 53)) := (Below.refl _ _).alloc (Nat.le_refl _) _
      have hg1 := heap_alloc_new w7 (.cells #[.int .i64 r1, .int .i64 r2, .int .i64 r3, .int .i64 r4] 53)
      clear hAp HC y0 y1 y2 y3 y4 y5 y6
      go_upto_region 18 with (fail)
      generalize w7.alloc (.cells #[.int .i64 r1, .int .i64 r2, .int .i64 r3, .int .i64 r4] 53) = w8 at hB8 hg1 ⊢
      have HB8 := Lib.hid hB8
      have HG1 := Lib.hid hg1
      have hE8 := (Keeps.of_fresh hB8 (fun _ => False)).grownTo HE7.out id
      have HE8 := Lib.hid hE8
      have y0 : w8.cell? ⟨wr.heap.size, 0, none⟩ = some (.int .i64 (s.ap+1)) := cell_of_row w8 _ 0 _ _ _ hE8
      have y1 : w8.cell? ⟨wr.heap.size, 1, none⟩ = some (.int .i64 a.epoch) := cell_of_row w8 _ 1 _ _ _ hE8
      have y2 : w8.cell? ⟨wr.heap.size, 2, none⟩ = some (.string a.stream) := cell_of_row w8 _ 2 _ _ _ hE8
      have y3 : w8.cell? ⟨wr.heap.size, 3, none⟩ = some (.int .i64 a.expect) := cell_of_row w8 _ 3 _ _ _ hE8
      have y4 : w8.cell? ⟨wr.heap.size, 4, none⟩ = some (.int .i64 a.session) := cell_of_row w8 _ 4 _ _ _ hE8
      have y5 : w8.cell? ⟨wr.heap.size, 5, none⟩ = some (.int .i64 a.seq) := cell_of_row w8 _ 5 _ _ _ hE8
      have y6 : w8.cell? ⟨wr.heap.size, 6, none⟩ = some (.slice B a.evs.length d) := cell_of_row w8 _ 6 _ _ _ hE8
      have HBZ8 := Lib.hid (HBZ7.out.trans (hB8.mono HBZ7.out.size))
      have hcall := apply_any w8 (HTb.out.fresh HBZ8.out) q s F2 W2 (HMt.out.fresh hB8) _ (a.at_ (s.ap + 1)) (HEV.out w8 HBZ8.out (s.ap + 1)) (fun q hq e => by have := HBo6.out.tl q (HBo6.out.tw.wf q e); omega) (by omega) (by have := HSO.out.lL; show _ + a.evs.length ≤ _; omega) (by have := HSO.out.lT; omega)
      rw [show (a.at_ (s.ap + 1)).evv = .slice B a.evs.length d from HV.out, HRR.out] at hcall
      have HC := Lib.hid hcall
      clear hcall hB8 hg1 hE8
      go_wp2_with fail
      refine HC.out.mono ?_
      rintro e w9 ⟨rfl, hMp⟩
      obtain ⟨F', W', F2', W2', hBo9⟩ := HBo6.out.step HAp.out HB8.out hMp
      have hg1 : w9.heap[w7.heap.size]? = some (.cells #[.int .i64 r1, .int .i64 r2, .int .i64 r3, .int .i64 r4] 53 (0, 0)) := by
        obtain ⟨_, _, _, hKq⟩ := hMp
        exact hKq.grownTo HG1.out (fun e => by
          have := HMt.out.lt _ (HMt.out.wf _ e)
          omega)
      have hso9 : SOk s' (k + 1) := by
        have := HSO.out.step (a := a.at_ (s.ap + 1)) HFE.out (by omega)
        rw [HRR.out] at this
        exact this
      have hB10 : Below w9.heap.size w9 (w9.alloc (.cells #[.int .i64 r1, .int .i64 r2, .int .i64 r3, .int .i64 r4] 53)) := (Below.refl _ _).alloc (Nat.le_refl _) _
      have hg2 := heap_alloc_new w9 (.cells #[.int .i64 r1, .int .i64 r2, .int .i64 r3, .int .i64 r4] 53)
      have hg1 := (Keeps.of_fresh hB10 (fun _ => False)).grownTo hg1 id
      have HBo10 := Lib.hid (hBo9.fresh hB10)
      have HSO9 := Lib.hid hso9
      clear hMp hBo9 hB10 hso9 HC y0 y1 y2 y3 y4 y5 y6
      go_upto_region 19 with (fail)
      generalize w9.alloc (.cells #[.int .i64 r1, .int .i64 r2, .int .i64 r3, .int .i64 r4] 53) = w10 at hg1 hg2 HBo10 ⊢
      have q0 : w10.cell? ⟨w7.heap.size, 0, none⟩ = some (.int .i64 r1) := cell_of_row w10 _ 0 _ _ _ hg1
      have q1 : w10.cell? ⟨w7.heap.size, 1, none⟩ = some (.int .i64 r2) := cell_of_row w10 _ 1 _ _ _ hg1
      have q2 : w10.cell? ⟨w7.heap.size, 2, none⟩ = some (.int .i64 r3) := cell_of_row w10 _ 2 _ _ _ hg1
      have q3 : w10.cell? ⟨w7.heap.size, 3, none⟩ = some (.int .i64 r4) := cell_of_row w10 _ 3 _ _ _ hg1
      have v0 : w10.cell? ⟨w9.heap.size, 0, none⟩ = some (.int .i64 r1) := cell_of_row w10 _ 0 _ _ _ hg2
      have v1 : w10.cell? ⟨w9.heap.size, 1, none⟩ = some (.int .i64 r2) := cell_of_row w10 _ 1 _ _ _ hg2
      have v2 : w10.cell? ⟨w9.heap.size, 2, none⟩ = some (.int .i64 r3) := cell_of_row w10 _ 2 _ _ _ hg2
      have v3 : w10.cell? ⟨w9.heap.size, 3, none⟩ = some (.int .i64 r4) := cell_of_row w10 _ 3 _ _ _ hg2
      have hoc := ocNe_self ⟨r1, r2, r3, r4⟩
      clear hg1 hg2
      go_wp2_with fail
      go_roundw
      case rel => exact ⟨k + 1, s', F', W', F2', W2', hlt, by go_num, HBo10.out, HSO9.out⟩
      case measure => simp [RowKit.intOf]; omega
    · have hkd : k = l.length := by omega
      subst hkd
      have HC := Lib.hid (snapPut_any wr (HTb.out.fresh HBB.out) p s F W HBo.out.st HSO.out.rch (by have := HSO.out.lL; omega) (by have := HSO.out.lT; omega) (fun o ho => Nat.le_trans (HSO.out.str o ho) (by decide)))
      go_wp2_with fail
      refine HC.out.mono ?_
      rintro e w3 ⟨rfl, hB3⟩
      have HBo3 := Lib.hid (HBo.out.fresh hB3)
      have HB3 := Lib.hid (HBB.out.trans (hB3.mono HBB.out.size))
      have HC2 := Lib.hid (snapPut_any w3 (HTb.out.fresh HB3.out) q s F2 W2 HBo3.out.tw HSO.out.rch (by have := HSO.out.lL; omega) (by have := HSO.out.lT; omega) (fun o ho => Nat.le_trans (HSO.out.str o ho) (by decide)))
      clear hB3 HC
      go_wp2_with fail
      refine HC2.out.mono ?_
      rintro e w4 ⟨rfl, hB4⟩
      have HB4 := Lib.hid (HB3.out.trans (hB4.mono HB3.out.size))
      clear hB4 HC2
      go_wp2_with fail
      go_ret
      exact ⟨rfl, HB4.out⟩
end Go.Proofs.YthebmbhdlkldiaaGreatDoor
