/- SnapshotUnlike: what the statement's function does: it answers true. Under the tables that utf8 lays. -/
import Derived.Test.YthebmbhdlkldiaaGreatDoorSnpM
import Derived.Test.YthebmbhdlkldiaaGreatDoorParG
import Derived.Test.YthebmbhdlkldiaaGreatDoorParH
namespace Go.Proofs.YthebmbhdlkldiaaGreatDoor
open Go.RowKit Go.Bl
attribute [local go_sem ↓] Go.wp_at_zero Go.wp_at_succ

theorem sizeEntryH (w : World) : (sizeOf 50).run Tryz.prog w = .ok 7 w := by kernel_rfl
/-- An entry more: all is as it was, or one more is applied. -/
theorem step_or (s : St) (a : Ent) : stepS s a = s ∨ (stepS s a).ap = s.ap + 1 := by
  unfold stepS
  by_cases h : rightB (a.at_ (s.ap + 1)) = true
  · right
    have h2 : (a.at_ (s.ap + 1)).pos = s.ap + 1 := rfl
    rcases apply_next h h2 with ⟨o, _, _, _, e⟩ | ⟨_, _, e⟩ | ⟨_, _, _, e⟩ <;> rw [e] <;> exact h2
  · left
    exact (apply_err (.inl (by simpa using h))).1
set_option maxRecDepth 10000 in
set_option maxHeartbeats 4000000 in
theorem unlike_any (w : World) (hT : Tabs w) (v : Value) (l : List Ent) (h : EntsOk w (fun b => b < w.heap.size) v l) (at_ : Int) (hat : -9223372036854775808 ≤ at_ ∧ at_ ≤ 9223372036854775807) :
    Calls Tryz.prog 5 #[v, .int .i64 at_] w fun x w' => x = .returned (.bool true) ∧ Below w.heap.size w w' := by
  obtain ⟨A, c, rfl, hA1, hA2⟩ := h.1.shape
  unfold maxLen at hA2
  have HTb := Lib.hid hT
  have HA := Lib.hid h
  clear hT h
  go_enter Tryz.func5, Tryz.ntmps5
  go_wp2_with fail
  refine (shown_any w HTb.out).mono ?_
  rintro e wa ⟨rfl, hBa⟩
  have HBa := Lib.hid hBa
  clear hBa
  go_wp2_with fail
  refine (fits_all wa _ _ l (HA.out.fresh HBa.out)).mono ?_
  rintro x wb ⟨rfl, hBb⟩
  have HBb := Lib.hid (HBa.out.trans (hBb.mono HBa.out.size))
  clear hBb
  cases hfb : fitsB l
  · go_wp2_with fail
    go_ret
    exact ⟨rfl, HBb.out⟩
  have HFB := Lib.hid hfb
  clear hfb
  have hl40 := (fitsB_at HFB.out).1
  by_cases hl0 : l.length = 0
  · have d0 : ((l.length : Int) == 0) = true := by rw [beq_iff_eq]; omega
    have d1 : (l.length == 0) = true := by rw [beq_iff_eq]; exact hl0
    obtain ⟨N, hN⟩ : ∃ N, l.length = N := ⟨_, rfl⟩
    rw [hN] at d0 d1 ⊢
    clear hN hl0
    go_wp2_with fail
    go_ret
    exact ⟨rfl, HBb.out⟩
  have HPK := Lib.hid (pick_any wb at_ hat l.length (by omega) (by omega))
  have d0 : ((l.length : Int) == 0) = false := by rw [beq_eq_false_iff_ne]; omega
  have d1 : (l.length == 0) = false := by rw [beq_eq_false_iff_ne]; exact hl0
  have d2 : ¬ (l = []) := fun e => hl0 (by rw [e]; rfl)
  go_wp2_with fail
  refine HPK.out.mono ?_
  rintro e wz ⟨n, hn, rfl, rfl⟩
  have hcut : ∀ w, (Instr.slice 22 (.slice A l.length c) none (some (.int .i64 n)) none).run Tryz.prog w = .ok (.slice (cutA A c 0 7) n c) w := fun w => by
    simpa using run_cut_high (P := Tryz.prog) Tryz.underlying22 sizeEntryH A l.length c (n : Int) (by omega) (by omega) w
  have hAb := HA.out.fresh HBb.out
  have HC := Lib.hid (made_any wb (HTb.out.fresh HBb.out) (fun b => b < w.heap.size) _ (l.take n) ⟨hAb.1.take_ (by omega), fun a ha => hAb.2 a (List.mem_of_mem_take ha)⟩ (fun a ha => (fitsB_at HFB.out).2 a (List.mem_of_mem_take ha)) (by rw [List.length_take]; omega))
  clear hAb
  go_wp2_with fail
  refine HC.out.mono ?_
  rintro e wc ⟨p, m, F, W, M, rfl, hMd, hso⟩
  have hms := madeS_succ hn
  obtain ⟨s, hs⟩ : ∃ s, madeS (l.take n) = s := ⟨_, rfl⟩
  rw [hs] at hMd hso hms
  rw [List.length_take, Nat.min_eq_left (by omega)] at hso
  have HMD := Lib.hid hMd
  have HSO := Lib.hid hso
  have HBc := Lib.hid (HBb.out.trans (hMd.bel.mono HBb.out.size))
  have hcut2 : ∀ w, (Instr.slice 22 (.slice A l.length c) none (some (.int .i64 ((n : Int) + 1))) none).run Tryz.prog w = .ok (.slice (cutA A c 0 7) (n + 1) c) w := fun w => by
    have := run_cut_high (P := Tryz.prog) Tryz.underlying22 sizeEntryH A l.length c ((n : Int) + 1) (by omega) (by omega) w
    rw [show ((n : Int) + 1).toNat = n + 1 by omega] at this
    exact this
  have hAc := HA.out.fresh HBc.out
  have HC2 := Lib.hid (made_any wc (HTb.out.fresh HBc.out) (fun b => b < w.heap.size) _ (l.take (n + 1)) ⟨hAc.1.take_ (by omega), fun a ha => hAc.2 a (List.mem_of_mem_take ha)⟩ (fun a ha => (fitsB_at HFB.out).2 a (List.mem_of_mem_take ha)) (by rw [List.length_take]; omega))
  clear hcut hs hMd hso HC hAc
  go_wp2_with fail
  refine HC2.out.mono ?_
  rintro e wd ⟨p2, m2, F2, W2, M2, rfl, hMd2, hso2⟩
  obtain ⟨s2, hs2⟩ : ∃ s2, madeS (l.take (n + 1)) = s2 := ⟨_, rfl⟩
  rw [hs2] at hMd2 hso2 hms
  rw [List.length_take, Nat.min_eq_left (by omega)] at hso2
  have HM1 := Lib.hid (HMD.out.fresh hMd2.bel)
  have HM2 := Lib.hid hMd2
  have HO2 := Lib.hid hso2
  have HBd := Lib.hid (HBc.out.trans (hMd2.bel.mono HBc.out.size))
  have HPT := Lib.hid (parts_any wd p s F W HM1.out.st (by have := HSO.out.lL; omega) (by have := HSO.out.lT; omega) (fun o ho => Nat.le_trans (HSO.out.str o ho) (by decide)) HM1.out.st.okL)
  have HOR : Hid (s2 = s ∨ s2.ap = s.ap + 1) := Lib.hid (by rw [hms]; exact step_or s l[n])
  clear hcut2 hs2 hMd2 hso2 HC2 hms HMD
  go_wp2_with fail
  refine HPT.out.mono ?_
  rintro e we ⟨sv1, rv1, rfl, hP, hBe⟩
  obtain ⟨A1, c1, rfl, _, _⟩ := hP.ss.shape
  obtain ⟨B1, d1, rfl, _, _⟩ := hP.rs.shape
  rw [show (ptOf s).ap = s.ap from rfl]
  have hBf : Below we.heap.size we (we.alloc (.cells #[.int .i64 s.ap, .slice A1 (ptOf s).ss.length c1, .slice B1 (ptOf s).rs.length d1] 43)) := (Below.refl _ we).alloc (Nat.le_refl _) _
  have hgf := heap_alloc_new we (.cells #[.int .i64 s.ap, .slice A1 (ptOf s).ss.length c1, .slice B1 (ptOf s).rs.length d1] 43)
  have HM1 := Lib.hid (HM1.out.fresh hBe)
  have HM2 := Lib.hid (HM2.out.fresh hBe)
  have HP := Lib.hid hP
  have HBf := Lib.hid ((HBd.out.trans (hBe.mono HBd.out.size)).trans (hBf.mono (by have := HBd.out.size; have := hBe.size; omega)))
  clear hP hBe HPT
  by_cases he : s2 = s
  · have he := he.symm
    subst he
    clear HOR
    go_upto_region 11 with (fail)
    generalize we.alloc (.cells #[.int .i64 s.ap, .slice A1 (ptOf s).ss.length c1, .slice B1 (ptOf s).rs.length d1] 43) = wf at hBf hgf HBf ⊢
    obtain ⟨g, hg⟩ : ∃ g, we.heap.size = g := ⟨_, rfl⟩
    rw [hg] at hgf ⊢
    have x0 : wf.cell? ⟨g, 0, none⟩ = some (.int .i64 s.ap) := cell_of_row wf g 0 _ _ _ hgf
    have x1 : wf.cell? ⟨g, 1, none⟩ = some (.slice A1 (ptOf s).ss.length c1) := cell_of_row wf g 1 _ _ _ hgf
    have x2 : wf.cell? ⟨g, 2, none⟩ = some (.slice B1 (ptOf s).rs.length d1) := cell_of_row wf g 2 _ _ _ hgf
    have HMA := Lib.hid (HM1.out.fresh hBf)
    have HMB := Lib.hid (HM2.out.fresh hBf)
    have HPA := Lib.hid (HP.out.fresh hBf)
    have hBd : Below wf.heap.size wf wf.drew := ⟨rfl, rfl, rfl, Nat.le_refl _, fun _ _ => rfl⟩
    have HMP := Lib.hid (mparts_any wf.drew m2 s M2 (HMB.out.mt.fresh hBd) (by have := HO2.out.lL; omega) (by have := HO2.out.lT; omega) (fun o ho => Nat.le_trans (HO2.out.str o ho) (by decide)) HMB.out.st.okL)
    clear hg hgf hBd
    go_wp2_with fail
    go_region_held3 (fun x => x.cell? ⟨g, 0, none⟩ = some (.int .i64 s.ap) ∧ x.cell? ⟨g, 1, none⟩ = some (.slice A1 (ptOf s).ss.length c1) ∧ x.cell? ⟨g, 2, none⟩ = some (.slice B1 (ptOf s).rs.length d1))
      (first | exact ⟨x0, x1, x2⟩ | go_keep)
      (first
        | (go_at_call 13
           refine HMP.out.mono ?_
           rintro e wv ⟨sv2, rv2, rfl, hP2, hBv⟩
           obtain ⟨A2, c2, rfl, _, _⟩ := hP2.ss.shape
           obtain ⟨B2, d2, rfl, _, _⟩ := hP2.rs.shape
           have hBv : Below wf.heap.size wf wv := ⟨hBv.os, hBv.tape, hBv.output, hBv.size, hBv.block⟩
           have x0 := (hBv.cell (p := ⟨g, 0, none⟩) (lt_of_cellP x0)).trans x0
           have x1 := (hBv.cell (p := ⟨g, 1, none⟩) (lt_of_cellP x1)).trans x1
           have x2 := (hBv.cell (p := ⟨g, 2, none⟩) (lt_of_cellP x2)).trans x2
           have HP2 := Lib.hid hP2
           have HBv := Lib.hid hBv
           have HPV := Lib.hid (HPA.out.fresh hBv)
           clear hP2 hBv)
        | (go_at_call 14
           refine (sameP_any _ _ _ (ptOf s) (ptOf s) _ _ _ _ HPV.out HP2.out).mono ?_
           rintro e wt ⟨BS, rfl, hBS, hBt⟩
           obtain rfl : BS = true := hBS.2 rfl
           have x0 := (hBt.cell (p := ⟨g, 0, none⟩) (lt_of_cellP x0)).trans x0
           have x1 := (hBt.cell (p := ⟨g, 1, none⟩) (lt_of_cellP x1)).trans x1
           have x2 := (hBt.cell (p := ⟨g, 2, none⟩) (lt_of_cellP x2)).trans x2
           have HBt := Lib.hid (HBv.out.trans (hBt.mono HBv.out.size))
           clear hBS hBt))
    clear x0 x1 x2
    go_wp2_with fail
    have HMA := Lib.hid (HMA.out.fresh HBt.out)
    have HMB := Lib.hid (HMB.out.fresh HBt.out)
    have m0 : wt.cell? ⟨m, 2, none⟩ = some (.int .i64 s.ap) := by
      obtain ⟨_, _, _, _, hmt⟩ := HMA.out.mt
      exact cell_of_row wt m 2 _ _ _ hmt.blk
    have HBz := Lib.hid (HBf.out.trans (HBt.out.mono HBf.out.size))
    have hBd : Below wt.heap.size wt wt.drew := ⟨rfl, rfl, rfl, Nat.le_refl _, fun _ _ => rfl⟩
    have HU1 := Lib.hid (snapPut_any wt.drew ((HTb.out.fresh HBz.out).fresh hBd) p s F W (HMA.out.st.fresh hBd) HSO.out.rch (by have := HSO.out.lL; omega) (by have := HSO.out.lT; omega) (fun o ho => Nat.le_trans (HSO.out.str o ho) (by decide)))
    have HU2 := Lib.hid (fun (wz : World) (hz : Below wt.heap.size wt wz) => snapPut_any wz (HTb.out.fresh (HBz.out.trans (hz.mono HBz.out.size))) p2 s F2 W2 (HMB.out.st.fresh hz) HO2.out.rch (by have := HO2.out.lL; omega) (by have := HO2.out.lT; omega) (fun o ho => Nat.le_trans (HO2.out.str o ho) (by decide)))
    obtain ⟨S1, hS1⟩ : ∃ S1, Bl (snpB (ptOf s)) = S1 := ⟨_, rfl⟩
    rw [hS1] at HU1 HU2; have hsb := strEq_true (rfl : S1 = S1)
    clear hBd
    go_region_held3 (fun x => x.cell? ⟨m, 2, none⟩ = some (.int .i64 s.ap))
      (first | exact m0 | go_keep)
      (first
        | (go_at_call 10
           with_reducible refine HU1.out.mono ?_
           rintro e wq ⟨rfl, hBq⟩
           have hBq : Below wt.heap.size wt wq := ⟨hBq.os, hBq.tape, hBq.output, hBq.size, hBq.block⟩
           have m0 := (hBq.cell (p := ⟨m, 2, none⟩) (lt_of_cellP m0)).trans m0
           have HBq := Lib.hid hBq
           clear hBq)
        | (go_at_call 10
           with_reducible refine (HU2.out _ HBq.out).mono ?_
           rintro e wr ⟨rfl, hBr⟩
           have m0 := (hBr.cell (p := ⟨m, 2, none⟩) (lt_of_cellP m0)).trans m0
           have HBq2 := Lib.hid (HBq.out.trans (hBr.mono HBq.out.size))
           have HMR := Lib.hid (HMA.out.fresh HBq2.out)
           have HMS := Lib.hid (HMB.out.fresh HBq2.out)
           have HBr := Lib.hid (HBz.out.trans (HBq2.out.mono HBz.out.size))
           clear hBr)
        | (go_at_call 17
           with_reducible refine (applied_any _ p s F W HMR.out.st).mono ?_
           rintro e wz ⟨rfl, rfl⟩)
        | (go_at_call 17
           with_reducible refine (applied_any _ p2 s F2 W2 HMS.out.st).mono ?_
           rintro e wz ⟨rfl, rfl⟩))
    go_wp2_with fail
    go_ret
    exact ⟨rfl, HBr.out⟩
  · have hap := HOR.out.resolve_left he
    have hbeq : (s.ap == s2.ap) = false := by rw [beq_eq_false_iff_ne]; omega
    have hpne : ¬ ptOf s = ptOf s2 := fun e => by
      have : (ptOf s).ap = (ptOf s2).ap := congrArg Pt.ap e
      change s.ap = s2.ap at this
      omega
    have hsne : ¬ Bl (snpB (ptOf s)) = Bl (snpB (ptOf s2)) := fun e => by
      have h1 := snp_ap (p := ptOf s) (q := ptOf s2) HSO.out.rch.parts.ap HO2.out.rch.parts.ap (Bl_inj e)
      change s.ap = s2.ap at h1
      omega
    have HPN := Lib.hid hpne
    have HSN := Lib.hid hsne
    clear HOR he hap hpne hsne
    go_upto_region 11 with (fail)
    generalize we.alloc (.cells #[.int .i64 s.ap, .slice A1 (ptOf s).ss.length c1, .slice B1 (ptOf s).rs.length d1] 43) = wf at hBf hgf HBf ⊢
    obtain ⟨g, hg⟩ : ∃ g, we.heap.size = g := ⟨_, rfl⟩
    rw [hg] at hgf ⊢
    have x0 : wf.cell? ⟨g, 0, none⟩ = some (.int .i64 s.ap) := cell_of_row wf g 0 _ _ _ hgf
    have x1 : wf.cell? ⟨g, 1, none⟩ = some (.slice A1 (ptOf s).ss.length c1) := cell_of_row wf g 1 _ _ _ hgf
    have x2 : wf.cell? ⟨g, 2, none⟩ = some (.slice B1 (ptOf s).rs.length d1) := cell_of_row wf g 2 _ _ _ hgf
    have HMA := Lib.hid (HM1.out.fresh hBf)
    have HMB := Lib.hid (HM2.out.fresh hBf)
    have HPA := Lib.hid (HP.out.fresh hBf)
    have hBd : Below wf.heap.size wf wf.drew := ⟨rfl, rfl, rfl, Nat.le_refl _, fun _ _ => rfl⟩
    have HMP := Lib.hid (mparts_any wf.drew m2 s2 M2 (HMB.out.mt.fresh hBd) (by have := HO2.out.lL; omega) (by have := HO2.out.lT; omega) (fun o ho => Nat.le_trans (HO2.out.str o ho) (by decide)) HMB.out.st.okL)
    clear hg hgf hBd
    go_wp2_with fail
    go_region_held3 (fun x => x.cell? ⟨g, 0, none⟩ = some (.int .i64 s.ap) ∧ x.cell? ⟨g, 1, none⟩ = some (.slice A1 (ptOf s).ss.length c1) ∧ x.cell? ⟨g, 2, none⟩ = some (.slice B1 (ptOf s).rs.length d1))
      (first | exact ⟨x0, x1, x2⟩ | go_keep)
      (first
        | (go_at_call 13
           refine HMP.out.mono ?_
           rintro e wv ⟨sv2, rv2, rfl, hP2, hBv⟩
           obtain ⟨A2, c2, rfl, _, _⟩ := hP2.ss.shape
           obtain ⟨B2, d2, rfl, _, _⟩ := hP2.rs.shape
           have hBv : Below wf.heap.size wf wv := ⟨hBv.os, hBv.tape, hBv.output, hBv.size, hBv.block⟩
           have x0 := (hBv.cell (p := ⟨g, 0, none⟩) (lt_of_cellP x0)).trans x0
           have x1 := (hBv.cell (p := ⟨g, 1, none⟩) (lt_of_cellP x1)).trans x1
           have x2 := (hBv.cell (p := ⟨g, 2, none⟩) (lt_of_cellP x2)).trans x2
           have HP2 := Lib.hid hP2
           have HBv := Lib.hid hBv
           have HPV := Lib.hid (HPA.out.fresh hBv)
           clear hP2 hBv)
        | (go_at_call 14
           refine (sameP_any _ _ _ (ptOf s) (ptOf s2) _ _ _ _ HPV.out HP2.out).mono ?_
           rintro e wt ⟨BS, rfl, hBS, hBt⟩
           obtain rfl : BS = false := (by cases BS with | false => rfl | true => exact absurd (hBS.1 rfl) HPN.out)
           have x0 := (hBt.cell (p := ⟨g, 0, none⟩) (lt_of_cellP x0)).trans x0
           have x1 := (hBt.cell (p := ⟨g, 1, none⟩) (lt_of_cellP x1)).trans x1
           have x2 := (hBt.cell (p := ⟨g, 2, none⟩) (lt_of_cellP x2)).trans x2
           have HBt := Lib.hid (HBv.out.trans (hBt.mono HBv.out.size))
           clear hBS hBt))
    clear x0 x1 x2
    go_wp2_with fail
    have HMA := Lib.hid (HMA.out.fresh HBt.out)
    have HMB := Lib.hid (HMB.out.fresh HBt.out)
    have m0 : wt.cell? ⟨m, 2, none⟩ = some (.int .i64 s.ap) := by
      obtain ⟨_, _, _, _, hmt⟩ := HMA.out.mt
      exact cell_of_row wt m 2 _ _ _ hmt.blk
    have HBz := Lib.hid (HBf.out.trans (HBt.out.mono HBf.out.size))
    have hBd : Below wt.heap.size wt wt.drew := ⟨rfl, rfl, rfl, Nat.le_refl _, fun _ _ => rfl⟩
    have HU1 := Lib.hid (snapPut_any wt.drew ((HTb.out.fresh HBz.out).fresh hBd) p s F W (HMA.out.st.fresh hBd) HSO.out.rch (by have := HSO.out.lL; omega) (by have := HSO.out.lT; omega) (fun o ho => Nat.le_trans (HSO.out.str o ho) (by decide)))
    have HU2 := Lib.hid (fun (wz : World) (hz : Below wt.heap.size wt wz) => snapPut_any wz (HTb.out.fresh (HBz.out.trans (hz.mono HBz.out.size))) p2 s2 F2 W2 (HMB.out.st.fresh hz) HO2.out.rch (by have := HO2.out.lL; omega) (by have := HO2.out.lT; omega) (fun o ho => Nat.le_trans (HO2.out.str o ho) (by decide)))
    obtain ⟨S1, hS1⟩ : ∃ S1, Bl (snpB (ptOf s)) = S1 := ⟨_, rfl⟩
    obtain ⟨S2, hS2⟩ : ∃ S2, Bl (snpB (ptOf s2)) = S2 := ⟨_, rfl⟩; have hsne := HSN.out; rw [hS1] at HU1 hsne; rw [hS2] at HU2 hsne; have hsb := strEq_false hsne
    clear hBd
    go_region_held3 (fun x => x.cell? ⟨m, 2, none⟩ = some (.int .i64 s.ap))
      (first | exact m0 | go_keep)
      (first
        | (go_at_call 10
           with_reducible refine HU1.out.mono ?_
           rintro e wq ⟨rfl, hBq⟩
           have hBq : Below wt.heap.size wt wq := ⟨hBq.os, hBq.tape, hBq.output, hBq.size, hBq.block⟩
           have m0 := (hBq.cell (p := ⟨m, 2, none⟩) (lt_of_cellP m0)).trans m0
           have HBq := Lib.hid hBq
           clear hBq)
        | (go_at_call 10
           with_reducible refine (HU2.out _ HBq.out).mono ?_
           rintro e wr ⟨rfl, hBr⟩
           have m0 := (hBr.cell (p := ⟨m, 2, none⟩) (lt_of_cellP m0)).trans m0
           have HBq2 := Lib.hid (HBq.out.trans (hBr.mono HBq.out.size))
           have HMR := Lib.hid (HMA.out.fresh HBq2.out)
           have HMS := Lib.hid (HMB.out.fresh HBq2.out)
           have HBr := Lib.hid (HBz.out.trans (HBq2.out.mono HBz.out.size))
           clear hBr)
        | (go_at_call 17
           with_reducible refine (applied_any _ p s F W HMR.out.st).mono ?_
           rintro e wz ⟨rfl, rfl⟩)
        | (go_at_call 17
           with_reducible refine (applied_any _ p2 s2 F2 W2 HMS.out.st).mono ?_
           rintro e wz ⟨rfl, rfl⟩))
    go_wp2_with fail
    go_ret
    exact ⟨rfl, HBr.out⟩
end Go.Proofs.YthebmbhdlkldiaaGreatDoor
