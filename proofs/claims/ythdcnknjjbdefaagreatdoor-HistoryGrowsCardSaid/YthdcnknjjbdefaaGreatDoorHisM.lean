/- The history: pick, exactly; ops in boxes: stores of an op, of its parts. Under the stated premises on sizes. -/
import Derived.Test.YthdcnknjjbdefaaGreatDoorHisK
import Derived.Test.YthdcnknjjbdefaaGreatDoorHisG
/- The history: the statement's row of entries: a right log. Under the tables that utf8 lays. -/
namespace Go.Proofs.YthdcnknjjbdefaaGreatDoor.His
open Go.RowKit Go.Bl
attribute [local go_sem ↓] Go.wp_at_zero Go.wp_at_succ

theorem rowL_succ {l : List Ent} {k : Nat} (h : k < l.length) : rowL (l.take (k + 1)) = rowS (rowL (l.take k)) l[k] := by
  unfold rowL
  rw [List.take_succ_eq_append_getElem h, List.foldl_append]
  rfl
theorem rowS_full {log : List Ent} (h : log.length = 6) (a : Ent) : rowS log a = log := by
  unfold rowS
  rw [if_neg (by omega)]
theorem rowL_full {l : List Ent} {k : Nat} (h : (rowL (l.take k)).length = 6) : rowL l = rowL (l.take k) := by
  have : ∀ (r : List Ent) (acc : List Ent), acc.length = 6 → r.foldl rowS acc = acc := by
    intro r
    induction r with
    | nil => intro acc _; rfl
    | cons a r ih => intro acc ha; rw [List.foldl_cons, rowS_full ha, ih acc ha]
  conv => lhs; rw [← List.take_append_drop k l]
  unfold rowL
  rw [List.foldl_append]
  exact this _ _ h
theorem applyS_no {s : St} {a : Ent} (h : (applyS s a).2.2 ≠ 0) : (applyS s a).1 = s := by
  by_cases hr : rightB a = false ∨ a.pos ≠ s.ap + 1
  · exact (apply_err hr).1
  · exfalso
    have h1 : rightB a = true := by
      cases hb : rightB a
      · exact absurd (.inl hb) hr
      · rfl
    have h2 : a.pos = s.ap + 1 := Decidable.byContradiction fun hn => hr (.inr hn)
    rcases apply_next h1 h2 with ⟨o, _, _, _, e⟩ | ⟨_, _, e⟩ | ⟨_, _, _, e⟩ <;> rw [e] at h <;> exact h rfl
/-- What the loop of row keeps. -/
structure RowK (w : World) (m : Nat) (u : Value) (R : List EntS) (l : List Ent) (k : Nat) (F : Nat → Prop) (wr : World) : Prop where
  own : Own wr w.heap.size 55 7 ensc u R
  row : R.map EntS.val = rowL (l.take k)
  st : MtAt wr m (stF (rowL (l.take k))) F
  low : ∀ j, F j → w.heap.size ≤ j
  no : ∀ b, u.ownBlock = some b → ¬ F b
  ev : ∀ a ∈ rowL (l.take k), entF a = true ∧ EntOk w (fun b => b < w.heap.size) a
  bel : Below w.heap.size w wr
set_option maxRecDepth 10000 in
set_option maxHeartbeats 4000000 in
theorem row_any (w : World) (v : Value) (l : List Ent) (h : EntsOk w (fun b => b < w.heap.size) v l) (hf : fitsB l = true) :
    Calls Tryz.prog 10 #[v] w fun e w' => ∃ u, e = .returned u ∧ LogIn w' u (rowL l) ∧ Below w.heap.size w w' := by
  obtain ⟨A, c, rfl, hA1, hA2⟩ := h.1.shape
  unfold maxLen at hA2
  have HL := Lib.hid h
  have HF := Lib.hid (fitsB_at hf)
  have hl40 := (fitsB_at hf).1
  obtain ⟨n, hn⟩ : ∃ n, l.length = n := ⟨_, rfl⟩
  have HN := Lib.hid hn
  rw [hn] at hA1 HL hl40 ⊢
  clear h hf hn
  go_enter Tryz.func10, Tryz.ntmps10
  go_wp2_with fail
  refine (mnew_any w).mono ?_
  rintro e w1 ⟨m, rfl, hM, hB⟩
  have HM := Lib.hid hM
  have HB := Lib.hid hB
  clear hM hB
  go_wp2_with fail
  go_loopw [3, 5] (fun u i wr => ∃ (k : Nat) (R : List EntS) (F : Nat → Prop), k ≤ n ∧ i = .int .i64 k ∧ RowK w m u R l k F wr) (fun _ i _ => n - (RowKit.intOf i).toNat)
  case atStart => exact ⟨0, [], _, Nat.zero_le _, rfl, Own.nil_ _ _ _ _ _, rfl, HM.out, fun j hj => hj.1, (fun b hb => by cases hb), (fun a ha => by cases ha), HB.out⟩
  case round =>
    rename World => wr
    obtain ⟨k, R, F, hk, rfl, hK⟩ := hrel
    have HK := Lib.hid hK
    obtain ⟨hlo, hl6⟩ := rowL_ok (l.take k)
    have hRl : R.length = (rowL (l.take k)).length := by rw [← hK.row, List.length_map]
    obtain ⟨r, hr⟩ : ∃ r, R.length = r := ⟨_, rfl⟩
    have hr6 : r ≤ 6 := by omega
    obtain ⟨Au, cu, hu, hu1, hu2⟩ := hK.own.shape_ (n := r) hr
    unfold maxLen at hu2
    have HR := Lib.hid hr
    have HRL := Lib.hid hRl
    have HLO := Lib.hid hlo
    subst hu
    clear hK hlo hl6 hRl hr
    by_cases hend : k = n ∨ r = 6
    · have hfin : rowL l = rowL (l.take k) := by
        rcases hend with e | e
        · rw [e, ← HN.out, List.take_length]
        · exact rowL_full (by rw [← HRL.out, HR.out]; exact e)
      have HFIN := Lib.hid hfin
      clear hfin
      have hfinal : LogIn wr (.slice Au r cu) (rowL l) := by
        rw [HFIN.out]
        have hs := sl_val ((HK.out.own.sl elEns.len).bound)
        rw [HK.out.row] at hs
        exact ⟨⟨hs.mono (fun b hb _ => hb), fun a ha => by
          have h0 := (HK.out.ev a ha).2.fresh HK.out.bel
          exact ⟨h0.1.mono (fun b hb _ => hb), h0.2⟩⟩, fun a ha => (HK.out.ev a ha).1⟩
      have HFI := Lib.hid hfinal
      clear hfinal
      by_cases hkn : k < n
      · have hr66 : r = 6 := by omega
        subst hr66
        clear hend
        go_wp2_with fail
        go_ret
        exact ⟨_, rfl, HFI.out, HK.out.bel⟩
      · clear hend
        go_wp2_with fail
        go_ret
        exact ⟨_, rfl, HFI.out, HK.out.bel⟩
    · have hlt : k < n := by omega
      have hlt6 : r < 6 := by omega
      have hkl : k < l.length := by rw [HN.out]; exact hlt
      have hEr := EntsOk.grow HL.out HK.out.bel
      obtain ⟨b0, o0, hAe, _, _, hx⟩ := hEr.1.cell_ hkl
      cases hAe
      have heok := HL.out.2 _ (List.getElem_mem hkl)
      have hfit := HF.out.2 _ (List.getElem_mem hkl)
      obtain ⟨EA, Ec, hev2, _, _⟩ := heok.1.shape
      obtain ⟨EN, hEN⟩ : ∃ n, l[k].evs.length = n := ⟨_, rfl⟩
      rw [hEN] at hev2
      have hrs := rowL_succ hkl
      obtain ⟨a, ha⟩ : ∃ a, l[k] = a := ⟨_, rfl⟩
      rw [ha] at hx heok hfit hev2 hrs
      have x0 := hx 0 _ rfl
      have x1 := hx 1 _ rfl
      have x2 := hx 2 _ rfl
      have x3 := hx 3 _ rfl
      have x4 := hx 4 _ rfl
      have x5 := hx 5 _ rfl
      have x6 := hx 6 _ rfl
      rw [hev2] at x6
      simp only [Nat.add_zero] at x0
      have hlg : (rowL (l.take k)).length = r := by rw [← HRL.out, HR.out]
      have hap : (stF (rowL (l.take k))).ap = r := by
        rw [← stK_all, HLO.out.ap _ (Nat.le_refl _), hlg]
      have hsz := HLO.out.len _ (Nat.le_refl _)
      rw [stK_all, hlg] at hsz
      obtain ⟨xm, tm, FX, FT, hmi⟩ := HK.out.st
      have c2 := hmi.c2
      rw [hap] at c2
      have hml := hmi.lt m hmi.fm
      have hnx : nextE (rowL (l.take k)) a = { a with pos := (r : Int) + 1, epoch := 1 } := by unfold nextE; rw [hlg]
      have hsm := ent_small heok hfit
      have hcall := fun (wz : World) (hz : Below wr.heap.size wr wz) => mapply_any wz m (stF (rowL (l.take k))) F (HK.out.st.fresh hz) (fun b => b < w.heap.size) (nextE (rowL (l.take k)) a)
        (BatchSm.fresh (BatchSm.fresh (show BatchSm w (fun b => b < w.heap.size) (nextE (rowL (l.take k)) a) from hsm) HK.out.bel) hz) (fun x hx hf => by have := HK.out.low x hf; omega) (by rw [hap]; omega) (by have : (nextE (rowL (l.take k)) a).evs.length ≤ 20 := (entF_at hfit).2.1; omega) (by omega)
      have hrs2 : rowL (l.take (k + 1)) = if (applyS (stF (rowL (l.take k))) (nextE (rowL (l.take k)) a)).2.2 = 0 then rowL (l.take k) ++ [nextE (rowL (l.take k)) a] else rowL (l.take k) := by
        rw [hrs]
        unfold rowS
        by_cases h0 : (applyS (stF (rowL (l.take k))) (nextE (rowL (l.take k)) a)).2.2 = 0
        · rw [if_pos ⟨by omega, h0⟩, if_pos h0]
        · rw [if_neg (fun h => h0 h.2), if_neg h0]
      have hst2 : stF (rowL (l.take (k + 1))) = (applyS (stF (rowL (l.take k))) (nextE (rowL (l.take k)) a)).1 := by
        rw [hrs2]
        split
        · rw [stF_snoc]
        · rename_i h0
          rw [applyS_no h0]
      have hok2 : EntOk w (fun b => b < w.heap.size) (nextE (rowL (l.take k)) a) := ⟨heok.1, heok.2.1, heok.2.2.1, by rw [hnx]; show -9223372036854775808 ≤ (r : Int) + 1 ∧ (r : Int) + 1 ≤ 9223372036854775807; omega⟩
      have hfit2 : entF (nextE (rowL (l.take k)) a) = true := hfit
      obtain ⟨ne, hne⟩ : ∃ ne, nextE (rowL (l.take k)) a = ne := ⟨_, rfl⟩
      rw [hne] at hcall hrs2 hst2 hok2 hfit2 hnx
      obtain ⟨ns, ⟨r1, r2, r3, r4⟩, r5, hns⟩ : ∃ s o e, applyS (stF (rowL (l.take k))) ne = (s, o, e) := ⟨_, _, _, rfl⟩
      rw [hns] at hcall hrs2 hst2
      have hcall2 : ∀ wz : World, Below wr.heap.size wr wz → Calls Tryz.prog 17 #[.pointer (some ⟨m, 0, none⟩), .agg #[.int .i64 ((r : Int) + 1), .int .i64 1, .string a.stream, .int .i64 a.expect, .int .i64 a.session, .int .i64 a.seq, .slice EA EN Ec]] wz fun e w' =>
          e = .returned (.tuple #[.agg #[.int .i64 r1, .int .i64 r2, .int .i64 r3, .int .i64 r4], .int .i64 r5]) ∧ MApplied wz w' m ns F := fun wz hz => by
        have := hcall wz hz
        rw [hnx] at this
        simp only [hev2] at this
        exact this
      have HC := Lib.hid hcall2
      have HRS := Lib.hid hrs2
      have HST := Lib.hid hst2
      have HOKN := Lib.hid hok2
      have HFIN := Lib.hid hfit2
      have HNX := Lib.hid hnx
      have HEV := Lib.hid hev2
      have hk0 : (0 : Int) ≤ (k : Int) := by omega
      have hk1 : (k : Int) < (n : Int) := by omega
      have hr6' : (r : Int) < 6 := by omega
      clear hend hEr hx heok hfit hev2 hrs hlg hap hsz hmi hnx hsm hcall hcall2 hrs2 hst2 hok2 hfit2 hne hns ha hEN
      have hBe := (Below.refl wr.heap.size wr).alloc (Nat.le_refl _) (.cells #[.int .i64 a.pos, .int .i64 a.epoch, .string a.stream, .int .i64 a.expect, .int .i64 a.session, .int .i64 a.seq, .slice EA EN Ec] 55)
      have hge := heap_alloc_new wr (.cells #[.int .i64 a.pos, .int .i64 a.epoch, .string a.stream, .int .i64 a.expect, .int .i64 a.session, .int .i64 a.seq, .slice EA EN Ec] 55)
      go_upto_region 7 with (fail)
      obtain ⟨g, hg⟩ : ∃ g, wr.heap.size = g := ⟨_, rfl⟩
      have HG := Lib.hid hg
      rw [hg] at hge hml ⊢
      generalize wr.alloc (.cells #[.int .i64 a.pos, .int .i64 a.epoch, .string a.stream, .int .i64 a.expect, .int .i64 a.session, .int .i64 a.seq, .slice EA EN Ec] 55) = w6 at hBe hge ⊢
      have c2 := (hBe.cell (p := ⟨m, 2, none⟩) (World.block_lt_of_cell? _ _ c2)).trans c2
      have g0 := cell_of_row w6 g 0 _ _ _ hge
      have g1 := cell_of_row w6 g 1 _ _ _ hge
      have f0 := frozen_block hge 0
      have f1 := frozen_block hge 1
      have hgm : ¬ g = m := by omega
      have hB8 : Below wr.heap.size wr ((w6.setCell ⟨g, 0, none⟩ (.int .i64 ((r : Int) + 1))).setCell ⟨g, 1, none⟩ (.int .i64 1)) := by
        have h1 : Keeps (fun x => x = g) w6 ((w6.setCell ⟨g, 0, none⟩ (.int .i64 ((r : Int) + 1))).setCell ⟨g, 1, none⟩ (.int .i64 1)) := ((Keeps.refl (fun x => x = g) w6).setCell (p := ⟨g, 0, none⟩) (fun _ => rfl) _).setCell (p := ⟨g, 1, none⟩) (fun _ => rfl) _
        exact Go.Bl.Below.keep hBe h1 hBe.size (fun x hx => by have hx : x = g := hx; omega)
      have hg8 := setCell_block' (o := 1) (v := .int .i64 1) (setCell_block' (o := 0) (v := .int .i64 ((r : Int) + 1)) hge)
      clear hge hBe x0 x1 x2 x3 x4 x5 x6 hg
      go_upto_region 9 with (fail)
      generalize (w6.setCell ⟨g, 0, none⟩ (.int .i64 ((r : Int) + 1))).setCell ⟨g, 1, none⟩ (.int .i64 1) = w8 at hB8 hg8 ⊢
      have hg8 : w8.heap[g]? = some (.cells #[.int .i64 ((r : Int) + 1), .int .i64 1, .string a.stream, .int .i64 a.expect, .int .i64 a.session, .int .i64 a.seq, .slice EA EN Ec] 55 (0, 0)) := hg8
      have HG8 := Lib.hid hg8
      have HB8 := Lib.hid hB8
      clear hg8 hB8 c2 g0 g1 f0 f1
      have z0 : w8.cell? ⟨g, 0, none⟩ = some (.int .i64 ((r : Int) + 1)) := cell_of_row w8 g 0 _ _ _ HG8.out
      have z1 : w8.cell? ⟨g, 1, none⟩ = some (.int .i64 1) := cell_of_row w8 g 1 _ _ _ HG8.out
      have z2 : w8.cell? ⟨g, 2, none⟩ = some (.string a.stream) := cell_of_row w8 g 2 _ _ _ HG8.out
      have z3 : w8.cell? ⟨g, 3, none⟩ = some (.int .i64 a.expect) := cell_of_row w8 g 3 _ _ _ HG8.out
      have z4 : w8.cell? ⟨g, 4, none⟩ = some (.int .i64 a.session) := cell_of_row w8 g 4 _ _ _ HG8.out
      have z5 : w8.cell? ⟨g, 5, none⟩ = some (.int .i64 a.seq) := cell_of_row w8 g 5 _ _ _ HG8.out
      have z6 : w8.cell? ⟨g, 6, none⟩ = some (.slice EA EN Ec) := cell_of_row w8 g 6 _ _ _ HG8.out
      go_wp2_with fail
      refine (HC.out w8 HB8.out).mono ?_
      rintro e w9 ⟨rfl, hA⟩
      have hFg : ¬ F g := fun hf => by have := HK.out.st.lt g hf; have := HG.out; omega
      have hg9 := hA.2.grownTo HG8.out hFg
      have hB9 : Below w.heap.size w w9 := Go.Bl.Below.keep (HK.out.bel.trans (HB8.out.mono HK.out.bel.size)) hA.2 (Nat.le_trans HK.out.bel.size HB8.out.size) (fun x hx => HK.out.low x hx)
      have hO9 := (HK.out.own.fresh HB8.out).keep hA.2 (fun b hb hf => HK.out.no b hb hf)
      have hBo := (Below.refl w9.heap.size w9).alloc (Nat.le_refl _) (.cells #[.int .i64 r1, .int .i64 r2, .int .i64 r3, .int .i64 r4] 34)
      have hM10 := hA.1.fresh hBo
      have hF10 : ∀ j, (F j ∨ w8.heap.size ≤ j ∧ j < w9.heap.size) → w.heap.size ≤ j := fun j hj => by
        rcases hj with hj | hj
        · exact HK.out.low j hj
        · have := HK.out.bel.size; have := HB8.out.size; omega
      have hno10 : ∀ b, (Value.slice Au r cu).ownBlock = some b → ¬ (F b ∨ w8.heap.size ≤ b ∧ b < w9.heap.size) := fun b hb hj => by
        rcases hj with hj | hj
        · exact HK.out.no b hb hj
        · have := (HK.out.own.lt b hb).2; have := HB8.out.size; omega
      have HB10 := Lib.hid (hB9.trans (hBo.mono hB9.size))
      have HO10 := Lib.hid (hO9.fresh hBo)
      have HM10 := Lib.hid hM10
      have HF10 := Lib.hid hF10
      have HNO10 := Lib.hid hno10
      have HG10 := Lib.hid ((hBo.block g (Array.getElem?_eq_some_iff.1 hg9).1).trans hg9)
      have HSZ := Lib.hid hBo.size
      clear hA hg9 hB9 hO9 hBo hM10 hF10 hno10 z0 z1 z2 z3 z4 z5 z6 hFg
      by_cases h5 : r5 = 0
      · have d5 : (r5 == 0) = true := by simpa using h5
        have HRS2 : Hid (rowL (l.take (k + 1)) = rowL (l.take k) ++ [ne]) := Lib.hid (by rw [HRS.out, if_pos h5])
        clear h5
        go_upto_region 11 with (fail)
        generalize w9.alloc (.cells #[.int .i64 r1, .int .i64 r2, .int .i64 r3, .int .i64 r4] 34) = w10 at HB10 HO10 HM10 HG10 HSZ ⊢
        have hone : ne.evv.oneCell' = true := by rw [HNX.out]; show a.evv.oneCell' = true; rw [HEV.out]; rfl
        have hcs : (#[Value.int .i64 ((r : Int) + 1), .int .i64 1, .string a.stream, .int .i64 a.expect, .int .i64 a.session, .int .i64 a.seq, .slice EA EN Ec] : Array Value).toList = ensc ⟨ne, hone⟩ := by
          show _ = entc ne
          rw [HNX.out]
          simp only [entc, HEV.out]
        have HCS := Lib.hid hcs
        have z0 : w10.cell? ⟨g, 0, none⟩ = some (.int .i64 ((r : Int) + 1)) := cell_of_row w10 g 0 _ _ _ HG10.out
        have z1 : w10.cell? ⟨g, 1, none⟩ = some (.int .i64 1) := cell_of_row w10 g 1 _ _ _ HG10.out
        have z2 : w10.cell? ⟨g, 2, none⟩ = some (.string a.stream) := cell_of_row w10 g 2 _ _ _ HG10.out
        have z3 : w10.cell? ⟨g, 3, none⟩ = some (.int .i64 a.expect) := cell_of_row w10 g 3 _ _ _ HG10.out
        have z4 : w10.cell? ⟨g, 4, none⟩ = some (.int .i64 a.session) := cell_of_row w10 g 4 _ _ _ HG10.out
        have z5 : w10.cell? ⟨g, 5, none⟩ = some (.int .i64 a.seq) := cell_of_row w10 g 5 _ _ _ HG10.out
        have z6 : w10.cell? ⟨g, 6, none⟩ = some (.slice EA EN Ec) := cell_of_row w10 g 6 _ _ _ HG10.out
        have hBn := (Below.refl w10.heap.size w10).alloc (Nat.le_refl _) (.cells #[.int .i64 ((r : Int) + 1), .int .i64 1, .string a.stream, .int .i64 a.expect, .int .i64 a.session, .int .i64 a.seq, .slice EA EN Ec] 55)
        have HON := Lib.hid (HO10.out.fresh hBn)
        have HBN := Lib.hid (HB10.out.trans (hBn.mono HB10.out.size))
        have HMN := Lib.hid (HM10.out.fresh hBn)
        have HNW := Lib.hid hBn.size
        have HLM := Lib.hid (HM10.out.lt)
        clear hcs hBn
        go_wp2_with (at_builtin; refine elEns.append _ (by rfl) _ _ rfl w.heap.size _ R rfl HON.out _ _ [⟨ne, hone⟩] rfl (Sl.single (k := 7) (enc := ensc) (x := ⟨ne, hone⟩) (heap_alloc_new w10 _) HCS.out) (by rw [HR.out, List.length_singleton]; omega) HBN.out.size ?_; intro v' w11 hO' hgr hAt)
        have hk11 := Keeps.of_grown hgr
        go_roundw
        case rel =>
          refine ⟨k + 1, R ++ [⟨ne, hone⟩], _, hlt, by go_num, hO', ?_, ?_, HF10.out, fun b hb hj => ?_, fun x hx => ?_, Go.Bl.Below.keep HBN.out hk11 HBN.out.size (fun x hx => (HON.out.lt x hx).1)⟩
          · rw [HRS2.out, List.map_append, HK.out.row]; rfl
          · rw [HST.out]
            exact HMN.out.keep hk11 (fun x hx e => HNO10.out x e hx)
          · rcases hAt with e | e
            · exact HNO10.out b (e ▸ hb) hj
            · rw [e] at hb
              cases hb
              have := HLM.out _ hj
              have := HNW.out
              omega
          · rw [HRS2.out] at hx
            rcases List.mem_append.1 hx with hx | hx
            · exact HK.out.ev x hx
            · rw [List.mem_singleton.1 hx]
              exact ⟨HFIN.out, HOKN.out⟩
        case measure => simp [RowKit.intOf]; omega
      · have d5 : (r5 == 0) = false := by simpa using h5
        have HRS2 : Hid (rowL (l.take (k + 1)) = rowL (l.take k)) := Lib.hid (by rw [HRS.out, if_neg h5])
        clear h5
        go_wp2_with fail
        go_roundw
        case rel =>
          refine ⟨k + 1, R, _, hlt, by go_num, HO10.out, by rw [HRS2.out]; exact HK.out.row, by rw [HST.out]; exact HM10.out, HF10.out, HNO10.out, by rw [HRS2.out]; exact HK.out.ev, HB10.out⟩
        case measure => simp [RowKit.intOf]; omega
end Go.Proofs.YthdcnknjjbdefaaGreatDoor.His

namespace Go.Proofs.YthdcnknjjbdefaaGreatDoor.His
open Go.RowKit Go.Bl
attribute [local go_sem ↓] Go.wp_at_zero Go.wp_at_succ

theorem pickO_any (w : World) (c : Int) (hc : -9223372036854775808 ≤ c ∧ c ≤ 9223372036854775807) (n : Nat) (h0 : 0 < n) (hn : n ≤ 1000000000) :
    Calls Tryz.prog 21 #[.int .i64 c, .int .i64 n] w fun x w' => x = .returned (.int .i64 (pickOf c n)) ∧ w = w' := by
  have hz : ((n : Int) == 0) = false := by rw [beq_eq_false_iff_ne]; omega
  have hz1 : ¬ ((n : Int) = 0) := by omega
  by_cases h1 : c < 0
  · obtain ⟨m, hm⟩ : ∃ m : Nat, -(c + 1) = (m : Int) := ⟨(-(c + 1)).toNat, by omega⟩
    have hw2 : wrap64 (c + 1) = c + 1 := by unfold wrap64; omega
    have hw : wrap64 (-(c + 1)) = (m : Int) := by unfold wrap64; omega
    have ht : -((c + 1).tmod (n : Int)) = ((m % n : Nat) : Int) := by
      rw [show c + 1 = -(m : Int) by omega, Int.neg_tmod, Int.neg_neg]
      rfl
    have hp : pickOf c n = ((m % n : Nat) : Int) := by unfold pickOf; rw [if_pos h1, hm]; rfl
    have HT := Lib.hid ht
    have HP := Lib.hid hp
    clear ht hm hp
    go_enter Tryz.func21, Tryz.ntmps21
    go_wp2
    go_ret
    exact ⟨by rw [HP.out, ← HT.out]; rfl, rfl⟩
  · obtain ⟨m, rfl⟩ : ∃ m : Nat, c = (m : Int) := ⟨c.toNat, by omega⟩
    have ht : (m : Int).tmod (n : Int) = ((m % n : Nat) : Int) := rfl
    have hp : pickOf (m : Int) n = ((m % n : Nat) : Int) := by unfold pickOf; rw [if_neg h1]; rfl
    have HT := Lib.hid ht
    have HP := Lib.hid hp
    clear ht hp
    go_enter Tryz.func21, Tryz.ntmps21
    go_wp2
    go_ret
    exact ⟨by rw [HP.out, ← HT.out]; rfl, rfl⟩
/-- An op is stored into a box that was made just now, amid a drawn region. -/
theorem op_store_step {w : World} {ops : Array Oper} {op : Oper} {a : Act} {K : Act → World → Prop} {Q : Exit → Act → World → Prop} {X : Prop} (hgd : op.guard = none) (x y : Operand) (ho : op.op = .store 36 x y) (old : Array Value) (hx : a.eval x = .pointer (some ⟨w.heap.size, 0, none⟩)) (q : Hop) (hy : a.eval y = .agg (opc q).toArray) (hn : old.size = 17)
    (hd : op.dst = none) (h1 : (opc q).toArray.all (·.oneCell') = true) (h : K a (w.alloc (.cells (opc q).toArray 36))) : if Region.wanted op (yielded ops a.tmps) = true then Oper.wp Tryz.prog op a (w.alloc (.cells old 36)) K Q else X := by
  rw [if_pos (by simp [Region.wanted, hgd])]
  refine wp_store_row 36 x y ho w.heap.size (opc q).toArray hx hy 36 old (heap_alloc_new w _) (by kernel_rfl) (by rw [hn]; rfl) h1 ?_
  rw [setRow_alloc, hd]
  exact h
/-- An op is stored into a box. -/
theorem op_store2 {w : World} {ops : Array Oper} {rest : List Oper} {op : Oper} {a : Act} {Q : Exit → Act → World → Prop} (hgd : op.guard = none) (x y : Operand) (ho : op.op = .store 36 x y) (g : Nat) (q0 : Hop) (hx : a.eval x = .pointer (some ⟨g, 0, none⟩)) (q : Hop) (hy : a.eval y = .agg (opc q).toArray) (hg : w.heap[g]? = some (.cells (opc q0).toArray 36 (0, 0)))
    (hd : op.dst = none) (h1 : (opc q).toArray.all (·.oneCell') = true) (h : ∀ w', Keeps (fun z => z = g) w w' → w'.heap[g]? = some (.cells (opc q).toArray 36 (0, 0)) → wpList Tryz.prog ops Q rest a w') : wpList Tryz.prog ops Q (op :: rest) a w := by
  refine wpList_store_row hgd 36 x y ho g (opc q).toArray hx hy 36 (opc q0).toArray hg (by kernel_rfl) rfl h1 ?_
  rw [hd]
  exact h _ ⟨rfl, rfl, rfl, by simp, fun k _ hk => setRow_other w g k _ hk⟩ (setRow_heap w g _ _ 36 (0, 0) hg)
theorem zero_opc : (opc Hop.zero).toArray.all (·.oneCell') = true := by simp [opc, Hop.zero, Value.oneCell']
/-- One cell of an op's box. -/
theorem set_end (w : World) (g : Nat) (o : Hop) (h : w.heap[g]? = some (.cells (opc o).toArray 36 (0, 0))) (v : Int) : (w.setCell ⟨g, 3, none⟩ (.int .i64 v)).heap[g]? = some (.cells (opc { o with end_ := v }).toArray 36 (0, 0)) := setCell_block' (o := 3) h _
theorem set_ver (w : World) (g : Nat) (o : Hop) (h : w.heap[g]? = some (.cells (opc o).toArray 36 (0, 0))) (v : Int) : (w.setCell ⟨g, 15, none⟩ (.int .i64 v)).heap[g]? = some (.cells (opc { o with version := v }).toArray 36 (0, 0)) := setCell_block' (o := 15) h _
theorem set_evs (w : World) (g : Nat) (o : Hop) (h : w.heap[g]? = some (.cells (opc o).toArray 36 (0, 0))) (v : Value) (l : List Ev) : (w.setCell ⟨g, 16, none⟩ v).heap[g]? = some (.cells (opc { o with evv := v, evs := l }).toArray 36 (0, 0)) := setCell_block' (o := 16) h _
theorem set_kind (w : World) (g : Nat) (o : Hop) (h : w.heap[g]? = some (.cells (opc o).toArray 36 (0, 0))) (v : Int) : (w.setCell ⟨g, 0, none⟩ (.int .i64 v)).heap[g]? = some (.cells (opc { o with kind := v }).toArray 36 (0, 0)) := setCell_block' (o := 0) h _
theorem set_pos (w : World) (g : Nat) (o : Hop) (h : w.heap[g]? = some (.cells (opc o).toArray 36 (0, 0))) (v : Int) : (w.setCell ⟨g, 10, none⟩ (.int .i64 v)).heap[g]? = some (.cells (opc { o with out := { o.out with pos := v } }).toArray 36 (0, 0)) := setCell_block' (o := 10) h _
theorem set_over (w : World) (g : Nat) (o : Hop) (h : w.heap[g]? = some (.cells (opc o).toArray 36 (0, 0))) (v : Int) : (w.setCell ⟨g, 12, none⟩ (.int .i64 v)).heap[g]? = some (.cells (opc { o with out := { o.out with ver := v } }).toArray 36 (0, 0)) := setCell_block' (o := 12) h _
theorem set_seq (w : World) (g : Nat) (o : Hop) (h : w.heap[g]? = some (.cells (opc o).toArray 36 (0, 0))) (v : Int) : (w.setCell ⟨g, 7, none⟩ (.int .i64 v)).heap[g]? = some (.cells (opc { o with seq := v }).toArray 36 (0, 0)) := setCell_block' (o := 7) h _
theorem set_batch (w : World) (g : Nat) (o : Hop) (h : w.heap[g]? = some (.cells (opc o).toArray 36 (0, 0))) (s : ByteArray) (x a b : Int) (v : Value) :
    (((((w.setCell ⟨g, 4, none⟩ (.string s)).setCell ⟨g, 5, none⟩ (.int .i64 x)).setCell ⟨g, 6, none⟩ (.int .i64 a)).setCell ⟨g, 7, none⟩ (.int .i64 b)).setCell ⟨g, 8, none⟩ v).heap[g]? = some (.cells (opc { o with bs := s, bx := x, ses := a, seq := b, bev := v }).toArray 36 (0, 0)) :=
  setCell_block' (o := 8) (setCell_block' (o := 7) (setCell_block' (o := 6) (setCell_block' (o := 5) (setCell_block' (o := 4) h _) _) _) _) _
theorem set_out (w : World) (g : Nat) (o : Hop) (h : w.heap[g]? = some (.cells (opc o).toArray 36 (0, 0))) (q : Ded.Oc) :
    ((((w.setCell ⟨g, 9, none⟩ (.int .i64 q.code)).setCell ⟨g, 10, none⟩ (.int .i64 q.pos)).setCell ⟨g, 11, none⟩ (.int .i64 q.first)).setCell ⟨g, 12, none⟩ (.int .i64 q.ver)).heap[g]? = some (.cells (opc { o with out := q }).toArray 36 (0, 0)) :=
  setCell_block' (o := 12) (setCell_block' (o := 11) (setCell_block' (o := 10) (setCell_block' (o := 9) h _) _) _) _
end Go.Proofs.YthdcnknjjbdefaaGreatDoor.His
