/- StateExpects: what the statement's function does: it answers true. Under the tables that utf8 lays. -/
import Derived.Test.YtlfhokcjbgpjhaaDoorStaF
namespace Go.Proofs.YtlfhokcjbgpjhaaDoor
open Go.RowKit Go.Bl
attribute [local go_sem ↓] Go.wp_at_zero Go.wp_at_succ

set_option maxRecDepth 10000 in
set_option maxHeartbeats 4000000 in
theorem expects_any (w : World) (hT : Tabs w) (v : Value) (l : List Ent) (h : EntsOk w (fun b => b < w.heap.size) v l) (expect : Int) :
    Calls Tryd.prog 4 #[v, .int .i64 expect] w fun x w' => x = .returned (.bool true) ∧ Below w.heap.size w w' := by
  have hne := eqlOc
  obtain ⟨A, c, rfl, hA1, hA2⟩ := h.1.shape
  unfold maxLen at hA2
  have HTb := Lib.hid hT
  have HA := Lib.hid h
  clear hT h
  go_enter Tryd.func4, Tryd.ntmps4
  go_wp2_with fail
  refine (shown_any w HTb.out).mono ?_
  rintro e wa ⟨rfl, hBa⟩
  have HBa := Lib.hid hBa
  clear hBa
  go_wp2_with fail
  refine (fits_all wa _ _ l (HA.out.fresh HBa.out)).mono ?_
  rintro x wb ⟨rfl, hBb⟩
  have HBb := Lib.hid (HBa.out.trans (hBb.mono HBa.out.size))
  clear hBb
  go_wp2_with fail
  refine (snew_any wb).mono ?_
  rintro e wc ⟨p, W0, rfl, _, hW0, hS0, hBc⟩
  have HBc := Lib.hid (HBb.out.trans (hBc.mono HBb.out.size))
  have HS0 := Lib.hid hS0
  clear hBc hS0 hW0
  cases hfb : fitsB l
  · go_wp2_with fail
    go_ret
    exact ⟨rfl, HBc.out⟩
  have HFB := Lib.hid hfb
  clear hfb
  have hl40 := (fitsB_at HFB.out).1
  by_cases he1 : expect < -1
  · go_wp2_with fail
    go_ret
    exact ⟨rfl, HBc.out⟩
  by_cases he2 : 274877906944 < expect
  · have d2 : decide (expect > 274877906944) = true := by simp; omega
    go_wp2_with fail
    go_ret
    exact ⟨rfl, HBc.out⟩
  have d1 : decide (expect < -1) = false := by simp; omega
  have d2 : decide (expect > 274877906944) = false := by simp; omega
  have HE := Lib.hid (show -1 ≤ expect ∧ expect ≤ 274877906944 by omega)
  clear he1 he2
  go_wp2_with fail
  go_loopw [8, 9] (fun i _ wr => PlayRel (fun _ => True) w p l.length i wr) (fun i _ _ => l.length - (intOf i).toNat)
  case atStart => exact ⟨0, St.new, _, W0, Nat.zero_le _, rfl, HS0.out, fun j hj => Nat.le_trans HBb.out.size hj.1, trivial, by simp [St.new], by simp [St.new], by simp [St.new], HBc.out⟩
  case round =>
    obtain ⟨k, s, F, W, hk, rfl, hS, hF, hI, hL, hTL, hap, hB⟩ := hrel
    have HSlt := Lib.hid hS.lt
    by_cases hlt : k < l.length
    ·
      have HB := Lib.hid hB
      have hAr := HA.out.fresh hB
      obtain ⟨b, o, rfl, _, _, hxx⟩ := hAr.1.cell_ hlt
      have hbo := hAr.2 l[k] (List.getElem_mem hlt)
      have hst := hbo.2.2.1
      have hfl := entF_at ((fitsB_at HFB.out).2 l[k] (List.getElem_mem hlt))
      generalize hea : l[k] = a at *
      obtain ⟨B, d, hv, _, _⟩ := hbo.1.shape
      have x0 := hxx 0 _ rfl
      have x1 := hxx 1 _ rfl
      have x2 := hxx 2 _ rfl
      have x3 := hxx 3 _ rfl
      have x4 := hxx 4 _ rfl
      have x5 := hxx 5 _ rfl
      have x6 := hxx 6 _ rfl
      rw [hv] at x6
      simp only [Nat.add_zero] at x0
      have HBO := Lib.hid hbo
      have HV := Lib.hid hv
      have HFL := Lib.hid hfl
      have HEA := Lib.hid hea
      have HI := Lib.hid hI
      have HL := Lib.hid hL
      have HTL := Lib.hid hTL
      have HF := Lib.hid hF
      clear hxx hAr hbo hv hea hI hL hTL hF hfl
      have hB1 : Below wr.heap.size wr (wr.alloc (.cells #[.int .i64 a.pos, .int .i64 a.epoch, .string a.stream, .int .i64 a.expect, .int .i64 a.session, .int .i64 a.seq, .slice B a.evs.length d] 32)) := (Below.refl _ wr).alloc (Nat.le_refl _) _
      have hblk := heap_alloc_new wr (.cells #[.int .i64 a.pos, .int .i64 a.epoch, .string a.stream, .int .i64 a.expect, .int .i64 a.session, .int .i64 a.seq, .slice B a.evs.length d] 32)
      go_upto_region 10 with (fail)
      generalize wr.alloc (.cells #[.int .i64 a.pos, .int .i64 a.epoch, .string a.stream, .int .i64 a.expect, .int .i64 a.session, .int .i64 a.seq, .slice B a.evs.length d] 32) = w1 at hB1 hblk ⊢
      have y0 : w1.cell? ⟨wr.heap.size, 0, none⟩ = some (.int .i64 a.pos) := cell_of_row w1 _ 0 _ _ _ hblk
      have g0 : w1.frozen? ⟨wr.heap.size, 0, none⟩ = false := frozen_block hblk 0
      have HS1 := Lib.hid (hS.fresh hB1)
      have HB1 := Lib.hid hB1
      clear x0 x1 x2 x3 x4 x5 x6 hS hB1 hB
      go_wp2_with fail
      refine (applied_any w1 p s F W HS1.out).mono ?_
      rintro e w1' ⟨rfl, rfl⟩
      have hw1 : s.ap + 1 < 1000000 := by omega
      have hw2 : 0 ≤ s.ap + 1 := by omega
      go_upto_region 11 with (fail)
      have hk2 := setCell_block' (o := 0) (v := .int .i64 (s.ap + 1)) hblk
      have hkS : Keeps (fun q => q = wr.heap.size) w1 _ := (Keeps.refl (fun q => q = wr.heap.size) w1).setCell (p := ⟨wr.heap.size, 0, none⟩) (fun _ => rfl) (.int .i64 (s.ap + 1))
      generalize w1.setCell ⟨wr.heap.size, 0, none⟩ (.int .i64 (s.ap + 1)) = w2 at hk2 hkS ⊢
      have y0 : w2.cell? ⟨wr.heap.size, 0, none⟩ = some (.int .i64 (s.ap+1)) := cell_of_row w2 _ 0 _ _ _ hk2
      have y1 : w2.cell? ⟨wr.heap.size, 1, none⟩ = some (.int .i64 (a.epoch)) := cell_of_row w2 _ 1 _ _ _ hk2
      have y2 : w2.cell? ⟨wr.heap.size, 2, none⟩ = some (.string (a.stream)) := cell_of_row w2 _ 2 _ _ _ hk2
      have y3 : w2.cell? ⟨wr.heap.size, 3, none⟩ = some (.int .i64 (a.expect)) := cell_of_row w2 _ 3 _ _ _ hk2
      have y4 : w2.cell? ⟨wr.heap.size, 4, none⟩ = some (.int .i64 (a.session)) := cell_of_row w2 _ 4 _ _ _ hk2
      have y5 : w2.cell? ⟨wr.heap.size, 5, none⟩ = some (.int .i64 (a.seq)) := cell_of_row w2 _ 5 _ _ _ hk2
      have y6 : w2.cell? ⟨wr.heap.size, 6, none⟩ = some (.slice B a.evs.length d) := cell_of_row w2 _ 6 _ _ _ hk2
      have hb2 : Below wr.heap.size wr w2 := Below.keep HB1.out hkS HB1.out.size (fun q hq => by omega)
      have HB2 := Lib.hid (HB.out.trans (hb2.mono HB.out.size))
      have HSf := Lib.hid (HS1.out.keep hkS (fun q hq e => by have := HSlt.out q hq; omega))
      have hbt : BatchOk w2 (fun q => q < w.heap.size) (a.at_ (s.ap + 1)) := by
        have hb := HBO.out.fresh hb2
        exact ⟨hb.1, hb.2.1, hb.2.2.1, by have := HFL.out.2.1; show a.evs.length ≤ _; omega⟩
      have hcall := apply_any w2 (HTb.out.fresh HB2.out) p s F W HSf.out _ (a.at_ (s.ap + 1)) hbt (fun q hq e => by have := HF.out q (HSf.out.wf q e); omega) (by omega) (by have := HFL.out.2.1; have := HL.out; show _ + a.evs.length ≤ _; omega) (by have := HTL.out; omega)
      rw [show (a.at_ (s.ap + 1)).evv = .slice B a.evs.length d from HV.out] at hcall
      have HC := Lib.hid hcall
      have HBT := Lib.hid hbt
      clear hcall hbt hblk g0 hb2 hk2 hkS hw1 hw2
      go_wp2_with fail
      refine HC.out.mono ?_
      rintro e w3 ⟨rfl, hAp⟩
      go_wp2_with fail
      go_roundw
      case rel => exact PlayRel.step hlt HF.out HB2.out HSf.out trivial HL.out HTL.out hap hAp (by go_num)
      case measure => simp [intOf]; omega
    · have hkd : k = l.length := by omega
      subst hkd
      have HS := Lib.hid hS
      have HB := Lib.hid hB
      have HF := Lib.hid hF
      have HLT := Lib.hid (And.intro hL hTL)
      clear hS hB hF hI hL hTL hk hlt
      have hsz : (⟨#[115]⟩ : ByteArray).size ≤ maxLen := by decide
      have hLb : s.L.length ≤ 1000 := by have := HLT.out.1; omega
      have hTb : s.T.length ≤ 1000 := by have := HLT.out.2; omega
      have hw1 : s.ap + 1 < 1000000 := by omega
      have hw2 : 0 ≤ s.ap + 1 := by omega
      have hnL := Idx.ofS_le s.L ⟨#[115]⟩
      obtain ⟨n, hn⟩ : ∃ n : Nat, (Idx.ofS s.L ⟨#[115]⟩).length = n := ⟨_, rfl⟩
      have hver := fun (wz : World) (hz : Below wr.heap.size wr wz) => sversion_any wz p s F W (HS.out.fresh hz) ⟨#[115]⟩ hsz
      rw [hn] at hver hnL
      have HVER := Lib.hid hver
      have HN := Lib.hid hn
      clear hver hn hsz
      go_wp2_with fail
      refine (HVER.out wr (Below.refl _ _)).mono ?_
      rintro e wr' ⟨rfl, rfl⟩
      go_wp2_with fail
      refine (applied_any wr p s F W HS.out).mono ?_
      rintro e wr' ⟨rfl, rfl⟩
      go_wp2_with fail
      refine (first_any wr (s.ap + 1) 137438953472 expect 3 (by decide)).mono ?_
      rintro e wf ⟨v, rfl, hO, hBf⟩
      have HO := Lib.hid hO
      have HBf := Lib.hid hBf
      obtain ⟨A', c', rfl, _, _⟩ := hO.shape_ (n := 3) (by simp)
      clear hO hBf
      have hB1 : Below wf.heap.size wf (wf.alloc (.cells #[.int .i64 (s.ap + 1), .int .i64 1, .string ⟨#[115]⟩, .int .i64 expect, .int .i64 1, .int .i64 137438953472, .slice A' 3 c'] 32)) := (Below.refl _ wf).alloc (Nat.le_refl _) _
      have hblk := heap_alloc_new wf (.cells #[.int .i64 (s.ap + 1), .int .i64 1, .string ⟨#[115]⟩, .int .i64 expect, .int .i64 1, .int .i64 137438953472, .slice A' 3 c'] 32)
      go_upto_region 14 with (fail)
      generalize wf.alloc (.cells #[.int .i64 (s.ap + 1), .int .i64 1, .string ⟨#[115]⟩, .int .i64 expect, .int .i64 1, .int .i64 137438953472, .slice A' 3 c'] 32) = w1 at hB1 hblk ⊢
      have y4 : w1.cell? ⟨wf.heap.size, 4, none⟩ = some (.int .i64 1) := cell_of_row w1 _ 4 _ _ _ hblk
      have g4 : w1.frozen? ⟨wf.heap.size, 4, none⟩ = false := frozen_block hblk 4
      go_upto_region 15 with (fail)
      have hk2 := setCell_block' (o := 4) (v := .int .i64 137438953472) hblk
      have hkS : Keeps (fun q => q = wf.heap.size) w1 _ := (Keeps.refl (fun q => q = wf.heap.size) w1).setCell (p := ⟨wf.heap.size, 4, none⟩) (fun _ => rfl) (.int .i64 137438953472)
      generalize w1.setCell ⟨wf.heap.size, 4, none⟩ (.int .i64 137438953472) = w2 at hk2 hkS ⊢
      have hb2 : Below wf.heap.size wf w2 := Below.keep hB1 hkS hB1.size (fun q hq => by omega)
      have HBf2 := Lib.hid (HBf.out.trans (hb2.mono HBf.out.size))
      have HO2 := Lib.hid (HO.out.fresh hb2)
      have HK2 := Lib.hid hk2
      have hfl2 : wf.heap.size < w2.heap.size := (Array.getElem?_eq_some_iff.1 hk2).1
      have hwf := HBf.out.size
      clear y4 g4 hkS hb2 hB1 hblk hk2
      have hlook := slook_any w2 p s F W (HS.out.fresh HBf2.out) 137438953472 137438953472 (by unfold Ded.i64; omega) (by unfold Ded.i64; omega)
      have hex : rightB (exE (s.ap + 1) expect (.slice A' 3 c')) = true := exE_right _ (by omega) HE.out
      have hdn := fun hw => expects_done (s := s) (a := exE (s.ap + 1) expect (.slice A' 3 c')) hex rfl hw
      have hbt : BatchOk w2 (fun q => (Value.slice A' 3 c').ownBlock = some q) (exE (s.ap + 1) expect (.slice A' 3 c')) := ⟨HO2.out.sl (fun _ => rfl), firstE_ok 0 0 0 3 (.int .i64 0), by show (1 : Nat) ≤ _; omega, by simp [exE]⟩
      have hcall := fun (wz : World) (hz : Below w2.heap.size w2 wz) => apply_any wz (HTb.out.fresh (HB.out.trans ((HBf2.out.trans (hz.mono HBf2.out.size)).mono HB.out.size))) p s F W (HS.out.fresh (HBf2.out.trans (hz.mono HBf2.out.size))) _ _ (hbt.fresh hz) (fun q hq e => by have := (HO2.out.lt q hq).1; have := HS.out.lt q (HS.out.wf q e); omega) (by omega) (by simp [exE]; omega) (by omega)
      rcases hlk : Ded.lookL s.T 137438953472 137438953472 with ⟨⟨l1, l2, l3, l4⟩, is⟩
      rcases hrr : applyS s (exE (s.ap + 1) expect (.slice A' 3 c')) with ⟨s', ⟨r1, r2, r3, r4⟩, r5⟩
      rw [hlk] at hlook
      rw [show (exE (s.ap + 1) expect (.slice A' 3 c')).session = 137438953472 from rfl, show (exE (s.ap + 1) expect (.slice A' 3 c')).seq = 137438953472 from rfl, hlk, hrr] at hdn
      have hr5 : r5 = 0 := by
        have := apply_ok (s := s) (a := exE (s.ap + 1) expect (.slice A' 3 c')) hex rfl
        rw [hrr] at this
        exact this
      subst hr5
      rw [hrr] at hcall
      have hgr := (apply_grows s (exE (s.ap + 1) expect (.slice A' 3 c'))).1
      rw [hrr] at hgr
      have HGR := Lib.hid hgr
      have HLOOK := Lib.hid hlook
      have HDN := Lib.hid hdn
      have HCALL := Lib.hid hcall
      clear hlook hex hdn hbt hcall hlk hrr hgr
      go_wp2_with fail
      refine HLOOK.out.mono ?_
      rintro e w3 ⟨rfl, hB3⟩
      have hBx : Below w2.heap.size w2 (w3.alloc (.cells #[.int .i64 l1, .int .i64 l2, .int .i64 l3, .int .i64 l4] 37)) := hB3.alloc hB3.size _
      go_upto_region 16 with (fail)
      generalize w3.alloc (.cells #[.int .i64 l1, .int .i64 l2, .int .i64 l3, .int .i64 l4] 37) = x3 at hBx ⊢
      have hk3 := (Keeps.of_fresh hBx (fun _ => False)).grownTo HK2.out id
      have HBx := Lib.hid hBx
      have HK3 := Lib.hid hk3
      have y0 : x3.cell? ⟨wf.heap.size, 0, none⟩ = some (.int .i64 (s.ap+1)) := cell_of_row x3 _ 0 _ _ _ hk3
      have y1 : x3.cell? ⟨wf.heap.size, 1, none⟩ = some (.int .i64 (1)) := cell_of_row x3 _ 1 _ _ _ hk3
      have y2 : x3.cell? ⟨wf.heap.size, 2, none⟩ = some (.string (⟨#[115]⟩)) := cell_of_row x3 _ 2 _ _ _ hk3
      have y3 : x3.cell? ⟨wf.heap.size, 3, none⟩ = some (.int .i64 (expect)) := cell_of_row x3 _ 3 _ _ _ hk3
      have y4 : x3.cell? ⟨wf.heap.size, 4, none⟩ = some (.int .i64 (137438953472)) := cell_of_row x3 _ 4 _ _ _ hk3
      have y5 : x3.cell? ⟨wf.heap.size, 5, none⟩ = some (.int .i64 (137438953472)) := cell_of_row x3 _ 5 _ _ _ hk3
      have y6 : x3.cell? ⟨wf.heap.size, 6, none⟩ = some (.slice A' 3 c') := cell_of_row x3 _ 6 _ _ _ hk3
      clear hB3 hBx hk3
      go_wp2_with fail
      refine (HCALL.out x3 HBx.out).mono ?_
      rintro e w4 ⟨rfl, hAp⟩
      have hwfW : ¬ W wf.heap.size := fun e => by have := HS.out.lt _ (HS.out.wf _ e); omega
      obtain ⟨F', W', hS4, _, _, hK4, hB4⟩ := hAp.below (HB.out.trans ((HBf2.out.trans (HBx.out.mono HBf2.out.size)).mono HB.out.size)) (HS.out.fresh (HBf2.out.trans (HBx.out.mono HBf2.out.size))) HF.out
      have hk4 := hK4.grownTo HK3.out hwfW
      have hBy : Below w4.heap.size w4 (w4.alloc (.cells #[.int .i64 r1, .int .i64 r2, .int .i64 r3, .int .i64 r4] 37)) := (Below.refl _ _).alloc (Nat.le_refl _) _
      have hob := heap_alloc_new w4 (.cells #[.int .i64 r1, .int .i64 r2, .int .i64 r3, .int .i64 r4] 37)
      have hk5 := (Keeps.of_fresh hBy (fun _ => False)).grownTo hk4 id
      have HS4 := Lib.hid (hS4.fresh hBy)
      have HB4 := Lib.hid (hB4.trans (hBy.mono hB4.size))
      clear hwfW hS4 hK4 hB4 hk4 hBy hAp
      go_upto_region 17 with (fail)
      generalize w4.alloc (.cells #[.int .i64 r1, .int .i64 r2, .int .i64 r3, .int .i64 r4] 37) = x4 at hob hk5 HS4 HB4 ⊢
      have e0 : x4.cell? ⟨wf.heap.size, 0, none⟩ = some (.int .i64 (s.ap + 1)) := cell_of_row x4 _ 0 _ _ _ hk5
      have o0 : x4.cell? ⟨w4.heap.size, 0, none⟩ = some (.int .i64 r1) := cell_of_row x4 _ 0 _ _ _ hob
      have o1 : x4.cell? ⟨w4.heap.size, 1, none⟩ = some (.int .i64 r2) := cell_of_row x4 _ 1 _ _ _ hob
      have o2 : x4.cell? ⟨w4.heap.size, 2, none⟩ = some (.int .i64 r3) := cell_of_row x4 _ 2 _ _ _ hob
      have o3 : x4.cell? ⟨w4.heap.size, 3, none⟩ = some (.int .i64 r4) := cell_of_row x4 _ 3 _ _ _ hob
      clear y0 y1 y2 y3 y4 y5 y6 hk5 hob
      by_cases his : is = 0
      · subst his
        obtain ⟨_, hdone, hconf⟩ := HDN.out rfl
        have hdone : (expect = -1 ∨ expect = (n : Int)) → (⟨r1, r2, r3, r4⟩ : Ded.Oc) = ⟨1, s.ap + 1, n, (n : Int) + 3⟩ ∧ Idx.ofS s'.L ⟨#[115]⟩ = Idx.ofS s.L ⟨#[115]⟩ ++ (List.replicate 3 kEv).map fun e => (⟨s.ap + 1, e⟩ : Idx.Kp) := by
          rw [← HN.out]; exact hdone
        have hconf : ¬ (expect = -1 ∨ expect = (n : Int)) → (⟨r1, r2, r3, r4⟩ : Ded.Oc) = ⟨2, s.ap + 1, n, n⟩ ∧ Idx.ofS s'.L ⟨#[115]⟩ = Idx.ofS s.L ⟨#[115]⟩ := by
          rw [← HN.out]; exact hconf
        have hsz : (⟨#[115]⟩ : ByteArray).size ≤ maxLen := by decide
        have hLs' : s'.L.length ≤ 2000 := by have := HGR.out; omega
        have hver2 := fun (wz : World) (hz : Below x4.heap.size x4 wz) => sversion_any wz p s' F' W' (HS4.out.fresh hz) ⟨#[115]⟩ hsz
        have hpos2 := fun (wz : World) (hz : Below x4.heap.size x4 wz) => spos_any wz p s' F' W' (HS4.out.fresh hz) ⟨#[115]⟩ hsz ((n : Int) + 1) (by omega)
        have hx4d : Below x4.heap.size x4 x4.drew := ⟨rfl, rfl, rfl, Nat.le_refl _, fun _ _ => rfl⟩
        by_cases hc : expect = -1 ∨ expect = (n : Int)
        · obtain ⟨hr, hl⟩ := hdone hc
          injection hr with hr1 hr2 hr3 hr4
          subst hr1 hr2 hr3 hr4
          have hlen : ((Idx.ofS s'.L ⟨#[115]⟩).length : Int) = (n : Int) + 3 := by
            rw [hl, List.length_append, HN.out]; simp
          have hpo : Idx.posOf (Idx.ofS s'.L ⟨#[115]⟩) ((n : Int) + 1) = s.ap + 1 := by
            rw [hl, ← HN.out]; exact pos_added _ kEv [kEv, kEv] (s.ap + 1)
          rw [hlen] at hver2
          rw [hpo] at hpos2
          have HV2 := Lib.hid hver2
          have HP2 := Lib.hid hpos2
          have hq : ∀ w : World, (binOp .eql 37 (.agg #[.int .i64 1, .int .i64 (s.ap + 1), .int .i64 n, .int .i64 ((n : Int) + 3)]) (.agg #[.int .i64 1, .int .i64 (s.ap + 1), .int .i64 n, .int .i64 ((n : Int) + 3)])).run Tryd.prog w = .ok (.bool true) w := fun w => by
            rw [hne, show ocEq ⟨1, s.ap + 1, n, (n : Int) + 3⟩ ⟨1, s.ap + 1, n, (n : Int) + 3⟩ = true by simp [ocEq, ocNe_self]]
          clear hne
          have hw3 : IntKind.i64.wrap ((n : Int) + 3) = (n : Int) + 3 := IntWalk.i64_in _ (by omega)
          have hw4 : IntKind.i64.wrap ((n : Int) + 1) = (n : Int) + 1 := IntWalk.i64_in _ (by omega)
          by_cases hm : expect = -1
          · have d3 : (expect == -1) = true := by simp [hm]
            clear hver2 hpos2 hdone hconf hl hlen hpo hc hm hLs' hsz
            clear hA1 hA2 hl40 hap hLb hTb hw1 hw2 hnL hwf hfl2 d1 d2
            go_wp2_with fail
            go_region_held3 (fun x => x.cell? ⟨w4.heap.size, 0, none⟩ = some (.int .i64 1) ∧ x.cell? ⟨w4.heap.size, 1, none⟩ = some (.int .i64 (s.ap + 1)) ∧ x.cell? ⟨w4.heap.size, 2, none⟩ = some (.int .i64 n) ∧ x.cell? ⟨w4.heap.size, 3, none⟩ = some (.int .i64 ((n : Int) + 3)) ∧ x.cell? ⟨wf.heap.size, 0, none⟩ = some (.int .i64 (s.ap + 1)))
              (first | exact ⟨by assumption, by assumption, by assumption, by assumption, by assumption⟩ | go_keep)
              (first
                | (go_at_call 14
                   refine (HV2.out _ (by first | exact hx4d | exact Below.refl _ _)).mono ?_
                   rintro e wz ⟨rfl, rfl⟩)
                | (go_at_call 17
                   refine (HP2.out _ (by first | exact hx4d | exact Below.refl _ _)).mono ?_
                   rintro e wz ⟨rfl, rfl⟩))
            go_wp2_with fail
            go_ret
            exact ⟨rfl, HB4.out.trans ⟨rfl, rfl, rfl, Nat.le_refl _, fun _ _ => rfl⟩⟩
          · have d3 : (expect == -1) = false := by simp [hm]
            have d4 : (expect == (n : Int)) = true := by simp; omega
            clear hver2 hpos2 hdone hconf hl hlen hpo hc hm hLs' hsz
            clear hA1 hA2 hl40 hap hLb hTb hw1 hw2 hnL hwf hfl2 d1 d2
            go_wp2_with fail
            go_region_held3 (fun x => x.cell? ⟨w4.heap.size, 0, none⟩ = some (.int .i64 1) ∧ x.cell? ⟨w4.heap.size, 1, none⟩ = some (.int .i64 (s.ap + 1)) ∧ x.cell? ⟨w4.heap.size, 2, none⟩ = some (.int .i64 n) ∧ x.cell? ⟨w4.heap.size, 3, none⟩ = some (.int .i64 ((n : Int) + 3)) ∧ x.cell? ⟨wf.heap.size, 0, none⟩ = some (.int .i64 (s.ap + 1)))
              (first | exact ⟨by assumption, by assumption, by assumption, by assumption, by assumption⟩ | go_keep)
              (first
                | (go_at_call 14
                   refine (HV2.out _ (by first | exact hx4d | exact Below.refl _ _)).mono ?_
                   rintro e wz ⟨rfl, rfl⟩)
                | (go_at_call 17
                   refine (HP2.out _ (by first | exact hx4d | exact Below.refl _ _)).mono ?_
                   rintro e wz ⟨rfl, rfl⟩))
            go_wp2_with fail
            go_ret
            exact ⟨rfl, HB4.out.trans ⟨rfl, rfl, rfl, Nat.le_refl _, fun _ _ => rfl⟩⟩
        · obtain ⟨hr, hl⟩ := hconf hc
          injection hr with hr1 hr2 hr3 hr4
          subst hr1 hr2 hr3 hr4
          rw [hl, HN.out] at hver2
          have HV2 := Lib.hid hver2
          have hq : ocEq ⟨2, s.ap + 1, n, n⟩ ⟨2, s.ap + 1, n, n⟩ = true := by simp [ocEq, ocNe_self]
          have d3 : (expect == -1) = false := by simp; omega
          have d4 : (expect == (n : Int)) = false := by simp; omega
          clear hver2 hpos2 hdone hconf hl hc hLs' hsz
          go_wp2_with fail
          refine (HV2.out x4 (Below.refl _ _)).mono ?_
          rintro e wz ⟨rfl, rfl⟩
          go_wp2_with fail
          go_ret
          exact ⟨rfl, HB4.out⟩
      · have d3 : (is != 0) = true := by simp [his]
        clear his
        go_wp2_with fail
        go_ret
        exact ⟨rfl, HB4.out⟩
end Go.Proofs.YtlfhokcjbgpjhaaDoor
