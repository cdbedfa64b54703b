/- HistoryGrows: the given statement. -/
import Derived.Test.YthdcnknjjbdefaaGreatDoorRecO
import Derived.Test.YthdcnknjjbdefaaGreatDoorHisU
import Derived.Test.YthdcnknjjbdefaaGreatDoorRows
import Derived.Test.YthdcnknjjbdefaaGreatDoorTie
import Derived.Test.YthdcnknjjbdefaaGreatDoorCards
import Derived.SevenTiedAt
/- The history: how a raw op reads. No condition. -/
namespace Go.Proofs.YthdcnknjjbdefaaGreatDoor.His
open Go.ChangeShapes Go.WideShapes Go.ChangeAt Go.RowKit Go.Bl

theorem opRaw (W : World) : Opens Tryz.prog W 39 rwc RwOk :=
  (Opens.struct Tryz.underlying39 (by kernel_rfl) (OpensFs.one (opInt W) rfl (by kernel_rfl) (OpensFs.one (opInt W) rfl (by kernel_rfl) (OpensFs.one (opInt W) rfl (by kernel_rfl) (OpensFs.one (opInt W) rfl (by kernel_rfl) (OpensFs.one (Opens.bool Tryz.underlying4) rfl (by kernel_rfl) (OpensFs.one (opStr W) rfl (by kernel_rfl)
    (OpensFs.one (opInt W) rfl (by kernel_rfl) OpensFs.nil)))))))).as (fun p => ⟨p.1, p.2.1, p.2.2.1, p.2.2.2.1, p.2.2.2.2.1, p.2.2.2.2.2.1, p.2.2.2.2.2.2.1⟩)
    (fun _ h => ⟨rfl, h.1, h.2.1, h.2.2.1, h.2.2.2.1⟩)
theorem opRaws (W : World) : Opens Tryz.prog W 23 (fun p : Value × List Rw => [p.1]) (sliceC Tryz.prog W 39 7 rwc RwOk) := Opens.slice Tryz.underlying23 (by kernel_rfl) (by decide) (opRaw W)
end Go.Proofs.YthdcnknjjbdefaaGreatDoor.His

/- HistoryGrows: what the statement's function does: it answers true. Under the tables that utf8 lays. -/
namespace Go.Proofs.YthdcnknjjbdefaaGreatDoor.His
open Go.RowKit Go.Bl
attribute [local go_sem ↓] Go.wp_at_zero Go.wp_at_succ

theorem agree_take (l : List Ent) {q : Nat} (hq : q ≤ l.length) : agreeN (l.take q) l = q ∧ agreeN l (l.take q) = q := by
  have hl : (l.take q).length = q := by rw [List.length_take]; omega
  constructor
  · exact agreeN_of (fun i h1 h2 hi => by rw [List.getElem_take]; exact sameEnt_self _) (by omega) hq (.inl hl.symm)
  · exact agreeN_of (fun i h1 h2 hi => by rw [List.getElem_take]; exact sameEnt_self _) hq (by omega) (.inr (.inl hl.symm))
set_option maxRecDepth 10000 in
set_option maxHeartbeats 8000000 in
theorem grows_law (w : World) (hT : Tabs w) (v : Value) (l : List Ent) (h : EntsOk w (fun b => b < w.heap.size) v l) (vr : Value) (raws : List Rw) (hr : RawsOk w vr raws) (at_ : Int) (hat : -9223372036854775808 ≤ at_ ∧ at_ ≤ 9223372036854775807) :
    Calls Tryz.prog 5 #[v, vr, .int .i64 at_] w fun e w' => e = .returned (.bool true) ∧ Below w.heap.size w w' := by
  obtain ⟨A, c, rfl, hA1, hA2⟩ := h.1.shape
  obtain ⟨B, d, rfl, hB1, hB2⟩ := hr.1.shape
  unfold maxLen at hA2 hB2
  have HT := Lib.hid hT
  have HE := Lib.hid h
  have HR := Lib.hid hr
  obtain ⟨rn, hrn⟩ : ∃ n, raws.length = n := ⟨_, rfl⟩
  have HRN := Lib.hid hrn
  rw [hrn] at hB1 HR ⊢
  clear hT h hr hrn
  go_enter Tryz.func5, Tryz.ntmps5
  go_wp2_with fail
  refine (shown_any w HT.out).mono ?_
  rintro e w1 ⟨rfl, hB1'⟩
  have HB1 := Lib.hid hB1'
  clear hB1'
  go_wp2_with fail
  refine (fits_all w1 _ _ l (HE.out.fresh HB1.out)).mono ?_
  rintro e w2 ⟨rfl, hB2'⟩
  have HB2 := Lib.hid (HB1.out.trans (hB2'.mono HB1.out.size))
  clear hB2'
  cases hfb : fitsB l
  · go_wp2_with fail
    go_ret
    exact ⟨rfl, HB2.out⟩
  have HFB := Lib.hid hfb
  clear hfb
  by_cases h20 : 20 < rn
  · have d1 : decide ((20 : Int) < (rn : Int)) = true := decide_eq_true (by omega)
    have d1' : decide ((rn : Int) > 20) = true := decide_eq_true (by omega)
    go_wp2_with fail
    go_ret
    exact ⟨rfl, HB2.out⟩
  have d1 : decide ((20 : Int) < (rn : Int)) = false := decide_eq_false (by omega)
  have d1' : decide ((rn : Int) > 20) = false := decide_eq_false (by omega)
  go_wp2_with fail
  refine (row_any w2 _ l (EntsOk.grow HE.out HB2.out) HFB.out).mono ?_
  rintro e w3 ⟨vg, rfl, hlog, hB3⟩
  obtain ⟨hok, hl6⟩ := rowL_ok l
  obtain ⟨all, hloge⟩ : ∃ log, rowL l = log := ⟨_, rfl⟩
  rw [hloge] at hlog hok hl6
  obtain ⟨D, ld, rfl, hD1, hD2⟩ := hlog.ents.1.shape
  unfold maxLen at hD2
  obtain ⟨n, hn⟩ : ∃ n, all.length = n := ⟨_, rfl⟩
  have HN := Lib.hid hn
  rw [hn] at hlog hl6 hD1 ⊢
  have HLA := Lib.hid hlog
  have HOA := Lib.hid hok
  have HB3 := Lib.hid (HB2.out.trans (hB3.mono HB2.out.size))
  clear hloge hlog hok hn hB3
  have hpk := pickO_any w3 at_ hat (n + 1) (by omega) (by omega)
  have hcast : ((n + 1 : Nat) : Int) = (n : Int) + 1 := by omega
  obtain ⟨q, hq⟩ : ∃ q : Nat, pickOf at_ ((n : Int) + 1) = q := ⟨(pickOf at_ ((n : Int) + 1)).toNat, by have := pickOf_range at_ (n := (n : Int) + 1) (by omega); omega⟩
  have hqn : q ≤ n := by have := pickOf_range at_ (n := (n : Int) + 1) (by omega); omega
  rw [hcast, hq] at hpk
  have HPK := Lib.hid hpk
  have hch : (Instr.slice 22 (.slice D n ld) none (some (.int .i64 (q : Int))) none).run Tryz.prog w3 = .ok (.slice (cutA D ld 0 7) q ld) w3 := by
    simpa using run_cut_high (P := Tryz.prog) Tryz.underlying22 Tryz.sizeOf55 D n ld (q : Int) (by omega) (by omega) w3
  obtain ⟨log, hlg⟩ : ∃ log, all.take q = log := ⟨_, rfl⟩
  have hlq : log.length = q := by rw [← hlg, List.length_take, HN.out]; omega
  have HLG : Hid (LogIn w3 (.slice (cutA D ld 0 7) q ld) log) := Lib.hid (hlg ▸ HLA.out.take (by rw [HN.out]; exact hqn))
  have HOK : Hid (LogOk log) := Lib.hid (hlg ▸ HOA.out.take q)
  have HLL : Hid (log.length ≤ 6) := Lib.hid (by omega)
  have HLT := Lib.hid hlg
  have HLQ := Lib.hid hlq
  clear hpk hcast hq hlg hlq
  go_wp2_with fail
  refine HPK.out.mono ?_
  rintro e w4 ⟨rfl, rfl⟩
  clear HPK
  have HK0 := Lib.hid (OpsK.start w3 log id raws)
  go_wp2_with fail
  clear hch
  go_loopw [11, 12] (fun u i wr => ∃ (k : Nat) (R : List OpS), k ≤ rn ∧ i = .int .i64 k ∧ OpsK w3 log id raws u R k wr) (fun _ i _ => rn - (RowKit.intOf i).toNat)
  case atStart => exact ⟨0, [], Nat.zero_le _, rfl, HK0.out⟩
  case round =>
    rename World => wr
    obtain ⟨k, R, hk, rfl, hK⟩ := hrel
    have HK := Lib.hid hK
    obtain ⟨Au, cu, hu, hu1, hu2⟩ := hK.own.shape_ (n := k) hK.len
    unfold maxLen at hu2
    subst hu
    clear hK
    by_cases hlt : k < rn
    · have hkl : k < raws.length := by rw [HRN.out]; exact hlt
      have hSr := (HR.out.grow HB3.out).grow HK.out.bel
      obtain ⟨b0, o0, hAe, _, _, hx⟩ := hSr.1.cell_ hkl
      have hrw := hSr.2 _ (List.getElem_mem hkl)
      obtain ⟨r, hre⟩ : ∃ r, raws[k] = r := ⟨_, rfl⟩
      rw [hre] at hx hrw
      cases hAe
      have x0 := hx 0 _ rfl
      have x1 := hx 1 _ rfl
      have x2 := hx 2 _ rfl
      have x3 := hx 3 _ rfl
      have x4 := hx 4 _ rfl
      have x5 := hx 5 _ rfl
      have x6 := hx 6 _ rfl
      simp only [Nat.add_zero] at x0
      have HRE := Lib.hid hre
      have HRW := Lib.hid hrw
      have hk0 : (0 : Int) ≤ (k : Int) := by omega
      have hk1 : (k : Int) < (rn : Int) := by omega
      clear hSr hx hre hrw
      by_cases hlong : 100 < r.stream.size
      · have d2 : decide ((100 : Int) < (r.stream.size : Int)) = true := decide_eq_true (by omega)
        have d2' : decide ((r.stream.size : Int) > 100) = true := decide_eq_true (by omega)
        go_wp2_with fail
        go_ret
        exact ⟨rfl, HB3.out.trans (HK.out.bel.mono HB3.out.size)⟩
      have d2 : decide ((100 : Int) < (r.stream.size : Int)) = false := decide_eq_false (by omega)
      have d2' : decide ((r.stream.size : Int) > 100) = false := decide_eq_false (by omega)
      have hop := op_any wr (.slice (cutA D ld 0 7) q ld) log (HLG.out.fresh HK.out.bel) HOK.out HLL.out r HRW.out (by omega) ((k : Int) + 1)
      have HOP := Lib.hid hop
      clear hop
      go_wp2_with fail
      refine HOP.out.mono ?_
      rintro e w5 ⟨o, rfl, hoi, hoo, hB5⟩
      have hone := opc_one w5 hoo
      have HONE := Lib.hid hone
      have HOI := Lib.hid hoi
      have HOO := Lib.hid hoo
      have HB5 := Lib.hid hB5
      have HON := Lib.hid ((HK.out.own.fresh hB5).fresh ((Below.refl w5.heap.size w5).alloc (Nat.le_refl _) (.cells (opc o).toArray 36)))
      have HRL := Lib.hid HK.out.len
      have HSZ : Hid (w3.heap.size ≤ (w5.alloc (.cells (opc o).toArray 36)).heap.size) := Lib.hid (by rw [World.size_alloc]; have := HK.out.bel.size; have := hB5.size; omega)
      clear hone hoi hoo hB5 x0 x1 x2 x3 x4 x5 x6 HOP
      go_wp2_with (first | (refine op_build1 (by rfl) 60 rfl o rfl ?_) | (at_builtin; refine elOps.append _ (by rfl) _ _ rfl w3.heap.size _ R rfl HON.out _ _ [⟨o, HONE.out⟩] rfl (Sl.single (k := 17) (enc := opsc) (x := ⟨o, HONE.out⟩) (heap_alloc_new w5 _) rfl) (by rw [HRL.out, List.length_singleton]; omega) HSZ.out ?_; intro v' w7 hO' hgr hAt))
      have hpush := HK.out.push HB5.out (o := ⟨o, HONE.out⟩) HOO.out (fun h2 => by show OpIs _ (id raws[k]) _ _; rw [HRE.out]; exact HOI.out) ((Below.refl w5.heap.size w5).alloc (Nat.le_refl _) (.cells (opc o).toArray 36)) hO' hgr hAt
      go_roundw
      case rel => exact ⟨k + 1, _, hlt, by go_num, hpush⟩
      case measure => simp [RowKit.intOf]; omega
    · have hkn : k = rn := by omega
      subst hkn
      obtain ⟨os, hos⟩ : ∃ os, R.map OpS.val = os := ⟨_, rfl⟩
      have hsl := HK.out.sl
      have hoks := HK.out.oks
      have hsp := HK.out.spans (by rw [HRN.out]; exact Nat.le_refl _)
      have hol : os.length = k := by rw [← hos, List.length_map]; exact HK.out.len
      rw [hos] at hsl hoks hsp
      have HSL := Lib.hid hsl
      have HOKS := Lib.hid hoks
      have HSP := Lib.hid hsp
      have HOL := Lib.hid hol
      have HBW := Lib.hid (HB3.out.trans (HK.out.bel.mono HB3.out.size))
      have HLGR := Lib.hid (HLG.out.fresh HK.out.bel)
      have HLAR := Lib.hid (HLA.out.fresh HK.out.bel)
      have HTR := Lib.hid (HT.out.fresh HBW.out)
      obtain ⟨ha1, ha2⟩ := agree_take all (q := q) (by rw [HN.out]; exact hqn)
      rw [HLT.out] at ha1 ha2
      have hag := agree_any wr (.slice (cutA D ld 0 7) q ld) (.slice D n ld) log all HLGR.out.ents HLAR.out.ents (by have := HLL.out; omega)
      rw [ha1] at hag
      have HAG := Lib.hid hag
      have HA2 := Lib.hid ha2
      clear hos hsl hoks hsp hol ha1 ha2 hag
      go_wp2_with fail
      refine HAG.out.mono ?_
      rintro e w5 ⟨rfl, hB5⟩
      have HB5 := Lib.hid hB5
      have hag := dagree_any w5 (.slice D n ld) (.slice (cutA D ld 0 7) q ld) all log (EntsOk.grow HLAR.out.ents hB5) (EntsOk.grow HLGR.out.ents hB5) (by rw [HN.out]; omega)
      rw [HA2.out] at hag
      have HAG2 := Lib.hid hag
      clear hB5 hag HAG
      go_wp2_with fail
      refine HAG2.out.mono ?_
      rintro e w6 ⟨rfl, hB6⟩
      have HB6 := Lib.hid (HB5.out.trans (hB6.mono HB5.out.size))
      clear hB6 HAG2
      have hchk := fun (W : World) (hW : Below wr.heap.size wr W) (vl : Value) (lg : List Ent) (hlg : LogIn wr vl lg) (hok : LogOk lg) (hll : lg.length ≤ 100) (vo : Value) (ops : List Hop) (hS : Sl wr (fun b => b < wr.heap.size) 17 opc vo ops) (ho : ∀ o ∈ ops, OpOk wr (fun b => b < wr.heap.size) o) (h20 : ops.length ≤ 20) (hs : Spans ops) =>
        check_any W (HTR.out.fresh hW) vl lg (EntsOk.grow hlg.ents hW) hok hll vo ops ((hS.fresh hW).mono (fun b hb _ => hb)) (fun o hm => ⟨(ho o hm).kind, ((ho o hm).ev.fresh hW).mono (fun b hb _ => hb), (ho o hm).bev, (ho o hm).st, (ho o hm).pos⟩) h20 hs
      have HCHK := Lib.hid hchk
      clear hchk
      go_wp2_with fail
      refine (HCHK.out w6 HB6.out _ log HLGR.out HOK.out (by have := HLL.out; omega) _ os HSL.out HOKS.out (by rw [HOL.out]; omega) HSP.out).mono ?_
      rintro e w7 ⟨z, rfl, hz, hzn, hB7⟩
      rw [HOL.out] at hzn
      have HZ := Lib.hid hz
      have HB7 := Lib.hid (HB6.out.trans (hB7.mono HB6.out.size))
      clear hz hB7
      by_cases hz0 : z = 0
      case neg =>
        have e1 : ((z : Int) != 0) = true := by simp; omega
        have e2 : decide ((1 : Int) ≤ (z : Int)) = true := decide_eq_true (by omega)
        have e2' : decide ((z : Int) ≥ 1) = true := decide_eq_true (by omega)
        have e3 : decide ((z : Int) ≤ (k : Int)) = true := decide_eq_true (by omega)
        go_wp2_with fail
        go_ret
        exact ⟨rfl, HBW.out.trans (HB7.out.mono HBW.out.size)⟩
      subst hz0
      have hfine := HZ.out.1 rfl
      have hfall : Fine all os := Fine.more (n := q) (by rw [HLT.out]; exact hfine)
      have HFI := Lib.hid hfine
      have HFA := Lib.hid hfall
      clear hfine hfall
      have hcl : ∀ W : World, 1 ≤ k → (Instr.slice 28 (.slice Au k cu) (some (.int .i64 1)) none none).run Tryz.prog W = .ok (.slice (cutA Au cu 1 17) (k - 1) (cu - 1)) W := fun W h1 => by
        simpa using run_cut_low (P := Tryz.prog) Tryz.underlying28 Tryz.sizeOf36 Au k cu 1 (by omega) (by omega) W
      have HCL := Lib.hid hcl
      have HU1 := Lib.hid hu1
      clear hcl
      go_upto_if 93 with (fail)
      go_cut [14] (fun s wx => wx = w7 ∧ ∃ os2, Sl wr (fun b => b < wr.heap.size) 17 opc s os2 ∧ (∀ o ∈ os2, o ∈ os) ∧ os2.length ≤ 20 ∧ Fine log os2)
      case first =>
        by_cases hk0 : k = 0
        · have e1 : decide ((0 : Int) < (k : Int)) = false := decide_eq_false (by omega)
          have e2 : decide (0 < k) = false := decide_eq_false (by omega)
          have e3 : ¬ (0 < k) := by omega
          have HX : Hid (∃ os2, Sl wr (fun b => b < wr.heap.size) 17 opc (.slice Au k cu) os2 ∧ (∀ o ∈ os2, o ∈ os) ∧ os2.length ≤ 20 ∧ Fine log os2) := Lib.hid ⟨os, HSL.out, fun _ h => h, by rw [HOL.out]; omega, HFI.out⟩
          clear hk0
          go_wp2_with fail
          go_meet
          case rel => exact ⟨rfl, HX.out⟩
        · have hcl := HCL.out w7 (by omega)
          have e1 : decide ((0 : Int) < (k : Int)) = true := decide_eq_true (by omega)
          have e2 : decide (0 < k) = true := decide_eq_true (by omega)
          have e3 : 0 < k := by omega
          have hdr := HSL.out.drop_ (i := 1) (by rw [HOL.out]; omega)
          have hfd : Fine log (os.drop 1) := by
            cases hoc : os with
            | nil => rw [hoc] at HOL; have h0 : 0 = k := HOL.out; omega
            | cons o os' =>
              have hf := HFI.out
              rw [hoc] at hf
              exact hf.tail
          have HX := Lib.hid (⟨os.drop 1, hdr, fun o ho => List.mem_of_mem_drop ho, by rw [List.length_drop, HOL.out]; omega, hfd⟩ : ∃ os2, Sl wr (fun b => b < wr.heap.size) 17 opc (.slice (cutA Au cu 1 17) (k - 1) (cu - 1)) os2 ∧ (∀ o ∈ os2, o ∈ os) ∧ os2.length ≤ 20 ∧ Fine log os2)
          clear hk0 hdr hfd
          go_wp2_with fail
          go_meet
          case rel => exact ⟨rfl, HX.out⟩
      case rest =>
        obtain ⟨rfl, os2, hs2, hm2, hl2, hf2⟩ := hcut
        have HS2 := Lib.hid hs2
        have HM2 := Lib.hid hm2
        have HF2 := Lib.hid hf2
        clear hs2 hm2 hf2
        go_wp2_with fail
        refine (HCHK.out wc HB7.out _ all HLAR.out HOA.out (by rw [HN.out]; omega) _ os HSL.out HOKS.out (by rw [HOL.out]; omega) HSP.out).mono ?_
        rintro e w8 ⟨z1, rfl, hz1, _, hB8⟩
        have hz10 := hz1.2 HFA.out
        subst hz10
        have HB8 := Lib.hid (HB7.out.trans (hB8.mono HB7.out.size))
        clear hz1 hB8
        go_wp2_with fail
        refine (HCHK.out w8 HB8.out _ log HLGR.out HOK.out (by have := HLL.out; omega) _ os2 HS2.out (fun o ho => HOKS.out o (HM2.out o ho)) hl2 (fun o ho => HSP.out o (HM2.out o ho))).mono ?_
        rintro e w9 ⟨z2, rfl, hz2, _, hB9⟩
        have hz20 := hz2.2 HF2.out
        subst hz20
        have HB9 := Lib.hid (HB8.out.trans (hB9.mono HB8.out.size))
        clear hz2 hB9
        have hlost := fun (W : World) (hW : Below wr.heap.size wr W) (vl : Value) (lg : List Ent) (hlg : LogIn wr vl lg) (hll : lg.length ≤ 100) => lost_any W vl lg (EntsOk.grow hlg.ents hW) hll (.slice Au k cu) os ((HSL.out.fresh hW).mono (fun b hb _ => hb)) (fun o hm => ⟨(HOKS.out o hm).kind, ((HOKS.out o hm).ev.fresh hW).mono (fun b hb _ => hb), (HOKS.out o hm).bev, (HOKS.out o hm).st, (HOKS.out o hm).pos⟩) (by rw [HOL.out]; omega)
        have h1 := fun W hW => hlost W hW _ log HLGR.out (by have := HLL.out; omega)
        have h2 := fun W hW => hlost W hW _ all HLAR.out (by rw [HN.out]; omega)
        rw [HFI.out.lost] at h1
        rw [HFA.out.lost] at h2
        have H1 := Lib.hid h1
        have H2 := Lib.hid h2
        clear hlost h1 h2
        go_wp2_with fail
        refine (H1.out w9 HB9.out).mono ?_
        rintro e w10 ⟨rfl, hB10⟩
        have HB10 := Lib.hid (HB9.out.trans (hB10.mono HB9.out.size))
        clear hB10
        go_wp2_with fail
        refine (H2.out w10 HB10.out).mono ?_
        rintro e w11 ⟨rfl, hB11⟩
        have HB11 := Lib.hid (HBW.out.trans ((HB10.out.trans (hB11.mono HB10.out.size)).mono HBW.out.size))
        clear hB11 H1 H2
        go_wp2_with fail
        go_ret
        exact ⟨rfl, HB11.out⟩
end Go.Proofs.YthdcnknjjbdefaaGreatDoor.His

namespace Go.Proofs.YthdcnknjjbdefaaGreatDoor
open Go.ChangeShapes Go.WideShapes Go.ChangeAt Go.RowKit Go.Bl

theorem historyGrows_witness (os : Os) {H : Type} (enc : TypeId × Value → H) : (OpenSpec.ofChange Rows.historyGrowsSpec).preRow enc Tryz.prog Tryz.f5 [] false [("unicode/utf8.acceptRanges", Rows.laid_unicode_utf8_acceptRanges), ("unicode/utf8.first", Rows.laid_unicode_utf8_first)] ((laidWorld os).forCall (fun _ _ => 0) ⟨#[], #[.slice none 0 0, .slice none 0 0, .int .i64 0], []⟩).memory #[.slice none 0 0, .slice none 0 0, .int .i64 0] :=
  OpenSpec.preRow_of_B rfl 8 (by kernel_rfl) (by kernel_rfl) (laid_met os _)

set_option maxRecDepth 100000 in
theorem historyGrows_lifted (os : Os) (started : os.Started) (H : Type) (enc : TypeId × Value → H) (F : Stop.Interp) :
    ReturnsInHanded {} Tryz.checked os 5 .any ((OpenSpec.ofChange Rows.historyGrowsSpec).preRow enc Tryz.prog Tryz.f5 Rows.historyGrowsRow.domain false Rows.historyGrowsRow.laid) (((OpenSpec.ofChange Rows.historyGrowsSpec).at F).post enc Tryz.prog Tryz.f5 false true false false) := by
  refine law_row (C := Tryz.checked) own started (by kernel_rfl) Tryz.func5
    (witness_row_atRef (enc := enc) (C := Tryz.checked) false (laidWorld os) #[.slice none 0 0, .slice none 0 0, .int .i64 0] rfl (by kernel_rfl) (by kernel_rfl) (by kernel_rfl) (historyGrows_witness os enc))
    laidOut (by kernel_rfl) (by kernel_rfl) Tryz.underlying4 rfl (fun ds h => by match ds, h with | [_, _, _], _ => rfl) ?_
  intro W base args ds p hval0 hA0 hz0 hL
  have hT := tabs_of_laid hL
  have hval : ∀ (j : Nat) t v, Tryz.f5.params[j]? = some t → args[j]? = some v → Value.okWide Tryz.prog W .any base t v := hval0
  have hA : DataW.TrodAll enc Tryz.prog W 0 (fun _ => true) true Tryz.f5.params.toList args.toList ds p := hA0
  have hz : SizedEach Tryz.prog Tryz.f5.params.toList ds := hz0
  rw [Tryz.params5] at hA hval hz
  obtain ⟨v0, v1, v2, d0, d1, d2, p0, p1, p2, rfl, rfl, rfl, h0, h1, h2⟩ := trodAll_three hA
  obtain ⟨⟨v0, l⟩, rfl, q0⟩ := arg_one (opEntries W) h0 (fun n hn => hz n (by simp only [DataW.weightsEach, List.mem_append]; exact .inl hn)) (hval 0 22 v0 rfl rfl) (by simp [Tryz.underlying22]) (by simp [Tryz.underlying22])
  obtain ⟨⟨v1, raws⟩, rfl, q1⟩ := arg_one (His.opRaws W) h1 (fun n hn => hz n (by simp only [DataW.weightsEach, List.mem_append]; exact .inr (.inl hn))) (hval 1 23 v1 rfl rfl) (by simp [Tryz.underlying23]) (by simp [Tryz.underlying23])
  obtain ⟨at_, rfl, q2⟩ := arg_one (opInt W) h2 (fun n hn => hz n (by simp only [DataW.weightsEach, List.mem_append]; exact .inr (.inr (.inl hn)))) (hval 2 3 v2 rfl rfl) (by simp [Tryz.underlying3]) (by simp [Tryz.underlying3])
  exact His.grows_law W hT v0 l ⟨q0.1, q0.2.1⟩ v1 raws ⟨q1.1, q1.2.1⟩ at_ q2

theorem historyGrows_row : Rows.HistoryGrowsSaid :=
  OpenClaim.holds_of_cond 5 Tryz.f5 rfl rfl rfl rfl rfl rfl rfl ⟨rfl, rfl, rfl, rfl, rfl⟩ rfl rfl rfl rfl rfl (by kernel_rfl) Tryz.func5 (by kernel_rfl)
    (of_decide_eq_true (by kernel_rfl)) (by unfold Func.isWrapper; first | (rw [if_pos (by decide +kernel)]; kernel_rfl) | (rw [if_neg (by decide +kernel)]; exact ⟨rfl, rfl⟩))
    (fun os started H enc _ F0 => by rw [OpenClaim.pre_eq_preRow]; exact historyGrows_lifted os started H enc F0)

theorem historyGrows_holds : Rows.HistoryGrowsCardSaid :=
  Claim7.holds_tied_plain_at .later [] [.data, .pinned] true Rows.historyGrowsCard.stood.harness Rows.historyGrowsCard.stood.looks
    historyGrows_row (fun _ h => by cases h) (by kernel_rfl) (fun _ h => by cases h) historyGrows_row_tie rfl ⟨rfl, rfl⟩ (by kernel_rfl) rfl
    (fun f fn hf hfn => by
      obtain rfl : f = 5 := (Option.some.inj ((show Tryz.prog.funcNamed "bucketline/bucketlinelaw23.HistoryGrows" = some 5 by kernel_rfl).symm.trans hf)).symm
      obtain rfl : fn = Tryz.f5 := (Option.some.inj (Tryz.func5.symm.trans hfn)).symm
      refine ⟨by kernel_rfl, fun j t ht => ?_⟩
      rw [Tryz.params5] at ht
      have hall : (#[22, 23, 3] : Array TypeId).all (fun t => Tryz.prog.wantsStandIn t == false) = true := by kernel_rfl
      obtain ⟨hj, e⟩ := Array.getElem?_eq_some_iff.1 ht
      have := (Array.all_eq_true.1 hall) j hj
      rw [e] at this
      have h9 : Tryz.prog.wantsStandIn t = false := by simpa using this
      exact h9)
    (by kernel_rfl)
end Go.Proofs.YthdcnknjjbdefaaGreatDoor
