/- DiskRefuses: what the statement's function does: it answers true. -/
import Derived.Test.YtiphnobefigibaaDoorDskL
import Derived.Deep.QuietTactic
namespace Go.Proofs.YtiphnobefigibaaDoor
open Go.RowKit Go.Bl
attribute [local go_sem ↓] Go.wp_at_zero Go.wp_at_succ

def RefRel (w : World) (p : Nat) (room : Int) (n : Nat) (i : Value) (wr : World) : Prop :=
  ∃ (k : Nat) (d : Dk), k ≤ n ∧ i = .int .i64 k ∧ d.room = room ∧ Dsk (fun q => q < w.heap.size) wr p d ∧ Below w.heap.size w wr
def RefCut (w : World) (p : Nat) (room : Int) (wx : World) : Prop :=
  ∃ d : Dk, d.room = room ∧ Dsk (fun q => q < w.heap.size) wx p d ∧ Below w.heap.size w wx
theorem readV_parts (o : Option Fl) : ∃ a e, readV o = .tuple #[.string a, .int .i64 e] := by
  cases o with
  | none => exact ⟨_, _, rfl⟩
  | some f => exact ⟨_, _, rfl⟩

set_option maxRecDepth 100000 in
set_option maxHeartbeats 4000000 in
theorem refuses_any (w : World) (hT : Tabs w) (G : Nat → Prop) (hG : ∀ k, G k → k < w.heap.size) (room : Int) (hr : i64 room) (v : Value) (l : List Ac) (h : Acts w G v l) :
    Calls Tryd.prog 6 #[.int .i64 room, v] w fun e w' => e = .returned (.bool true) ∧ Below w.heap.size w w' := by
  obtain ⟨A, c, rfl, hA1, hA2⟩ := h.1.shape
  unfold maxLen at hA2
  have HT := Lib.hid hT
  have HA := Lib.hid h
  clear hT h
  obtain ⟨r1, r2⟩ := pickOf_range room (n := 3000) (by decide)
  obtain ⟨N, hN⟩ : ∃ N : Nat, pickOf room 3000 = (N : Int) := ⟨(pickOf room 3000).toNat, by omega⟩
  have hpk := fun wz => pick_any wz room 3000 hr (by decide)
  rw [hN] at r1 r2
  simp only [hN] at hpk
  have HPK := Lib.hid hpk
  clear hN hpk hr
  go_enter Tryd.func6, Tryd.ntmps6
  go_wp2_with fail
  refine (shown_any w HT.out).mono ?_
  rintro e w1 ⟨rfl, hB1⟩
  have HB1 := Lib.hid hB1
  have HA1 := Lib.hid (HA.out.keep (Keeps.of_fresh hB1 (fun k => w.heap.size ≤ k)) (fun k hk _ hx => by omega))
  clear hB1
  go_wp2_with fail
  refine (small_any w1 G _ l HA1.out).mono ?_
  rintro e w2 ⟨rfl, rfl⟩
  go_wp2_with fail
  refine (HPK.out w1).mono ?_
  rintro e w2 ⟨rfl, rfl⟩
  go_wp2_with fail
  refine (newD w1 (fun q => q < w.heap.size) (fun q hq => Nat.lt_of_lt_of_le hq HB1.out.size) (1 + (N : Int)) (by omega) (by omega)).mono ?_
  rintro e w2 ⟨p, rfl, hD2, hB2⟩
  have HD2 := Lib.hid hD2
  have HB2 := Lib.hid (HB1.out.trans (hB2.mono HB1.out.size))
  clear hD2 hB2 HA1 HB1
  cases hsm : smallB l
  · go_wp2_with fail
    go_ret
    exact ⟨rfl, HB2.out⟩
  have H80 := Lib.hid (smallB_at hsm)
  have HX : ∀ wz : World, Below w.heap.size w wz → ∀ q, q < w.heap.size → q < wz.heap.size := fun wz hz q hq => Nat.lt_of_lt_of_le hq hz.size
  have HX := Lib.hid HX
  go_wp2_with fail
  go_loopw [9, 10, 11, 12, 13, 14, 15, 16, 17, 18, 19, 20] (fun i _ _ _ _ _ _ _ _ _ _ _ wr => RefRel w p (1 + (N : Int)) l.length i wr) (fun i _ _ _ _ _ _ _ _ _ _ _ _ => l.length - (intOf i).toNat)
  case atStart => exact ⟨0, _, Nat.zero_le _, rfl, rfl, HD2.out, HB2.out⟩
  case round =>
    obtain ⟨k, d, hk, rfl, hroom, hD, hB⟩ := hrel
    have HD := Lib.hid hD
    have HB := Lib.hid hB
    have HR := Lib.hid hroom
    clear hD hB hroom HD2 HB2
    by_cases hlt : k < l.length
    · have hl80 := H80.out.1
      obtain ⟨t1, t2, t3⟩ := H80.out.2 l[k] (List.getElem_mem hlt)
      have hok40 := HD.out.ok.len
      go_wp2_with fail
      refine (listD wr _ p d HD.out).mono ?_
      rintro e w3 ⟨vn, kn, rfl, hNn, hB3, hS3⟩
      obtain ⟨Bn, cn, rfl, hn1, hn2⟩ := hS3.shape
      unfold maxLen at hn2
      have hkl : kn.length = d.L.length := hNn.len HD.out.nodup
      have HD3 := Lib.hid (HD.out.fresh hB3)
      have HB3 := Lib.hid (HB.out.trans (hB3.mono HB.out.size))
      have HKL := Lib.hid hkl
      clear hNn hB3 hS3 hkl HD HB
      obtain ⟨wr, hwr⟩ : ∃ wr, wr = w3 := ⟨_, rfl⟩
      subst hwr
      have HB := HB3
      have HD := HD3
      have hAr := HA.out.keep (Keeps.of_below HB3.out) (fun q hq hg hx => by have := hG q hg; omega)
      obtain ⟨ra, rf, hrv⟩ := readV_parts (d.find l[k].name)
      have q1 := readD wr _ p d HD3.out l[k].name (by unfold maxLen; omega)
      rw [hrv] at q1
      have Q1 := Lib.hid q1
      have HRV := Lib.hid hrv
      clear q1 hrv t1 t2 t3
      obtain ⟨b, o, rfl, hGb, hbl, hxx⟩ := hAr.1.cell_ hlt
      obtain ⟨hkv, hop, hn1, hm1⟩ := hAr.2 l[k] (List.getElem_mem hlt)
      obtain ⟨B, dd, hkk, hB1, hB2⟩ := hkv.shape
      have x0 := hxx 0 _ rfl
      have x1 := hxx 1 _ rfl
      have x2 := hxx 2 _ rfl
      have x3 := hxx 3 _ rfl
      simp only [Nat.add_zero] at x0
      obtain ⟨t1, t2, t3⟩ := H80.out.2 l[k] (List.getElem_mem hlt)
      have hc := does_any wr (fun q => q < w.heap.size) (fun q hq => Nat.lt_of_lt_of_le hq HB.out.size) (HT.out.below HB.out HT.out.lt) p d HD.out l[k] ⟨hkv.mono (fun q _ hq => hG q hq), hop, hn1, hm1⟩ ⟨t1, t2⟩
      rw [hkk] at x3 hc
      have HC := Lib.hid hc
      clear hxx hkv hkk hc hAr
      go_wp2_with fail
      refine (usedD wr _ p d HD3.out).mono ?_
      rintro e w4 ⟨rfl, rfl⟩
      go_wp2_with fail
      refine Q1.out.mono ?_
      rintro e w4 ⟨rfl, rfl⟩
      go_wp2_with fail
      refine HC.out.mono ?_
      rintro e w4 ⟨r, d', ks, rfl, hdo, hN, hD4, hK4⟩
      have HB4 := Lib.hid (HB3.out.trans (below_notB hK4 HB3.out.size (fun _ h => h)))
      obtain ⟨e1, e2⟩ := does_used HD.out.nodup HD.out.ok hdo
      have HDO := Lib.hid hdo
      have HD4' := Lib.hid hD4
      have HK4 := Lib.hid hK4
      clear hdo hN hD4 hK4 HC e2
      go_upto_if 76 with (fail)
      go_cut [14, 15] (fun _ _ wx => RefCut w p (1 + (N : Int)) wx)
      case first =>
        have hdo := HDO.out
        have hD4 := HD4'.out
        have hK4 := HK4.out
        by_cases hr0 : r = 0
        · subst hr0
          go_wp2_with fail
          go_meet
          exact ⟨d', e1.trans HR.out, hD4, HB4.out⟩
        · obtain rfl := does_err hdo hr0
          have HD4 := Lib.hid hD4
          have x1' : w4.cell? ⟨b, o + k * 4 + 1, none⟩ = some (.string l[k].name) := (hK4.cell (a := ⟨b, o + k * 4 + 1, none⟩) hbl (fun h => h (hG b hGb))).trans x1
          have dr : (r != 0) = true := by simp [hr0]
          have q2 := readD w4 _ p d' HD4.out l[k].name (by unfold maxLen; omega)
          rw [HRV.out] at q2
          have Q2 := Lib.hid q2
          have t1' : (ra.toList != ra.toList) = false := by simp
          have t2' : (rf != rf) = false := by simp
          have t3' : (d'.used != d'.used) = false := by simp
          clear q2 hdo hD4 hK4 e1 x0 x1 x2 x3 Q1 HD4' HDO HK4
          go_wp2_with fail
          refine Q2.out.mono ?_
          rintro e w5 ⟨rfl, rfl⟩
          go_wp2_with fail
          refine (usedD w4 _ p d' HD4.out).mono ?_
          rintro e w5 ⟨rfl, rfl⟩
          go_wp2_with fail
          refine (listD w4 _ p d' HD4.out).mono ?_
          rintro e w5 ⟨vm, km, rfl, hNm, hB5, hS5⟩
          obtain ⟨Bm, cm, rfl, _, _⟩ := hS5.shape
          have hkm : km.length = kn.length := by rw [HKL.out, hNm.len HD4.out.nodup]
          rw [hkm]
          have HB5 := Lib.hid (HB4.out.trans (hB5.mono HB4.out.size))
          have HD5 := Lib.hid (HD4.out.fresh hB5)
          clear hNm hB5 hS5 hkm
          go_wp2_with fail
          go_meet
          exact ⟨d', HR.out, HD5.out, HB5.out⟩
      case rest =>
        obtain ⟨dq, hroom', hD', hB'⟩ := hcut
        clear HDO HD4' e1 HK4 d'
        obtain ⟨d', hdq⟩ : ∃ d', d' = dq := ⟨_, rfl⟩
        subst hdq
        obtain ⟨wv, hwv⟩ : ∃ wv, wv = wc := ⟨_, rfl⟩
        subst hwv
        have HD4 := Lib.hid hD'
        have HB4 := Lib.hid hB'
        have HR4 := Lib.hid hroom'
        clear hD' hB' hroom' HD3 HB3 HD HB x0 x1 x2 x3 Q1 HRV HKL hn1 hn2 hok40
        go_wp2_with fail
        refine (listD wv _ p d' HD4.out).mono ?_
        rintro e w5 ⟨vm, km, rfl, hNm, hB5, hS5⟩
        obtain ⟨Bm, cm, rfl, hm1, hm2⟩ := hS5.shape
        unfold maxLen at hm2
        have hk40 : km.length ≤ 40 := by rw [hNm.len HD4.out.nodup]; exact HD4.out.ok.len
        have HB5 := Lib.hid (HB4.out.trans (hB5.mono HB4.out.size))
        have HD5 := Lib.hid (HD4.out.fresh hB5)
        have HS5 := Lib.hid hS5
        have HNM := Lib.hid hNm
        have hused : d'.used ≤ 1 + (N : Int) := by rw [← HR4.out]; exact HD4.out.ok.used
        clear hNm hB5 hS5 HD4 HB4
        go_wp2_with fail
        go_loopw [16, 18, 19, 20] (fun u i _ _ wz => ∃ j q : Nat, j ≤ km.length ∧ i = .int .i64 j ∧ u = .int .i64 (total (d'.L.filter fun f : Fl => amid (km.take j) f.name)) ∧ wz = w5.drewN q) (fun _ i _ _ _ => km.length - (intOf i).toNat)
        case atStart =>
          refine ⟨0, 0, Nat.zero_le _, rfl, ?_, rfl⟩
          have : (d'.L.filter fun f : Fl => amid (km.take 0) f.name) = [] := by simp [amid]
          rw [this]
          rfl
        case round =>
          obtain ⟨j, q, hj, rfl, rfl, rfl⟩ := hrel
          have hsum := total_filter_le (fun f : Fl => amid (km.take j) f.name) d'.L
          have hut : (total d'.L : Int) = d'.used := rfl
          by_cases hjt : j < km.length
          · obtain ⟨f, hfL, hfx⟩ := (HNM.out.2 _).1 (List.getElem_mem hjt)
            have hfu := total_filter_upd (S := amid (km.take j)) (S' := amid (km.take (j + 1))) (g := id) (fun _ => rfl) (f := f) (by rw [hfx]; exact amid_not hjt HNM.out.1) (fun y => by rw [amid_succ hjt, hfx]) HD5.out.nodup hfL
            rw [show updL f.name id d'.L = d'.L from updL_id (fun _ _ => rfl)] at hfu
            obtain ⟨U, hU⟩ : ∃ U : Nat, total (d'.L.filter fun f : Fl => amid (km.take j) f.name) = U := ⟨_, rfl⟩
            rw [hU] at hfu hsum ⊢
            have hfb := total_mem hfL
            obtain ⟨hsy1, hsy2⟩ := HD5.out.ok.syn f hfL
            have hfi := find_mem HD5.out.nodup hfL
            have hnm := HD5.out.ok.nms f hfL
            have q1 := fun n => readD (w5.drewN n) _ p d' (HD5.out.drewN n) f.name (by unfold maxLen; omega)
            have q2 := fun n => syncedD (w5.drewN n) _ p d' (HD5.out.drewN n) f.name (by unfold maxLen; omega)
            rw [hfi, hfx] at q1 q2
            have Q1 := Lib.hid q1
            have Q2 : Hid (∀ n, Calls Tryd.prog 26 #[.pointer (some ⟨p, 0, none⟩), .string km[j]] (w5.drewN n) fun e w' => e = .returned (.int .i64 f.syn) ∧ w' = w5.drewN n) := Lib.hid (fun n => (q2 n).mono fun _ _ h => ⟨h.1, h.2.symm⟩)
            have HFU := Lib.hid hfu
            have ds : decide ((f.bytes.size : Int) < f.syn) = false := by simp; omega
            obtain ⟨bn, on, rfl, _, _, hyy⟩ := HS5.out.cell_ hjt
            have y0 := hyy 0 _ rfl
            simp only [Nat.mul_one, Nat.add_zero] at y0
            clear q1 q2 hfu hyy hU hfi hnm
            by_cases hj0 : j = 0
            · subst hj0
              rw [Nat.add_zero] at y0
              go_wp2_with fail
              refine (Q1.out q).mono ?_
              rintro e w6 ⟨he, rfl⟩
              obtain rfl : e = .returned (.tuple #[.string f.bytes, .int .i64 0]) := he
              go_wp2_with fail
              go_quiet (exact (Q2.out _).mono fun _ _ h => ⟨h.1, _, h.2⟩)
              go_wp2_with fail
              go_roundw
              case rel => exact ⟨1, _, hjt, by go_num, by rw [HFU.out]; show Value.int IntKind.i64 ((U : Int) + (f.bytes.size : Int)) = .int .i64 ((U + f.bytes.size : Nat) : Int); rw [Int.natCast_add], by first | rfl | exact World.drewN_drewN _ _ _⟩
              case measure => simp [intOf]; omega
            · have hj1 : j - 1 < km.length := by omega
              have hjp : 0 < j := by omega
              have hdp : decide (0 < j) = true := by simpa using hjp
              obtain ⟨b5, o5, he5, _, _, hx5⟩ := HS5.out.cell_ hj1
              injection he5 with he5
              injection he5 with he5 he6
              subst he5 he6
              have y1 := hx5 0 _ rfl
              rw [Nat.add_zero, Nat.mul_one] at y1
              have hris : Op.bytesLess km[j - 1].toList km[j].toList = true := List.pairwise_iff_getElem.1 HNM.out.1 (j - 1) j hj1 hjt (by omega)
              have hr1 : Op.bytesLess km[j].toList km[j - 1].toList = false := by
                cases hb : Op.bytesLess km[j].toList km[j - 1].toList
                · rfl
                · exact absurd (bLt_transB (a := km[j]) (b := km[j - 1]) (c := km[j]) hb hris) (bLt_irreflB _)
              have hr2 : (km[j].toList == km[j - 1].toList) = false := strEq_false (fun e => by rw [e] at hris; exact absurd hris (bLt_irreflB _))
              have hjm : wrap64 ((j : Int) - 1) = ((j - 1 : Nat) : Int) := by unfold wrap64; omega
              clear hx5
              go_wp2_with fail
              refine (Q1.out q).mono ?_
              rintro e w6 ⟨he, rfl⟩
              obtain rfl : e = .returned (.tuple #[.string f.bytes, .int .i64 0]) := he
              go_wp2_with fail
              go_quiet (exact (Q2.out _).mono fun _ _ h => ⟨h.1, _, h.2⟩)
              go_wp2_with fail
              go_roundw
              case rel => exact ⟨j + 1, _, hjt, by go_num, by rw [HFU.out]; show Value.int IntKind.i64 ((U : Int) + (f.bytes.size : Int)) = .int .i64 ((U + f.bytes.size : Nat) : Int); rw [Int.natCast_add], by first | rfl | exact World.drewN_drewN _ _ _⟩
              case measure => simp [intOf]; omega
          · have hjd : j = km.length := by omega
            subst hjd
            have hall : (d'.L.filter fun f : Fl => amid (km.take km.length) f.name) = d'.L := by
              rw [List.filter_eq_self]
              intro f hf
              rw [List.take_length, amid_iff]
              exact (HNM.out.2 _).2 ⟨f, hf, rfl⟩
            rw [hall]
            rw [show ((total d'.L : Nat) : Int) = d'.used from rfl]
            have t3' : (d'.used != d'.used) = false := by simp
            have t4' : decide (1 + (N : Int) < d'.used) = false := by simp; omega
            have t5' : decide ((40 : Int) < (km.length : Int)) = false := by simp; omega
            clear hall hsum
            go_wp2_with fail
            refine (usedD (w5.drewN q) _ p d' (HD5.out.drewN q)).mono ?_
            rintro e w6 ⟨rfl, rfl⟩
            go_wp2_with fail
            refine (HPK.out _).mono ?_
            rintro e w6 ⟨rfl, rfl⟩
            go_wp2_with fail
            go_roundw
            case rel => exact ⟨k + 1, d', hlt, by go_num, HR4.out, HD5.out.drewN q, HB5.out.trans ⟨rfl, rfl, rfl, HB5.out.size |> fun _ => Nat.le_refl _, fun _ _ => rfl⟩⟩
            case measure => simp [intOf]; omega
    · have hkd : k = l.length := by omega
      subst hkd
      go_wp2_with fail
      go_ret
      exact ⟨rfl, HB.out⟩
end Go.Proofs.YtiphnobefigibaaDoor
