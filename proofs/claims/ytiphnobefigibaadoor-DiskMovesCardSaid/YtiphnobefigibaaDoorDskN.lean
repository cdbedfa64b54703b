/- DiskMoves: what the statement's function does: it answers true. -/
import Derived.Test.YtiphnobefigibaaDoorDskL
import Derived.Test.YtiphnobefigibaaDoorDskM
namespace Go.Proofs.YtiphnobefigibaaDoor
open Go.RowKit Go.Bl
attribute [local go_sem ↓] Go.wp_at_zero Go.wp_at_succ

set_option maxRecDepth 8000 in
set_option maxHeartbeats 4000000 in
theorem moves_any (w : World) (hT : Tabs w) (G : Nat → Prop) (hG : ∀ k, G k → k < w.heap.size) (v : Value) (l : List Ac) (h : Acts w G v l) (s t : ByteArray) :
    Calls Tryd.prog 7 #[v, .string s, .string t] w fun e w' => e = .returned (.bool true) ∧ Below w.heap.size w w' := by
  obtain ⟨A, c, rfl, hA1, hA2⟩ := h.1.shape
  unfold maxLen at hA2
  have HT := Lib.hid hT
  have HA := Lib.hid h
  clear hT h
  go_enter Tryd.func7, Tryd.ntmps7
  go_wp2_with fail
  refine (shown_any w HT.out).mono ?_
  rintro e w1 ⟨rfl, hB1⟩
  have HB1 := Lib.hid hB1
  have HA1 := Lib.hid (HA.out.keep (Keeps.of_fresh hB1 (fun k => w.heap.size ≤ k)) (fun k hk _ hx => by omega))
  clear hB1
  go_wp2_with fail
  refine (small_any w1 G _ l HA1.out).mono ?_
  rintro e w2 ⟨rfl, rfl⟩
  go_wp2_with fail
  refine (newD w1 (fun q => q < w.heap.size) (fun q hq => Nat.lt_of_lt_of_le hq HB1.out.size) 100000 (by decide) (by decide)).mono ?_
  rintro e w2 ⟨p, rfl, hD2, hB2⟩
  have HD2 := Lib.hid hD2
  have HB2 := Lib.hid (HB1.out.trans (hB2.mono HB1.out.size))
  clear hD2 hB2 HA1 HB1
  cases hsm : smallB l
  · go_wp2_with fail
    go_ret
    exact ⟨rfl, HB2.out⟩
  have H80 := Lib.hid (smallB_at hsm)
  by_cases hs5 : 500 < s.size
  · have d1 : decide ((500 : Int) < (s.size : Int)) = true := by simp; omega
    go_wp2_with fail
    go_ret
    exact ⟨rfl, HB2.out⟩
  have d1 : decide ((500 : Int) < (s.size : Int)) = false := by simp; omega
  by_cases ht5 : 500 < t.size
  · have d2 : decide ((500 : Int) < (t.size : Int)) = true := by simp; omega
    go_wp2_with fail
    go_ret
    exact ⟨rfl, HB2.out⟩
  have d2 : decide ((500 : Int) < (t.size : Int)) = false := by simp; omega
  go_wp2_with fail
  clear d1 d2
  go_loopw [11] (fun i wr => DoneRel w p 100000 l.length i wr) (fun i _ => l.length - (intOf i).toNat)
  case atStart => exact ⟨0, _, Nat.zero_le _, rfl, rfl, Int.le_refl _, HD2.out, HB2.out⟩
  case round =>
    obtain ⟨k, d, hk, rfl, hroom, hus, hD, hB⟩ := hrel
    have HD := Lib.hid hD
    have HB := Lib.hid hB
    have HR := Lib.hid hroom
    have HU := Lib.hid hus
    clear hD hB hroom hus HD2 HB2
    by_cases hlt : k < l.length
    · have hAr := HA.out.keep (Keeps.of_below HB.out) (fun q hq hg hx => by have := hG q hg; omega)
      have hl80 := H80.out.1
      obtain ⟨b, o, rfl, hGb, hbl, hxx⟩ := hAr.1.cell_ hlt
      obtain ⟨hkv, hop, hn1, hm1⟩ := hAr.2 l[k] (List.getElem_mem hlt)
      obtain ⟨B, dd, hkk, hB1, hB2⟩ := hkv.shape
      have x0 := hxx 0 _ rfl
      have x1 := hxx 1 _ rfl
      have x2 := hxx 2 _ rfl
      have x3 := hxx 3 _ rfl
      simp only [Nat.add_zero] at x0
      obtain ⟨t1, t2, t3⟩ := H80.out.2 l[k] (List.getElem_mem hlt)
      have hc := does_any wr (fun q => q < w.heap.size) (fun q hq => Nat.lt_of_lt_of_le hq HB.out.size) (HT.out.below HB.out HT.out.lt) p d HD.out l[k] ⟨hkv.mono (fun q _ hq => hG q hq), hop, hn1, hm1⟩ ⟨t1, t2⟩
      rw [hkk] at x3 hc
      have HC := Lib.hid hc
      clear hxx hkv hkk hc hAr
      go_wp2_with fail
      refine HC.out.mono ?_
      rintro e w3 ⟨r, d', ks, rfl, hdo, hN, hD3, hK3⟩
      have hB3 := HB.out.trans (below_notB hK3 HB.out.size (fun _ h => h))
      obtain ⟨e1, e2⟩ := does_used HD.out.nodup HD.out.ok hdo
      have hu0 := HU.out
      have HD3 := Lib.hid hD3
      have HB3 := Lib.hid hB3
      have HE := Lib.hid (⟨e1.trans HR.out, by omega⟩ : d'.room = 100000 ∧ d'.used ≤ 500 * ((k + 1 : Nat) : Int))
      clear hD3 hB3 hK3 hN hdo e1 e2 hu0 HC
      go_wp2_with fail
      go_roundw
      case rel => exact ⟨k + 1, d', hlt, by go_num, HE.out.1, HE.out.2, HD3.out, HB3.out⟩
      case measure => simp [intOf]; omega
    · have hkd : k = l.length := by omega
      subst hkd
      -- the acts on the own file
      have hl80 := H80.out.1
      have HX : ∀ wz : World, Below w.heap.size w wz → ∀ q, q < w.heap.size → q < wz.heap.size := fun wz hz q hq => Nat.lt_of_lt_of_le hq hz.size
      have HX := Lib.hid HX
      have hus := HU.out
      go_wp2_with fail
      refine (deleteD wr (fun q => q < w.heap.size) p d HD.out ⟨#[111, 119, 110]⟩ (by decide)).mono ?_
      rintro e w3 ⟨he, hD3, hK3⟩
      obtain ⟨ev, hev⟩ : ∃ ev : Int, (if d.find ⟨#[111, 119, 110]⟩ = none then (6 : Int) else 0) = ev := ⟨_, rfl⟩
      rw [hev] at he
      subst he
      clear hev
      have hu3 := del_le d ⟨#[111, 119, 110]⟩
      have hn3 : ∀ f ∈ (d.del ⟨#[111, 119, 110]⟩).L, f.name ≠ sOwn := fun f hf => of_decide_eq_true (List.mem_filter.1 hf).2
      have hr3 : (d.del ⟨#[111, 119, 110]⟩).room = 100000 := HR.out
      generalize d.del ⟨#[111, 119, 110]⟩ = d3 at hD3 hu3 hn3 hr3
      have HB3 := Lib.hid (HB.out.trans (below_notB hK3 HB.out.size (fun _ h => h)))
      have HD3 := Lib.hid hD3
      have HN3 := Lib.hid hn3
      clear hK3 hD3 hn3
      go_wp2_with fail
      refine (deleteD w3 (fun q => q < w.heap.size) p d3 HD3.out ⟨#[111, 116, 104, 101, 114]⟩ (by decide)).mono ?_
      rintro e w4 ⟨he, hD4, hK4⟩
      obtain ⟨ev2, hev⟩ : ∃ ev : Int, (if d3.find ⟨#[111, 116, 104, 101, 114]⟩ = none then (6 : Int) else 0) = ev := ⟨_, rfl⟩
      rw [hev] at he
      subst he
      clear hev
      have hu4 := del_le d3 ⟨#[111, 116, 104, 101, 114]⟩
      have hn4 : ∀ f ∈ (d3.del ⟨#[111, 116, 104, 101, 114]⟩).L, f.name ≠ sOther := fun f hf => of_decide_eq_true (List.mem_filter.1 hf).2
      have hm4 : ∀ f ∈ (d3.del ⟨#[111, 116, 104, 101, 114]⟩).L, f.name ≠ sOwn := fun f hf => HN3.out f (List.mem_filter.1 hf).1
      have hr4 : (d3.del ⟨#[111, 116, 104, 101, 114]⟩).room = 100000 := hr3
      obtain ⟨L, hL⟩ : ∃ L, d3.del ⟨#[111, 116, 104, 101, 114]⟩ = ⟨100000, L⟩ := ⟨(d3.del ⟨#[111, 116, 104, 101, 114]⟩).L, by rw [← hr4]⟩
      rw [hL] at hD4 hu4 hn4 hm4
      have hu4 : (total L : Int) ≤ d3.used := hu4
      have hOK := hD4.ok.len
      have HB4 := Lib.hid (HB3.out.trans (below_notB hK4 HB3.out.size (fun _ h => h)))
      have HD4 := Lib.hid hD4
      clear hK4 hD4
      have HN4 := Lib.hid hn4
      have HM4 := Lib.hid hm4
      clear hn4 hm4 hL hr4 hr3 HD3 HD HN3
      have hU4 : (total L : Int) ≤ 40000 := by omega
      clear hu4 hu3 hus
      by_cases h40 : 40 ≤ L.length
      · have hc := appendD w4 _ (HX.out w4 HB4.out) (HT.out.below HB4.out HT.out.lt) p ⟨100000, L⟩ HD4.out sOwn s (by decide) (by omega)
        rw [app_long own_name HM4.out h40] at hc
        have HC := Lib.hid hc
        clear hc
        go_wp2_with fail
        refine HC.out.mono ?_
        rintro e w5 ⟨rfl, hD5, hK5⟩
        have HB5 := Lib.hid (HB4.out.trans (below_notB hK5 HB4.out.size (fun _ h => h)))
        have HD5 := Lib.hid hD5
        clear hK5 hD5
        go_wp2_with fail
        refine (listD w5 _ p _ HD5.out).mono ?_
        rintro e w6 ⟨vn, kn, rfl, hNn, hB6, hS6⟩
        obtain ⟨Bn, cn, rfl, _, _⟩ := hS6.shape
        have hkl : kn.length = L.length := hNn.len HD5.out.nodup
        have d40 : decide ((40 : Int) ≤ (kn.length : Int)) = true := by simp; omega
        have HB6 := Lib.hid (HB5.out.trans (hB6.mono HB5.out.size))
        clear hNn hB6 hS6 hkl
        go_wp2_with fail
        go_ret
        exact ⟨rfl, HB6.out⟩
      · have hc := appendD w4 _ (HX.out w4 HB4.out) (HT.out.below HB4.out HT.out.lt) p ⟨100000, L⟩ HD4.out sOwn s (by decide) (by omega)
        rw [app_new (room := 100000) (L := L) (s := s) own_name HM4.out (by omega) (by omega)] at hc
        have HC := Lib.hid hc
        clear hc
        go_wp2_with fail
        refine HC.out.mono ?_
        rintro e w5 ⟨rfl, hD5, hK5⟩
        have HB5 := Lib.hid (HB4.out.trans (below_notB hK5 HB4.out.size (fun _ h => h)))
        have HD5 := Lib.hid hD5
        clear hK5 hD5
        clear HC
        have hc := syncD w5 _ p _ HD5.out sOwn (by decide)
        rw [if_neg (by rw [find_last HM4.out]; simp), sync_last HM4.out] at hc
        have HC := Lib.hid hc
        clear hc
        go_wp2_with fail
        refine HC.out.mono ?_
        rintro e w6 ⟨rfl, hD6, hK6⟩
        have HB6 := Lib.hid (HB5.out.trans (below_notB hK6 HB5.out.size (fun _ h => h)))
        have HD6 := Lib.hid hD6
        clear hK6 hD6
        clear HC
        have hc := appendD w6 _ (HX.out w6 HB6.out) (HT.out.below HB6.out HT.out.lt) p _ HD6.out sOwn t (by decide) (by omega)
        rw [app_last (room := 100000) (L := L) (b := s) (s := t) own_name HM4.out (by omega)] at hc
        have HC := Lib.hid hc
        clear hc
        go_wp2_with fail
        refine HC.out.mono ?_
        rintro e w7 ⟨rfl, hD7, hK7⟩
        have HB7 := Lib.hid (HB6.out.trans (below_notB hK7 HB6.out.size (fun _ h => h)))
        have HD7 := Lib.hid hD7
        clear hK7 hD7
        clear HC HD4 HD5 HD6
        go_wp2_with fail
        refine (listD w7 _ p _ HD7.out).mono ?_
        rintro e w8 ⟨vn, kn, rfl, hNn, hB8, hS8⟩
        obtain ⟨Bn, cn, rfl, hcn1, hcn2⟩ := hS8.shape
        have hkl : kn.length = L.length + 1 := by rw [hNn.len HD7.out.nodup]; show (L ++ [_]).length = _; simp
        have HB8 := Lib.hid (HB7.out.trans (hB8.mono HB7.out.size))
        have HD8 := Lib.hid (HD7.out.fresh hB8)
        have HKL := Lib.hid hkl
        clear hNn hB8 hS8 hkl HD7 hcn2
        go_wp2_with fail
        refine (usedD w8 _ p _ HD8.out).mono ?_
        rintro e w9 ⟨rfl, rfl⟩
        rw [used_last]
        have hc := renameD w8 _ (HX.out w8 HB8.out) (HT.out.below HB8.out HT.out.lt) p _ HD8.out sOwn sOther (by decide) (by decide)
        rw [ren_last other_name HM4.out HN4.out own_ne] at hc
        have HC := Lib.hid hc
        clear hc
        go_wp2_with fail
        refine HC.out.mono ?_
        rintro e w10 ⟨rfl, hD10, hK10⟩
        have HB10 := Lib.hid (HB8.out.trans (below_notB hK10 HB8.out.size (fun _ h => h)))
        have HD10 := Lib.hid hD10
        clear hK10 hD10
        clear HC HD8
        have q1 := readD w10 _ p _ HD10.out sOwn (by decide)
        have q2 := readD w10 _ p _ HD10.out sOther (by decide)
        have q3 := syncedD w10 _ p _ HD10.out sOther (by decide)
        have q4 := usedD w10 _ p _ HD10.out
        rw [find_other HM4.out (fun e => own_ne e.symm)] at q1
        rw [find_last HN4.out] at q2 q3
        rw [used_last] at q4
        have Q1 := Lib.hid q1
        have Q2 := Lib.hid q2
        have Q3 := Lib.hid q3
        have Q4 := Lib.hid q4
        clear q1 q2 q3 q4
        go_wp2_with fail
        refine Q1.out.mono ?_
        rintro e w11 ⟨he, rfl⟩
        obtain rfl : e = .returned (.tuple #[.string ⟨#[]⟩, .int .i64 6]) := he
        go_wp2_with fail
        refine Q2.out.mono ?_
        rintro e w11 ⟨he, rfl⟩
        obtain rfl : e = .returned (.tuple #[.string (s ++ t), .int .i64 0]) := he
        have tb : ((s ++ t).toList == (s ++ t).toList) = true := by simp
        go_wp2_with fail
        refine Q3.out.mono ?_
        rintro e w11 ⟨he, rfl⟩
        obtain rfl : e = .returned (.int .i64 s.size) := he
        go_wp2_with fail
        refine Q4.out.mono ?_
        rintro e w11 ⟨rfl, rfl⟩
        go_wp2_with fail
        refine (listD w10 _ p _ HD10.out).mono ?_
        rintro e w11 ⟨vm, km, rfl, hNm, hB11, hS11⟩
        obtain ⟨Bm, cm, rfl, _, _⟩ := hS11.shape
        have hkm : km.length = kn.length := by rw [HKL.out, hNm.len HD10.out.nodup]; show (L ++ [_]).length = _; simp
        rw [hkm]
        have HB11 := Lib.hid (HB10.out.trans (hB11.mono HB10.out.size))
        have HD11 := Lib.hid (HD10.out.fresh hB11)
        clear hNm hB11 hS11 hkm Q1 Q2 Q3 Q4 HD10
        have hc := renameD w11 _ (HX.out w11 HB11.out) (HT.out.below HB11.out HT.out.lt) p _ HD11.out sOwn sThird (by decide) (by decide)
        rw [ren_none HM4.out (fun e => own_ne e.symm)] at hc
        have HC := Lib.hid hc
        clear hc
        go_wp2_with fail
        refine HC.out.mono ?_
        rintro e w12 ⟨rfl, hD12, hK12⟩
        have HB12 := Lib.hid (HB11.out.trans (below_notB hK12 HB11.out.size (fun _ h => h)))
        have HD12 := Lib.hid hD12
        clear hK12 hD12
        clear HC HD11
        have hc := renameD w12 _ (HX.out w12 HB12.out) (HT.out.below HB12.out HT.out.lt) p _ HD12.out sOther sOther (by decide) (by decide)
        rw [ren_self other_name HN4.out] at hc
        have HC := Lib.hid hc
        clear hc
        go_wp2_with fail
        refine HC.out.mono ?_
        rintro e w13 ⟨rfl, hD13, hK13⟩
        have HB13 := Lib.hid (HB12.out.trans (below_notB hK13 HB12.out.size (fun _ h => h)))
        have HD13 := Lib.hid hD13
        clear hK13 hD13
        clear HC HD12
        have q3 := syncedD w13 _ p _ HD13.out sOther (by decide)
        rw [find_last HN4.out] at q3
        have Q3 := Lib.hid q3
        clear q3
        go_wp2_with fail
        refine Q3.out.mono ?_
        rintro e w14 ⟨he, rfl⟩
        obtain rfl : e = .returned (.int .i64 s.size) := he
        go_wp2_with fail
        go_ret
        exact ⟨rfl, HB13.out⟩
end Go.Proofs.YtiphnobefigibaaDoor
