/- DiskTwice: what the statement's function does: it answers true. -/
import Derived.Test.YtiphnobefigibaaDoorDskK
namespace Go.Proofs.YtiphnobefigibaaDoor
open Go.RowKit Go.Bl
attribute [local go_sem ↓] Go.wp_at_zero Go.wp_at_succ

theorem DskAt.nodup {w : World} {p : Nat} {d : Dk} {F : Nat → Prop} (h : DskAt w p d F) : (d.L.map Fl.name).Nodup := by obtain ⟨bm, R, h⟩ := h; exact h.nodup
def DoneRel (w : World) (p : Nat) (room : Int) (n : Nat) (i : Value) (wr : World) : Prop :=
  ∃ (k : Nat) (d : Dk), k ≤ n ∧ i = .int .i64 k ∧ d.room = room ∧ d.used ≤ 500 * (k : Int) ∧ Dsk (fun q => q < w.heap.size) wr p d ∧ Below w.heap.size w wr

set_option maxRecDepth 8000 in
set_option maxHeartbeats 4000000 in
theorem twice_any (w : World) (hT : Tabs w) (G : Nat → Prop) (hG : ∀ k, G k → k < w.heap.size) (v : Value) (l : List Ac) (h : Acts w G v l) (ov : Value) (one : List Int) (ho : Sl w G 1 intc ov one) (tv : Value) (two : List Int) (ht : Sl w G 1 intc tv two) :
    Calls Tryd.prog 8 #[v, ov, tv] w fun e w' => e = .returned (.bool true) ∧ Below w.heap.size w w' := by
  obtain ⟨A, c, rfl, hA1, hA2⟩ := h.1.shape
  obtain ⟨A1, c1, rfl, hO1, hO2⟩ := ho.shape
  obtain ⟨A2, c2, rfl, hT1, hT2⟩ := ht.shape
  unfold maxLen at hA2 hO2 hT2
  have HT := Lib.hid hT
  have HA := Lib.hid h
  have HO := Lib.hid ho
  have HTT := Lib.hid ht
  clear hT h ho ht
  go_enter Tryd.func8, Tryd.ntmps8
  go_wp2_with fail
  refine (shown_any w HT.out).mono ?_
  rintro e w1 ⟨rfl, hB1⟩
  have HB1 := Lib.hid hB1
  have HA1 := Lib.hid (HA.out.keep (Keeps.of_fresh hB1 (fun k => w.heap.size ≤ k)) (fun k hk _ hx => by omega))
  clear hB1
  go_wp2_with fail
  refine (small_any w1 G _ l HA1.out).mono ?_
  rintro e w2 ⟨rfl, rfl⟩
  go_wp2_with fail
  refine (newD w1 (fun q => q < w.heap.size) (fun q hq => Nat.lt_of_lt_of_le hq HB1.out.size) 100000 (by decide) (by decide)).mono ?_
  rintro e w2 ⟨p, rfl, hD2, hB2⟩
  have HD2 := Lib.hid hD2
  have HB2 := Lib.hid (HB1.out.trans (hB2.mono HB1.out.size))
  clear hD2 hB2 HA1 HB1
  cases hsm : smallB l
  · go_wp2_with fail
    go_ret
    exact ⟨rfl, HB2.out⟩
  have H80 := Lib.hid (smallB_at hsm)
  by_cases ho60 : 60 < one.length
  · have d1 : decide ((60 : Int) < (one.length : Int)) = true := by simp; omega
    go_wp2_with fail
    go_ret
    exact ⟨rfl, HB2.out⟩
  have d1 : decide ((60 : Int) < (one.length : Int)) = false := by simp; omega
  by_cases ht60 : 60 < two.length
  · have d2 : decide ((60 : Int) < (two.length : Int)) = true := by simp; omega
    go_wp2_with fail
    go_ret
    exact ⟨rfl, HB2.out⟩
  have d2 : decide ((60 : Int) < (two.length : Int)) = false := by simp; omega
  go_wp2_with fail
  clear d1 d2
  go_loopw [11] (fun i wr => DoneRel w p 100000 l.length i wr) (fun i _ => l.length - (intOf i).toNat)
  case atStart => exact ⟨0, _, Nat.zero_le _, rfl, rfl, Int.le_refl _, HD2.out, HB2.out⟩
  case round =>
    obtain ⟨k, d, hk, rfl, hroom, hus, hD, hB⟩ := hrel
    have HD := Lib.hid hD
    have HB := Lib.hid hB
    have HR := Lib.hid hroom
    have HU := Lib.hid hus
    clear hD hB hroom hus HD2 HB2
    by_cases hlt : k < l.length
    · have hAr := HA.out.keep (Keeps.of_below HB.out) (fun q hq hg hx => by have := hG q hg; omega)
      have hl80 := H80.out.1
      obtain ⟨b, o, rfl, hGb, hbl, hxx⟩ := hAr.1.cell_ hlt
      obtain ⟨hkv, hop, hn1, hm1⟩ := hAr.2 l[k] (List.getElem_mem hlt)
      obtain ⟨B, dd, hkk, hB1, hB2⟩ := hkv.shape
      have x0 := hxx 0 _ rfl
      have x1 := hxx 1 _ rfl
      have x2 := hxx 2 _ rfl
      have x3 := hxx 3 _ rfl
      simp only [Nat.add_zero] at x0
      obtain ⟨t1, t2, t3⟩ := H80.out.2 l[k] (List.getElem_mem hlt)
      have hc := does_any wr (fun q => q < w.heap.size) (fun q hq => Nat.lt_of_lt_of_le hq HB.out.size) (HT.out.below HB.out HT.out.lt) p d HD.out l[k] ⟨hkv.mono (fun q _ hq => hG q hq), hop, hn1, hm1⟩ ⟨t1, t2⟩
      rw [hkk] at x3 hc
      have HC := Lib.hid hc
      clear hxx hkv hkk hc hAr
      go_wp2_with fail
      refine HC.out.mono ?_
      rintro e w3 ⟨r, d', ks, rfl, hdo, hN, hD3, hK3⟩
      have hB3 := HB.out.trans (below_notB hK3 HB.out.size (fun _ h => h))
      obtain ⟨e1, e2⟩ := does_used HD.out.nodup HD.out.ok hdo
      have hu0 := HU.out
      have HD3 := Lib.hid hD3
      have HB3 := Lib.hid hB3
      have HE := Lib.hid (⟨e1.trans HR.out, by omega⟩ : d'.room = 100000 ∧ d'.used ≤ 500 * ((k + 1 : Nat) : Int))
      clear hD3 hB3 hK3 hN hdo e1 e2 hu0 HC
      go_wp2_with fail
      go_roundw
      case rel => exact ⟨k + 1, d', hlt, by go_num, HE.out.1, HE.out.2, HD3.out, HB3.out⟩
      case measure => simp [intOf]; omega
    · have hkd : k = l.length := by omega
      subst hkd
      have HOr := Lib.hid (HO.out.keep (Keeps.of_below HB.out) (fun q hq hg hx => by have := hG q hg; omega))
      go_wp2_with fail
      refine (crashD wr (fun q => q < w.heap.size) p d HD.out _ one (HOr.out.mono (fun q _ hq => hG q hq))).mono ?_
      rintro e w3 ⟨rfl, ks, hN, hD3, hK3⟩
      have hwh := crash_whole (keep := one) (fun f hf => HD.out.ok.syn f hf) hN
      have hN3 : Names (crashN one ks d.L ks.length) ks := ⟨hN.1, fun s => by
        rw [hN.2]
        have := crashN_names one ks d.L ks.length
        constructor
        · rintro ⟨f, hf, rfl⟩
          have h1 : f.name ∈ (crashN one ks d.L ks.length).map Fl.name := by rw [this]; exact List.mem_map.2 ⟨f, hf, rfl⟩
          obtain ⟨g, hg, e⟩ := List.mem_map.1 h1
          exact ⟨g, hg, e⟩
        · rintro ⟨f, hf, rfl⟩
          have h1 : f.name ∈ d.L.map Fl.name := by rw [← this]; exact List.mem_map.2 ⟨f, hf, rfl⟩
          obtain ⟨g, hg, e⟩ := List.mem_map.1 h1
          exact ⟨g, hg, e⟩⟩
      obtain ⟨d3, hd3⟩ : ∃ d3 : Dk, (⟨d.room, crashN one ks d.L ks.length⟩ : Dk) = d3 := ⟨_, rfl⟩
      rw [show crashN one ks d.L ks.length = d3.L by rw [← hd3]] at hwh hN3
      rw [hd3] at hD3
      obtain ⟨F, hDF, hFX⟩ := hD3
      have HB3 := Lib.hid (HB.out.trans (below_notB hK3 HB.out.size (fun _ h => h)))
      have HDF := Lib.hid hDF
      have HWH := Lib.hid hwh
      have HN3 := Lib.hid hN3
      have HFX := Lib.hid hFX
      have HTr := Lib.hid (HTT.out.keep (Keeps.of_below HB3.out) (fun q hq hg hx => by have := hG q hg; omega))
      clear hDF hwh hN3 hN hK3 hFX hd3 HD HU HR HOr
      go_wp2_with fail
      refine (list_any w3 p d3 F HDF.out).mono ?_
      rintro e w4 ⟨vn, kn, rfl, hNn, hB4, hS4⟩
      obtain rfl := hNn.uniq HN3.out
      obtain ⟨Bn, cn, rfl, hn1, hn2⟩ := hS4.shape
      unfold maxLen at hn2
      have hS4 := hS4.bound
      have HD4 := Lib.hid (HDF.out.fresh hB4)
      have HS4 := Lib.hid hS4
      have HB4 := Lib.hid (HB3.out.trans (hB4.mono HB3.out.size))
      clear hNn hB4 hS4 HDF
      go_wp2_with fail
      refine (clone_any w4 p d3 F HD4.out).mono ?_
      rintro e w5 ⟨rfl, hB5, L', hL', hC5⟩
      have HD5 := Lib.hid (HD4.out.fresh hB5)
      have HC5 := Lib.hid hC5
      have HS5 := Lib.hid (HS4.out.fresh hB5)
      have HB5 := Lib.hid (HB4.out.trans (hB5.mono HB4.out.size))
      have HF4 := Lib.hid HD4.out.lt
      have HTr5 := Lib.hid (HTT.out.keep (Keeps.of_below HB5.out) (fun q hq hg hx => by have := hG q hg; omega))
      have HL' := Lib.hid hL'
      have hw4 := HB4.out.size
      clear hB5 hC5 hL' HTr HD4 HS4
      go_wp2_with fail
      have hc := crash_any w5 (w4.heap.size + 1) ⟨d3.room, L'⟩ (fun k => w4.heap.size ≤ k ∧ k < w5.heap.size) G HC5.out (.slice A2 two.length c2) two HTr5.out (fun q hq hx => by have := hG q hq; omega)
      refine hc.mono ?_
      clear hc
      rintro e w6 ⟨rfl, hK6, ks6, hN6, hC6⟩
      rw [crashN_again (show Whole L' from fun f hf => HWH.out f (HL'.out.mem_iff.1 hf))] at hC6
      have HC6 := Lib.hid hC6
      have HD6 := Lib.hid (HD5.out.keep hK6 (fun q hq hx => by have := HF4.out q hq; omega))
      have HS6 := Lib.hid (HS5.out.keep hK6 (fun q _ hq hx => by have := hq.2; omega))
      have HB6 := Lib.hid (Below.keep HB5.out hK6 HB5.out.size (fun q hq => by omega))
      obtain ⟨pc, hpc⟩ : ∃ pc, w4.heap.size + 1 = pc := ⟨_, rfl⟩
      rw [hpc] at HC6 ⊢
      clear hK6 hN6 hC6 HC5 HD5 HS5 hpc
      have hk40 : kn.length ≤ 40 := by rw [HN3.out.len HD6.out.nodup]; exact HD6.out.ok.len
      go_wp2_with fail
      go_loop [14, 15, 16, 17, 18] (fun i _ _ _ _ => ∃ j : Nat, j ≤ kn.length ∧ i = .int .i64 j) (fun i _ _ _ _ => kn.length - (intOf i).toNat)
      case atStart => exact ⟨0, Nat.zero_le _, rfl⟩
      case round =>
        obtain ⟨j, hj, rfl⟩ := hrel
        by_cases hjt : j < kn.length
        · obtain ⟨bn, on, rfl, _, _, hyy⟩ := HS6.out.cell_ hjt
          have y0 := hyy 0 _ rfl
          simp only [Nat.mul_one, Nat.add_zero] at y0
          clear hyy
          obtain ⟨f, hfL, hfx⟩ := (HN3.out.2 _).1 (List.getElem_mem hjt)
          have hnm := HD6.out.ok.nms f hfL
          have hfi := find_mem HD6.out.nodup hfL
          have hfi2 : (⟨d3.room, L'⟩ : Dk).find f.name = some f := by rw [find_perm HL'.out HD6.out.nodup]; exact hfi
          have hsyn := HWH.out f hfL
          have q1 := read_any w6 p d3 F HD6.out f.name (by unfold maxLen; omega)
          have q2 := read_any w6 pc _ _ HC6.out f.name (by unfold maxLen; omega)
          have q3 := synced_any w6 pc _ _ HC6.out f.name (by unfold maxLen; omega)
          have q4 := synced_any w6 p d3 F HD6.out f.name (by unfold maxLen; omega)
          rw [hfi] at q1 q4
          rw [hfi2] at q2 q3
          rw [hfx] at q1 q2 q3 q4
          have Q1 := Lib.hid q1
          have Q2 := Lib.hid q2
          have Q3 := Lib.hid q3
          have Q4 := Lib.hid q4
          have hbs : f.bytes.size ≤ 1073741824 := by have h1 := total_mem hfL; have h2 : (total d3.L : Int) ≤ d3.room := HD6.out.ok.used; have h3 := HD6.out.ok.room2; omega
          have tb : (f.bytes.toList != f.bytes.toList) = false := by simp
          have ts : (f.syn != (f.bytes.size : Int)) = false := by simp [hsyn]
          clear q1 q2 q3 q4 hfi hfi2 hnm
          go_wp2_with fail
          refine Q1.out.mono ?_
          rintro e w7 ⟨he, rfl⟩
          obtain rfl : e = .returned (.tuple #[.string f.bytes, .int .i64 0]) := he
          go_wp2_with fail
          refine Q2.out.mono ?_
          rintro e w7 ⟨he, rfl⟩
          obtain rfl : e = .returned (.tuple #[.string f.bytes, .int .i64 0]) := he
          go_wp2_with fail
          refine Q3.out.mono ?_
          rintro e w7 ⟨he, rfl⟩
          obtain rfl : e = .returned (.int .i64 f.syn) := he
          go_wp2_with fail
          refine Q4.out.mono ?_
          rintro e w7 ⟨he, rfl⟩
          obtain rfl : e = .returned (.int .i64 f.syn) := he
          go_wp2_with fail
          go_round
          case rel => exact ⟨j + 1, hjt, by go_num⟩
          case measure => simp [intOf]; omega
        · have hjd : j = kn.length := by omega
          subst hjd
          go_wp2_with fail
          refine (list_any w6 pc _ _ HC6.out).mono ?_
          rintro e w7 ⟨vm, km, rfl, hNm, hB7, hS7⟩
          obtain rfl := hNm.uniq (HN3.out.perm HL'.out)
          obtain ⟨Bm, cm, rfl, _, _⟩ := hS7.shape
          have HC7 := Lib.hid (HC6.out.fresh hB7)
          have HD7 := Lib.hid (HD6.out.fresh hB7)
          have HB7 := Lib.hid (HB6.out.trans (hB7.mono HB6.out.size))
          have hu : (⟨d3.room, L'⟩ : Dk).used = d3.used := by show (total L' : Int) = (total d3.L : Int); rw [total_perm HL'.out]
          have HU := Lib.hid hu
          clear hNm hB7 hS7 hu
          go_wp2_with fail
          refine (used_any w7 pc _ _ HC7.out).mono ?_
          rintro e w8 ⟨rfl, rfl⟩
          rw [HU.out]
          go_wp2_with fail
          refine (used_any w7 p _ _ HD7.out).mono ?_
          rintro e w8 ⟨rfl, rfl⟩
          go_wp2_with fail
          go_ret
          exact ⟨rfl, HB7.out⟩
end Go.Proofs.YtiphnobefigibaaDoor
