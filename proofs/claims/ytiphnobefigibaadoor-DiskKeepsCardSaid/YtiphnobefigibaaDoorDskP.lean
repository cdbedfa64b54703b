/- DiskKeeps: what the statement's function does: it answers true. -/
import Derived.Test.YtiphnobefigibaaDoorDskL
import Derived.Test.YtiphnobefigibaaDoorDskM
namespace Go.Proofs.YtiphnobefigibaaDoor
open Go.RowKit Go.Bl
attribute [local go_sem ↓] Go.wp_at_zero Go.wp_at_succ

theorem infoInt : (Tryd.prog.info? 3).map (fun i => (i.zero, i.size, i.bytes)) = some (some (.int .i64 0), 1, 8) := by kernel_rfl
theorem make_ints (w : World) (n : Nat) (hn : n ≤ 1000000) : ∃ w', (Instr.makeSlice 22 (.int .i64 n) (.int .i64 n)).run Tryd.prog w = .ok (.slice (some ⟨w.heap.size, 0, none⟩) n n) w' ∧ Below w.heap.size w w' ∧ w'.heap.size = w.heap.size + 1 ∧
    w'.heap[w.heap.size]? = some (.cells (List.replicate n (Value.int .i64 0)).toArray 3 (0, 0)) := by
  obtain ⟨i, hi, h1, h2, h3⟩ := info_parts infoInt
  have hr := run_make (P := Tryd.prog) w 22 3 i (.int .i64 0) Tryd.underlying22 hi h1 .i64 .i64 n n (by omega) (Int.le_refl _) (by rw [h3]; omega) (by omega)
  rw [h2, Nat.mul_one, Int.toNat_natCast] at hr
  refine ⟨_, hr, (Below.refl _ w).alloc (Nat.le_refl _) _, World.size_alloc _ _, ?_⟩
  rw [heap_alloc_new]
  have : madeCells (Value.int .i64 0).cells n = (List.replicate n (Value.int .i64 0)).toArray := by
    apply Array.ext'
    show (madeCells #[Value.int .i64 0] n).toList = _
    rw [toList_madeCells_one]
  rw [this]
def fillV (n k : Nat) (x : Int) : List Value := List.replicate k (Value.int .i64 x) ++ List.replicate (n - k) (Value.int .i64 0)
theorem fillV_len {n k : Nat} (h : k ≤ n) (x : Int) : (fillV n k x).length = n := by simp [fillV]; omega
theorem fillV_set {n k : Nat} (h : k < n) (x : Int) : (fillV n k x).set k (.int .i64 x) = fillV n (k + 1) x := by
  unfold fillV
  rw [List.set_append_right _ _ (by simp), List.length_replicate, Nat.sub_self, List.replicate_succ', List.append_assoc, show n - k = (n - (k + 1)) + 1 by omega, List.replicate_succ]
  rfl

def FillRel (w5 : World) (g n : Nat) (x : Int) (i : Value) (wr : World) : Prop :=
  ∃ k : Nat, k ≤ n ∧ i = .int .i64 k ∧ wr.heap[g]? = some (.cells (fillV n k x).toArray 3 (0, 0)) ∧ Keeps (fun q => q = g) w5 wr

set_option maxRecDepth 8000 in
set_option maxHeartbeats 4000000 in
theorem keeps_any (w : World) (hT : Tabs w) (G : Nat → Prop) (hG : ∀ k, G k → k < w.heap.size) (v : Value) (l : List Ac) (h : Acts w G v l) (s t : ByteArray) (kp : Int) :
    Calls Tryd.prog 5 #[v, .string s, .string t, .int .i64 kp] w fun e w' => e = .returned (.bool true) ∧ Below w.heap.size w w' := by
  obtain ⟨A, c, rfl, hA1, hA2⟩ := h.1.shape
  unfold maxLen at hA2
  have hmx := @run_gmax Tryd.prog
  have hmn := @run_gmin Tryd.prog
  have HT := Lib.hid hT
  have HA := Lib.hid h
  clear hT h
  go_enter Tryd.func5, Tryd.ntmps5
  go_wp2_with fail
  refine (shown_any w HT.out).mono ?_
  rintro e w1 ⟨rfl, hB1⟩
  have HB1 := Lib.hid hB1
  have HA1 := Lib.hid (HA.out.keep (Keeps.of_fresh hB1 (fun k => w.heap.size ≤ k)) (fun k hk _ hx => by omega))
  clear hB1
  go_wp2_with fail
  refine (small_any w1 G _ l HA1.out).mono ?_
  rintro e w2 ⟨rfl, rfl⟩
  go_wp2_with fail
  refine (newD w1 (fun q => q < w.heap.size) (fun q hq => Nat.lt_of_lt_of_le hq HB1.out.size) 100000 (by decide) (by decide)).mono ?_
  rintro e w2 ⟨p, rfl, hD2, hB2⟩
  have HD2 := Lib.hid hD2
  have HB2 := Lib.hid (HB1.out.trans (hB2.mono HB1.out.size))
  clear hD2 hB2 HA1 HB1
  cases hsm : smallB l
  · go_wp2_with fail
    go_ret
    exact ⟨rfl, HB2.out⟩
  have H80 := Lib.hid (smallB_at hsm)
  by_cases hs5 : 500 < s.size
  · have d1 : decide ((500 : Int) < (s.size : Int)) = true := by simp; omega
    go_wp2_with fail
    go_ret
    exact ⟨rfl, HB2.out⟩
  have d1 : decide ((500 : Int) < (s.size : Int)) = false := by simp; omega
  by_cases ht5 : 500 < t.size
  · have d2 : decide ((500 : Int) < (t.size : Int)) = true := by simp; omega
    go_wp2_with fail
    go_ret
    exact ⟨rfl, HB2.out⟩
  have d2 : decide ((500 : Int) < (t.size : Int)) = false := by simp; omega
  go_wp2_with fail
  clear d1 d2
  go_loopw [13] (fun i wr => DoneRel w p 100000 l.length i wr) (fun i _ => l.length - (intOf i).toNat)
  case atStart => exact ⟨0, _, Nat.zero_le _, rfl, rfl, Int.le_refl _, HD2.out, HB2.out⟩
  case round =>
    obtain ⟨k, d, hk, rfl, hroom, hus, hD, hB⟩ := hrel
    have HD := Lib.hid hD
    have HB := Lib.hid hB
    have HR := Lib.hid hroom
    have HU := Lib.hid hus
    clear hD hB hroom hus HD2 HB2
    by_cases hlt : k < l.length
    · have hAr := HA.out.keep (Keeps.of_below HB.out) (fun q hq hg hx => by have := hG q hg; omega)
      have hl80 := H80.out.1
      obtain ⟨b, o, rfl, hGb, hbl, hxx⟩ := hAr.1.cell_ hlt
      obtain ⟨hkv, hop, hn1, hm1⟩ := hAr.2 l[k] (List.getElem_mem hlt)
      obtain ⟨B, dd, hkk, hB1, hB2⟩ := hkv.shape
      have x0 := hxx 0 _ rfl
      have x1 := hxx 1 _ rfl
      have x2 := hxx 2 _ rfl
      have x3 := hxx 3 _ rfl
      simp only [Nat.add_zero] at x0
      obtain ⟨t1, t2, t3⟩ := H80.out.2 l[k] (List.getElem_mem hlt)
      have hc := does_any wr (fun q => q < w.heap.size) (fun q hq => Nat.lt_of_lt_of_le hq HB.out.size) (HT.out.below HB.out HT.out.lt) p d HD.out l[k] ⟨hkv.mono (fun q _ hq => hG q hq), hop, hn1, hm1⟩ ⟨t1, t2⟩
      rw [hkk] at x3 hc
      have HC := Lib.hid hc
      clear hxx hkv hkk hc hAr
      go_wp2_with fail
      refine HC.out.mono ?_
      rintro e w3 ⟨r, d', ks, rfl, hdo, hN, hD3, hK3⟩
      have hB3 := HB.out.trans (below_notB hK3 HB.out.size (fun _ h => h))
      obtain ⟨e1, e2⟩ := does_used HD.out.nodup HD.out.ok hdo
      have hu0 := HU.out
      have HD3 := Lib.hid hD3
      have HB3 := Lib.hid hB3
      have HE := Lib.hid (⟨e1.trans HR.out, by omega⟩ : d'.room = 100000 ∧ d'.used ≤ 500 * ((k + 1 : Nat) : Int))
      clear hD3 hB3 hK3 hN hdo e1 e2 hu0 HC
      go_wp2_with fail
      go_roundw
      case rel => exact ⟨k + 1, d', hlt, by go_num, HE.out.1, HE.out.2, HD3.out, HB3.out⟩
      case measure => simp [intOf]; omega
    · have hkd : k = l.length := by omega
      subst hkd
      -- the acts on the own file
      have hl80 := H80.out.1
      have HX : ∀ wz : World, Below w.heap.size w wz → ∀ q, q < w.heap.size → q < wz.heap.size := fun wz hz q hq => Nat.lt_of_lt_of_le hq hz.size
      have HX := Lib.hid HX
      have hus := HU.out
      go_wp2_with fail
      refine (crashD wr (fun q => q < w.heap.size) p d HD.out (.slice none 0 0) [] (Sl.nil_ _ _ _ _)).mono ?_
      rintro e w3 ⟨rfl, ks, hN, hD3, hK3⟩
      have hwh := crash_whole (keep := []) (fun f hf => HD.out.ok.syn f hf) hN
      have hle := crashN_le (keep := []) (ks := ks) (fun f hf => HD.out.ok.syn f hf) ks.length
      obtain ⟨L3, hL3⟩ : ∃ L3, crashN [] ks d.L ks.length = L3 := ⟨_, rfl⟩
      rw [hL3] at hD3 hwh hle
      rw [HR.out] at hD3
      have hle3 : (total L3 : Int) ≤ 40000 := by unfold Dk.used at hus; omega
      have HB3 := Lib.hid (HB.out.trans (below_notB hK3 HB.out.size (fun _ h => h)))
      have HD3 := Lib.hid hD3
      have HW3 := Lib.hid hwh
      clear hK3 hD3 hN hwh hle hL3 hus
      go_wp2_with fail
      refine (deleteD w3 (fun q => q < w.heap.size) p _ HD3.out ⟨#[111, 119, 110]⟩ (by decide)).mono ?_
      rintro e w4 ⟨he, hD4, hK4⟩
      obtain ⟨ev, hev⟩ : ∃ ev : Int, (if (⟨100000, L3⟩ : Dk).find ⟨#[111, 119, 110]⟩ = none then (6 : Int) else 0) = ev := ⟨_, rfl⟩
      rw [hev] at he
      subst he
      clear hev
      have hu4 := del_le ⟨100000, L3⟩ ⟨#[111, 119, 110]⟩
      have hm4 : ∀ f ∈ ((⟨100000, L3⟩ : Dk).del ⟨#[111, 119, 110]⟩).L, f.name ≠ sOwn := fun f hf => of_decide_eq_true (List.mem_filter.1 hf).2
      have hw4 : Whole ((⟨100000, L3⟩ : Dk).del ⟨#[111, 119, 110]⟩).L := fun f hf => HW3.out f (List.mem_filter.1 hf).1
      obtain ⟨L, hL⟩ : ∃ L, (⟨100000, L3⟩ : Dk).del ⟨#[111, 119, 110]⟩ = ⟨100000, L⟩ := ⟨_, rfl⟩
      rw [hL] at hD4 hu4 hm4 hw4
      have hU4 : (total L : Int) ≤ 40000 := by
        have h1 : (total L : Int) ≤ (total L3 : Int) := hu4
        omega
      have hOK := hD4.ok.len
      have HB4 := Lib.hid (HB3.out.trans (below_notB hK4 HB3.out.size (fun _ h => h)))
      have HD4 := Lib.hid hD4
      clear hK4 hD4
      have HM4 := Lib.hid hm4
      have HW4 := Lib.hid hw4
      clear hm4 hL HD3 HD hw4 hu4 hle3 HW3
      by_cases h40 : 40 ≤ L.length
      · have hc := appendD w4 _ (HX.out w4 HB4.out) (HT.out.below HB4.out HT.out.lt) p ⟨100000, L⟩ HD4.out sOwn s (by decide) (by omega)
        rw [app_long own_name HM4.out h40] at hc
        have HC := Lib.hid hc
        clear hc
        go_wp2_with fail
        refine HC.out.mono ?_
        rintro e w5 ⟨rfl, hD5, hK5⟩
        have HB5 := Lib.hid (HB4.out.trans (below_notB hK5 HB4.out.size (fun _ h => h)))
        have HD5 := Lib.hid hD5
        clear hK5 hD5
        go_wp2_with fail
        refine (listD w5 _ p _ HD5.out).mono ?_
        rintro e w6 ⟨vn, kn, rfl, hNn, hB6, hS6⟩
        obtain ⟨Bn, cn, rfl, _, _⟩ := hS6.shape
        have hkl : kn.length = L.length := hNn.len HD5.out.nodup
        have d40 : decide ((40 : Int) ≤ (kn.length : Int)) = true := by simp; omega
        have HB6 := Lib.hid (HB5.out.trans (hB6.mono HB5.out.size))
        clear hNn hB6 hS6 hkl
        go_wp2_with fail
        go_ret
        exact ⟨rfl, HB6.out⟩
      · have hc := appendD w4 _ (HX.out w4 HB4.out) (HT.out.below HB4.out HT.out.lt) p ⟨100000, L⟩ HD4.out sOwn s (by decide) (by omega)
        rw [app_new (room := 100000) (L := L) (s := s) own_name HM4.out (by omega) (by omega)] at hc
        have HC := Lib.hid hc
        clear hc
        go_wp2_with fail
        refine HC.out.mono ?_
        rintro e w5 ⟨rfl, hD5, hK5⟩
        have HB5 := Lib.hid (HB4.out.trans (below_notB hK5 HB4.out.size (fun _ h => h)))
        have HD5 := Lib.hid hD5
        clear hK5 hD5
        clear HC
        have hc := syncD w5 _ p _ HD5.out sOwn (by decide)
        rw [if_neg (by rw [find_last HM4.out]; simp), sync_last HM4.out] at hc
        have HC := Lib.hid hc
        clear hc
        go_wp2_with fail
        refine HC.out.mono ?_
        rintro e w6 ⟨rfl, hD6, hK6⟩
        have HB6 := Lib.hid (HB5.out.trans (below_notB hK6 HB5.out.size (fun _ h => h)))
        have HD6 := Lib.hid hD6
        clear hK6 hD6
        clear HC
        have hc := appendD w6 _ (HX.out w6 HB6.out) (HT.out.below HB6.out HT.out.lt) p _ HD6.out sOwn t (by decide) (by omega)
        rw [app_last (room := 100000) (L := L) (b := s) (s := t) own_name HM4.out (by omega)] at hc
        have HC := Lib.hid hc
        clear hc
        go_wp2_with fail
        refine HC.out.mono ?_
        rintro e w7 ⟨rfl, hD7, hK7⟩
        have HB7 := Lib.hid (HB6.out.trans (below_notB hK7 HB6.out.size (fun _ h => h)))
        have HD7 := Lib.hid hD7
        clear hK7 hD7
        clear HC HD4 HD5 HD6
        go_wp2_with fail
        refine (listD w7 _ p _ HD7.out).mono ?_
        rintro e w8 ⟨vn, kn, rfl, hNn, hB8, hS8⟩
        obtain ⟨Bn, cn, rfl, hcn1, hcn2⟩ := hS8.shape
        unfold maxLen at hcn2
        have hkl : kn.length = L.length + 1 := by rw [hNn.len HD7.out.nodup]; show (L ++ [_]).length = _; simp
        have HB8 := Lib.hid (HB7.out.trans (hB8.mono HB7.out.size))
        have HD8 := Lib.hid (HD7.out.fresh hB8)
        have HNN := Lib.hid hNn
        have hk40 : kn.length ≤ 40 := by omega
        have HKL := Lib.hid hkl
        clear hNn hB8 hS8 hkl HD7
        obtain ⟨w9, hrun, hB9, hz9, hblk9⟩ := make_ints w8 kn.length (by omega)
        have HB9 := Lib.hid (HB8.out.trans (hB9.mono HB8.out.size))
        have hpl8 := HD8.out.plt
        obtain ⟨F, hDF, hFX⟩ := HD8.out
        have HFl := Lib.hid hDF.lt
        have HFX := Lib.hid hFX
        have HDF := Lib.hid (hDF.fresh hB9)
        have HBL9 := Lib.hid hblk9
        have HZ9 := Lib.hid hz9
        clear hB9 hz9 hblk9 hDF hFX HD8
        obtain ⟨g, hg⟩ : ∃ g, w8.heap.size = g := ⟨_, rfl⟩
        rw [hg] at hrun HBL9 HFl HZ9
        have hgw : w.heap.size ≤ g := by rw [← hg]; exact HB8.out.size
        clear hpl8 hg
        go_wp2_with fail
        go_loopw [16] (fun i wr => FillRel w9 g kn.length kp i wr) (fun i _ => kn.length - (intOf i).toNat)
        case atStart =>
          refine ⟨0, Nat.zero_le _, rfl, ?_, Keeps.refl _ _⟩
          have := HBL9.out
          simpa [fillV] using this
        case round =>
          obtain ⟨j, hj, rfl, hblk, hkw⟩ := hrel
          have HBL := Lib.hid hblk
          have HKW := Lib.hid hkw
          by_cases hjt : j < kn.length
          · have hcell : ∃ u, wr.cell? ⟨g, j, none⟩ = some u := by
              rw [cell_of_row wr g j _ _ _ hblk]
              have hl : j < (fillV kn.length j kp).length := by rw [fillV_len hj]; exact hjt
              exact ⟨_, by simp [hl]; rfl⟩
            obtain ⟨u0, y0⟩ := hcell
            have f0 : wr.frozen? ⟨g, j, none⟩ = false := frozen_block hblk j
            clear hblk hkw HBL9 HDF
            go_wp2_with fail
            go_roundw
            case rel =>
              refine ⟨j + 1, hjt, by go_num, ?_, HKW.out.trans (Keeps.one wr g j (.int .i64 kp))⟩
              have h1 := setCell_block (o := j) HBL.out (.int .i64 kp)
              rw [← fillV_set hjt kp]
              simpa using h1
            case measure => simp [intOf]; omega
          · have hjd : j = kn.length := by omega
            subst hjd
            have hDr := HDF.out.keep hkw (fun q hq e => by have := HFl.out q hq; omega)
            have HDr := Lib.hid hDr
            have hBr := HB9.out.trans (hkw.below HB9.out.size (fun q e => by omega))
            have HBr := Lib.hid hBr
            have hint : Sl wr (fun q => q = g) 1 intc (.slice (some ⟨g, 0, none⟩) kn.length kn.length) (List.replicate kn.length kp) := by
              refine ⟨_, _, by rw [List.length_replicate], by simp, by unfold maxLen; omega, fun _ => ⟨g, 0, rfl, rfl, (Array.getElem?_eq_some_iff.1 hblk).1, fun i hi q u hu => ?_⟩⟩
              rw [List.length_replicate] at hi
              have hq0 : q = 0 := by
                have := (List.getElem?_eq_some_iff.1 hu).1
                simpa [intc] using this
              subst hq0
              simp only [List.getElem_replicate, intc, List.getElem?_cons_zero, Option.some.injEq] at hu
              subst hu
              rw [cell_of_row wr g _ _ _ _ hblk]
              simp [fillV, hi]
            have HINT := Lib.hid hint
            clear hblk hkw hDr hBr hint HDF HBL
            go_wp2_with fail
            refine (used_any wr p _ F HDr.out).mono ?_
            rintro e w10 ⟨rfl, rfl⟩
            rw [used_last]
            have hc := crash_any wr p _ F (fun q => q = g) HDr.out _ _ HINT.out (fun q e hf => by have := HFl.out q hf; omega)
            have HC := Lib.hid hc
            clear hc
            go_wp2_with fail
            refine HC.out.mono ?_
            rintro e w10 ⟨rfl, hK10, ks2, hN2, hD10⟩
            obtain rfl := hN2.uniq HNN.out
            obtain ⟨m, hm⟩ : ∃ m : Int, gmax kp 0 = m := ⟨_, rfl⟩
            have hm0 : 0 ≤ m := by rw [← hm]; unfold gmax; omega
            have hk0 : ∀ i, i < ks2.length → keepOf (List.replicate ks2.length kp) i = m := fun i hi => by
              rw [← keepOf_in (keep := List.replicate ks2.length kp) (i := i) (by simpa using hi), List.getElem_replicate, hm]
            have hcr := crash_last (x := sOwn) (b := s ++ t) (σ := (s.size : Int)) (room := 100000) HW4.out HM4.out hN2.1 hk0 hm0 ks2.length (Nat.le_refl _)
            have hmem : amid (ks2.take ks2.length) sOwn = true := by
              rw [List.take_length, amid_iff, hN2.2]
              exact ⟨⟨sOwn, s ++ t, s.size⟩, List.mem_append_right _ (List.mem_singleton.2 rfl), rfl⟩
            rw [if_pos hmem] at hcr
            rw [hcr] at hD10
            obtain ⟨K, hK⟩ : ∃ K : Nat, cutK m ⟨sOwn, s ++ t, (s.size : Int)⟩ = (K : Int) := ⟨(cutK m ⟨sOwn, s ++ t, (s.size : Int)⟩).toNat, by
              have := cutK_in (f := ⟨sOwn, s ++ t, (s.size : Int)⟩) hm0 ⟨by show (0 : Int) ≤ (s.size : Int); omega, by show (s.size : Int) ≤ ((s ++ t).size : Int); rw [ByteArray.size_append]; omega⟩
              have h2 : (s.size : Int) ≤ cutK m ⟨sOwn, s ++ t, (s.size : Int)⟩ := this.1
              omega⟩
            have hKd : (K : Int) = (s.size : Int) + gmin m (t.size : Int) := by
              rw [← hK]
              show (s.size : Int) + gmin m (((s ++ t).size : Int) - (s.size : Int)) = _
              rw [ByteArray.size_append]
              congr 2
              omega
            have hcf : cutF m ⟨sOwn, s ++ t, (s.size : Int)⟩ = ⟨sOwn, (s ++ t).extract 0 K, (K : Int)⟩ := by
              unfold cutF
              rw [hK]
              rfl
            rw [hcf] at hD10
            have hKn : K ≤ (s ++ t).size := by rw [ByteArray.size_append]; unfold gmin at hKd; omega
            have hKsz := extract_size (s ++ t) hKn
            have hgm : (s.size : Int) + gmax 0 (gmin kp (t.size : Int)) = (K : Int) := by rw [hKd, ← hm]; unfold gmax gmin; omega
            have hst : (s ++ t).size = s.size + t.size := ByteArray.size_append
            have HD10 : Hid (DskAt w10 p (dkL 100000 L sOwn ((s ++ t).extract 0 K) K) F) := Lib.hid hD10
            have HB10 := Lib.hid (HBr.out.trans (hK10.below HBr.out.size (fun q hq => by have := HFX.out q hq; omega)))
            have q1 := read_any w10 p _ F HD10.out sOwn (by decide)
            have q2 := synced_any w10 p _ F HD10.out sOwn (by decide)
            have q3 := used_any w10 p _ F HD10.out
            rw [find_last HM4.out] at q1 q2
            rw [used_last, hKsz] at q3
            have Q1 := Lib.hid q1
            have Q2 := Lib.hid q2
            have Q3 := Lib.hid q3
            clear q1 q2 q3 hcf hcr hmem hk0 hD10 hK10 hN2 HC HINT HDr hK hm hKd
            have tu : ((total L : Int) + (K : Int) == (total L : Int) + ((s.size : Int) + (t.size : Int)) - (s.size : Int) - (t.size : Int) + (K : Int)) = true := by rw [beq_iff_eq]; omega
            have tb : (((s ++ t).extract 0 K).toList == ((s ++ t).extract 0 K).toList) = true := by simp
            go_wp2_with fail
            refine Q1.out.mono ?_
            rintro e w11 ⟨he, rfl⟩
            obtain rfl : e = .returned (.tuple #[.string ((s ++ t).extract 0 K), .int .i64 0]) := he
            go_wp2_with fail
            refine Q2.out.mono ?_
            rintro e w11 ⟨he, rfl⟩
            obtain rfl : e = .returned (.int .i64 K) := he
            go_wp2_with fail
            refine Q3.out.mono ?_
            rintro e w11 ⟨rfl, rfl⟩
            go_wp2_with fail
            go_ret
            exact ⟨rfl, HB10.out⟩
end Go.Proofs.YtiphnobefigibaaDoor
