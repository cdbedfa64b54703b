/- ManifestKeeps: the walk. Under the stated premises on sizes. -/
import Derived.Test.YthdehdlbocgfaaaDoorManK
import Derived.Test.YthdehdlbocgfaaaDoorSameI
import Derived.StillTailTactics
namespace Go.Proofs.YthdehdlbocgfaaaDoor
open Go.RowKit Go.Bl
attribute [local go_sem ↓] Go.wp_at_zero Go.wp_at_succ

set_option maxRecDepth 100000 in
set_option maxHeartbeats 8000000 in
theorem keeps_law (w : World) (hT : Tabs w) (room : Int) (hro : i64 room) (v kv : Value) (l : List (Value × List Int)) (keep : List Int) (h : Sl w (fun k => k < w.heap.size) 1 (fun p : Value × List Int => [p.1]) v l)
    (hl : ∀ p ∈ l, Sl w (fun k => k < w.heap.size) 1 intc p.1 p.2 ∧ ∀ x ∈ p.2, i64 x) (hk : Sl w (fun k => k < w.heap.size) 1 intc kv keep) :
    Calls Tryd.prog 4 #[.int .i64 room, v, kv] w fun e w' => e = .returned (.bool true) ∧ Below w.heap.size w w' := by
  obtain ⟨A, c, rfl, hA1, hA2⟩ := h.shape
  obtain ⟨A', c', rfl, hA1', hA2'⟩ := hk.shape
  unfold maxLen at hA2 hA2'
  have HT := Lib.hid hT
  have HS := Lib.hid h
  have HK := Lib.hid hk
  have HL := Lib.hid hl
  have HRO := Lib.hid hro
  clear hT h hk hl hro
  go_enter Tryd.func4, Tryd.ntmps4
  go_wp2_with fail
  refine (shown_any w HT.out).mono ?_
  rintro e w1 ⟨rfl, hB1⟩
  have HB1 := Lib.hid hB1
  clear hB1
  go_wp2_with fail
  refine (pick_any w1 room 500 HRO.out (by decide)).mono ?_
  rintro e w1' ⟨rfl, rfl⟩
  have hr := pickOf_range room (n := 500) (by decide)
  obtain ⟨r, hr3⟩ : ∃ r, pickOf room 500 = r := ⟨_, rfl⟩
  rw [hr3] at hr ⊢
  obtain ⟨hr1, hr2⟩ := hr
  clear hr3
  go_wp2_with fail
  refine (begunQ (HT.out.fresh HB1.out) (30 + r) (by omega) (by omega)).mono ?_
  rintro e w2 ⟨p, pm, rfl, hQ, hB⟩
  have hP := Pr.begin (w0 := w) (pm := pm) (hQ.more (X' := fun k => k < w.heap.size) (Below.refl _ _) (fun k hk => .inl (Nat.lt_of_lt_of_le hk HB1.out.size)) (fun k hk => by have := HB1.out.size; have := hB.size; omega) (fun k hk => Nat.lt_of_lt_of_le hk HT.out.lt)) (HB1.out.trans (hB.mono HB1.out.size))
  obtain ⟨b, hb⟩ : ∃ b, w2.heap.size = b := ⟨_, rfl⟩
  rw [hb] at hP
  have HP := Lib.hid hP
  have HBW := Lib.hid hb
  clear hQ hB hP hb
  by_cases h1 : 30 < l.length
  · have d1 : decide ((30 : Int) < (l.length : Int)) = true := by simp; omega
    go_wp2_with fail
    go_ret
    exact ⟨rfl, HP.out.past⟩
  have d1 : decide ((30 : Int) < (l.length : Int)) = false := by simp; omega
  by_cases h2 : 30 < keep.length
  · have d2 : decide ((30 : Int) < (keep.length : Int)) = true := by simp; omega
    go_wp2_with fail
    go_ret
    exact ⟨rfl, HP.out.past⟩
  have d2 : decide ((30 : Int) < (keep.length : Int)) = false := by simp; omega
  clear h1 h2
  go_upto_region 5 with (fail)
  rw [HBW.out]
  generalize w2.alloc (.cells #[.pointer (some ⟨p, 0, none⟩), .pointer (some ⟨pm, 0, none⟩)] 27) = w3 at HP ⊢
  clear d1 d2 HBW
  have h3 := Kp.begin HP.out HT.out.lt
  obtain ⟨bn, hbn⟩ : ∃ bn, w3.heap.size = bn := ⟨_, rfl⟩
  rw [hbn] at h3
  have H3 := Lib.hid h3
  have HBN := Lib.hid hbn
  clear h3 HP hbn
  go_upto_region 6 with (fail)
  rw [HBN.out]
  generalize w3.alloc (.cells #[.int .i64 1, .slice none 0 0] 39) = w4 at H3 ⊢
  clear HBN
  have hKD : KpD ⟨30 + r, []⟩ 1 [] := ⟨fun f hf => (List.not_mem_nil hf).elim, .inl ⟨rfl, rfl, rfl⟩⟩
  go_wp2_with fail
  go_loopw [11] (fun i wr => ∃ (k : Nat) (d : Dk) (n : Int) (nv : Value) (nl : List Int), k ≤ l.length ∧ i = .int .i64 k ∧ Kp w wr b p pm bn d n nv nl ∧ KpD d n nl) (fun i _ => l.length - (intOf i).toNat)
  case atStart => exact ⟨0, _, _, _, _, Nat.zero_le _, rfl, H3.out, hKD⟩
  case round =>
    obtain ⟨k, d, n, nv, nl, hk, rfl, hP, hD⟩ := hrel
    obtain ⟨A5, c5, rfl, hA5, hA6⟩ := hP.segs.shape
    unfold maxLen at hA6
    have HP := Lib.hid hP
    have HD := Lib.hid hD
    clear hP hD hKD H3
    by_cases hlt : k < l.length
    · have d0 : decide ((k : Int) < (l.length : Int)) = true := by simp; omega
      obtain ⟨q, o, rfl, hq1, hq2, hxx⟩ := (HS.out.below HP.out.past (fun _ _ h => h)).cell_ hlt
      have x0 := hxx 0 _ rfl
      rw [Nat.mul_one, Nat.add_zero] at x0
      obtain ⟨hs, hi⟩ := HL.out l[k] (List.getElem_mem hlt)
      obtain ⟨vk, hvk⟩ : ∃ vk, l[k].1 = vk := ⟨_, rfl⟩
      obtain ⟨lk, hlk⟩ : ∃ lk, l[k].2 = lk := ⟨_, rfl⟩
      rw [hvk] at x0 hs
      rw [hlk] at hs hi
      obtain ⟨A3, c3, rfl, hA3, hA4⟩ := hs.shape
      unfold maxLen at hA4
      have hs := hs.below HP.out.past (fun _ _ h => h)
      have HSK := Lib.hid hs
      have HI := Lib.hid hi
      clear hs hi hxx hvk hlk
      by_cases h40 : 40 < lk.length
      · have d1 : decide ((40 : Int) < (lk.length : Int)) = true := by simp; omega
        go_wp2_with fail
        go_ret
        exact ⟨rfl, HP.out.past⟩
      have d1 : decide ((40 : Int) < (lk.length : Int)) = false := by simp; omega
      go_wp2_with fail
      go_loopw [12, 13] (fun a i wr2 => ∃ (m : Nat) (x : Int), m ≤ lk.length ∧ 1 ≤ x ∧ x ≤ 536870913 ∧ a = .int .i64 x ∧ i = .int .i64 m ∧ wr2 = wr) (fun _ i _ => lk.length - (intOf i).toNat)
      case atStart => exact ⟨0, 1, Nat.zero_le _, by decide, by decide, rfl, rfl, rfl⟩
      case round =>
        obtain ⟨m, x, hm, hx1, hx2, rfl, rfl, rfl⟩ := hrel
        by_cases hlm : m < lk.length
        · have d2 : decide ((m : Int) < (lk.length : Int)) = true := by simp; omega
          obtain ⟨q2, o2, rfl, _, _, hyy⟩ := HSK.out.cell_ hlm
          have y0 := hyy 0 _ rfl
          rw [Nat.mul_one, Nat.add_zero] at y0
          have hi := HI.out lk[m] (List.getElem_mem hlm)
          obtain ⟨z, hz⟩ : ∃ z, z = lk[m] := ⟨_, rfl⟩
          rw [← hz] at y0 hi
          unfold i64 at hi
          clear hz hyy
          have g1 : -9223372036854775808 ≤ gmin z 536870912 ∧ gmin z 536870912 ≤ 536870912 := by unfold gmin; omega
          have g2 : 1 ≤ gmax x (gmin z 536870912 + 1) ∧ gmax x (gmin z 536870912 + 1) ≤ 536870913 := by unfold gmax; omega
          have G2 := Lib.hid g2
          clear g2
          go_wp2_with fail
          go_roundw
          case rel => exact ⟨m + 1, _, by omega, G2.out.1, G2.out.2, rfl, by go_num, trivial⟩
          case measure => simp [intOf]; omega
        · have d2 : decide ((m : Int) < (lk.length : Int)) = false := by simp; omega
          obtain ⟨bm, hbm⟩ : ∃ bm, wr.heap.size = bm := ⟨_, rfl⟩
          have hblk := heap_alloc_new wr (.cells #[.int .i64 x, .slice A3 lk.length c3] 39)
          have hal := (Below.refl _ wr).alloc (Nat.le_refl _) (.cells #[.int .i64 x, .slice A3 lk.length c3] 39)
          have h5 := HP.out.fresh hal
          have hsk := HSK.out.fresh hal
          have hq := HP.out.disk.more (X' := fun k => (k < w.heap.size ∨ k = b ∨ k = bn) ∨ k = bm) hal (fun k hk => hk.imp id (fun e => by omega)) (fun k hk => by have := HP.out.disk.hX k; simp; rcases hk with hk | hk; exact Nat.lt_succ_of_lt (this hk); omega) (fun k hk => .inl (HP.out.disk.low k hk))
          have c0 := h5.c0
          have m0 := cell_of_row _ wr.heap.size 0 _ _ _ hblk
          have m1 := cell_of_row _ wr.heap.size 1 _ _ _ hblk
          have HBK := Lib.hid hblk
          have H5 := Lib.hid h5
          have HSK5 := Lib.hid hsk
          have HQ := Lib.hid hq
          have HBM := Lib.hid hbm
          clear hal hblk h5 hsk hq hbm
          go_wp2_with fail
          have hblk := HBK.out
          have h5 := H5.out
          have hsk := HSK5.out
          have hq := HQ.out
          rw [HBM.out] at hblk ⊢
          clear HBM x0 hq2 HSK HP d2 c0 m0 m1 HBK H5 HSK5 HQ
          generalize wr.alloc (.cells #[.int .i64 x, .slice A3 lk.length c3] 39) = w5 at hblk h5 hsk hq ⊢
          have c0 := h5.c0
          have m0 : w5.cell? ⟨bm, 0, none⟩ = some (.int .i64 x) := cell_of_row w5 bm 0 _ _ _ hblk
          have m1 : w5.cell? ⟨bm, 1, none⟩ = some (.slice A3 lk.length c3) := cell_of_row w5 bm 1 _ _ _ hblk
          have HBK := Lib.hid hblk
          have H5 := Lib.hid h5
          have HSK := Lib.hid hsk
          have HQ := Lib.hid hq
          clear hblk h5 hsk hq
          obtain ⟨hsv1, hsv2⟩ := HD.out.save H5.out.disk.nodup x lk
          have hc := saveQ HQ.out x _ lk _ HSK.out
          obtain ⟨sv, hsv⟩ : ∃ sv, d.save x lk = sv := ⟨_, rfl⟩
          rw [hsv] at hsv1 hsv2 hc
          obtain ⟨er, d6⟩ := sv
          refine hc.mono ?_
          rintro e w6 ⟨rfl, hQ6, hk6⟩
          have hk6' : Kx (fun k => k < w.heap.size ∨ k = b ∨ k = bn) w5 w6 := hk6.mono fun k _ hn h => hn (.inl h)
          have h6 := H5.out.step (hQ6.less (fun k h => .inl h) (fun k hk => .inl (by have := H5.out.two; omega))) hk6'
          have m0 : w6.cell? ⟨bm, 0, none⟩ = some (.int .i64 x) := (hk6.cell (a := ⟨bm, 0, none⟩) (Array.getElem?_eq_some_iff.1 HBK.out).1 (fun h => h (.inr rfl))).trans m0
          have m1 : w6.cell? ⟨bm, 1, none⟩ = some (.slice A3 lk.length c3) := (hk6.cell (a := ⟨bm, 1, none⟩) (Array.getElem?_eq_some_iff.1 HBK.out).1 (fun h => h (.inr rfl))).trans m1
          have hsk6 := HSK.out.keep hk6 (fun k _ h1 h2 => h2 (.inl (.inl h1)))
          have c0 := h6.c0
          have f0 := h6.f0
          have f1 := h6.f1
          have n0 := h6.n0
          have n1 := h6.n1
          have H6 := Lib.hid h6
          have HSK6 := Lib.hid hsk6
          have HV1 := Lib.hid hsv1
          have HV2 := Lib.hid hsv2
          clear hc hQ6 hk6 hk6' h6 hsk6 hsv hsv1 hsv2 HQ H5 HSK HBK
          by_cases e0 : er = 0
          · subst e0
            have h7 := H6.out.put (n2 := x) HSK6.out
            have HD7 := Lib.hid (HV1.out rfl)
            have H7 := Lib.hid h7
            have c7 := h7.c0
            clear HV1 HV2 h7
            go_wp2_with fail
            clear c0 m0 m1 f0 f1 n0 n1 c7 H6
            generalize (w6.setCell ⟨bn, 0, none⟩ (.int .i64 x)).setCell ⟨bn, 1, none⟩ (.slice A3 lk.length c3) = w7 at H7 ⊢
            refine (appendQ H7.out.disk sTemp ⟨#[116, 111, 114, 110]⟩ (by decide) (by decide)).mono ?_
            rintro e w8 ⟨rfl, hD, hk⟩
            obtain ⟨ev, hev⟩ : ∃ ev, (d6.app sTemp ⟨#[116, 111, 114, 110]⟩).1 = ev := ⟨_, rfl⟩
            rw [hev]
            have h8 := H7.out.step hD hk
            have c0 := h8.c0
            have H8 := Lib.hid h8
            have HD8 := Lib.hid (HD7.out.app ⟨#[116, 111, 114, 110]⟩)
            clear hD hk hev h8 H7 HD7
            go_wp2_with fail
            refine (crashQ H8.out.disk _ keep ((HK.out.below H8.out.past (fun _ _ h => h)).mono (fun _ _ h => .inl h))).mono ?_
            rintro e w9 ⟨rfl, ks, hN, hD, hk⟩
            have h9 := H8.out.step hD hk
            have c0 := h9.c0
            have HD9 := Lib.hid (HD8.out.crash H8.out.disk.nodup keep ks ks.length)
            have H9 := Lib.hid h9
            obtain ⟨d9, hd9⟩ : ∃ d9, (⟨(d6.app sTemp ⟨#[116, 111, 114, 110]⟩).2.room, crashN keep ks (d6.app sTemp ⟨#[116, 111, 114, 110]⟩).2.L ks.length⟩ : Dk) = d9 := ⟨_, rfl⟩
            rw [hd9] at H9 HD9
            clear hD hk h9 hN H8 HD8 hd9
            go_wp2_with fail
            refine (HD9.out.load H9.out.disk).mono ?_
            rintro e w10 ⟨va, rfl, hsa, hB⟩
            obtain ⟨A7, c7, rfl, hA7, hA8⟩ := hsa.shape
            unfold maxLen at hA8
            have h10 := H9.out.fresh hB
            clear hB H9
            have hal := (Below.refl _ w10).alloc (Nat.le_refl _) (.cells #[.int .i64 x, .slice A7 lk.length c7] 39)
            obtain ⟨ba, hba⟩ : ∃ ba, w10.heap.size = ba := ⟨_, rfl⟩
            have hblk := heap_alloc_new w10 (.cells #[.int .i64 x, .slice A7 lk.length c7] 39)
            have h11 := h10.fresh hal
            have hsa := hsa.fresh hal
            rw [hba] at hblk
            have a0 := cell_of_row _ ba 0 _ _ _ hblk
            have a1 := cell_of_row _ ba 1 _ _ _ hblk
            have n0 := h11.n0
            have n1 := h11.n1
            have HC := Lib.hid (sameInts_any _ _ _ _ _ _ _ hsa h11.segs)
            have H11 := Lib.hid h11
            clear h10 hal h11 hsa hblk
            go_wp2_with fail
            refine HC.out.mono ?_
            rintro e w12 ⟨he, nq, rfl⟩
            obtain rfl : e = .returned (.bool true) := he
            have h12 := H11.out.fresh (below_drewN (Below.refl _ _) nq)
            have H12 := Lib.hid h12
            clear h12 HC H11 a0 a1 n0 n1
            go_wp2_with fail
            go_roundw
            case rel => exact ⟨k + 1, d9, x, _, lk, by omega, by go_num, H12.out, HD9.out⟩
            case measure => simp [intOf]; omega
          · have d3 : (er == 0) = false := by rw [beq_eq_false_iff_ne]; exact e0
            have HD7 := Lib.hid (HV2.out e0)
            have H7 := H6
            clear HV1 HV2 e0 f0 f1 m0 m1 n0 n1
            go_wp2_with fail
            clear c0 H6
            obtain ⟨w7, hw7⟩ : ∃ w7, w7 = w6 := ⟨_, rfl⟩
            subst hw7
            refine (appendQ H7.out.disk sTemp ⟨#[116, 111, 114, 110]⟩ (by decide) (by decide)).mono ?_
            rintro e w8 ⟨rfl, hD, hk⟩
            obtain ⟨ev, hev⟩ : ∃ ev, (d6.app sTemp ⟨#[116, 111, 114, 110]⟩).1 = ev := ⟨_, rfl⟩
            rw [hev]
            have h8 := H7.out.step hD hk
            have c0 := h8.c0
            have H8 := Lib.hid h8
            have HD8 := Lib.hid (HD7.out.app ⟨#[116, 111, 114, 110]⟩)
            clear hD hk hev h8 H7 HD7
            go_wp2_with fail
            refine (crashQ H8.out.disk _ keep ((HK.out.below H8.out.past (fun _ _ h => h)).mono (fun _ _ h => .inl h))).mono ?_
            rintro e w9 ⟨rfl, ks, hN, hD, hk⟩
            have h9 := H8.out.step hD hk
            have c0 := h9.c0
            have HD9 := Lib.hid (HD8.out.crash H8.out.disk.nodup keep ks ks.length)
            have H9 := Lib.hid h9
            obtain ⟨d9, hd9⟩ : ∃ d9, (⟨(d6.app sTemp ⟨#[116, 111, 114, 110]⟩).2.room, crashN keep ks (d6.app sTemp ⟨#[116, 111, 114, 110]⟩).2.L ks.length⟩ : Dk) = d9 := ⟨_, rfl⟩
            rw [hd9] at H9 HD9
            clear hD hk h9 hN H8 HD8 hd9
            go_wp2_with fail
            refine (HD9.out.load H9.out.disk).mono ?_
            rintro e w10 ⟨va, rfl, hsa, hB⟩
            obtain ⟨A7, c7, rfl, hA7, hA8⟩ := hsa.shape
            unfold maxLen at hA8
            have h10 := H9.out.fresh hB
            clear hB H9
            have hal := (Below.refl _ w10).alloc (Nat.le_refl _) (.cells #[.int .i64 n, .slice A7 nl.length c7] 39)
            obtain ⟨ba, hba⟩ : ∃ ba, w10.heap.size = ba := ⟨_, rfl⟩
            have hblk := heap_alloc_new w10 (.cells #[.int .i64 n, .slice A7 nl.length c7] 39)
            have h11 := h10.fresh hal
            have hsa := hsa.fresh hal
            rw [hba] at hblk
            have a0 := cell_of_row _ ba 0 _ _ _ hblk
            have a1 := cell_of_row _ ba 1 _ _ _ hblk
            have n0 := h11.n0
            have n1 := h11.n1
            have HC := Lib.hid (sameInts_any _ _ _ _ _ _ _ hsa h11.segs)
            have H11 := Lib.hid h11
            clear h10 hal h11 hsa hblk
            go_wp2_with fail
            refine HC.out.mono ?_
            rintro e w12 ⟨he, nq, rfl⟩
            obtain rfl : e = .returned (.bool true) := he
            have h12 := H11.out.fresh (below_drewN (Below.refl _ _) nq)
            have H12 := Lib.hid h12
            clear h12 HC H11 a0 a1 n0 n1
            go_wp2_with fail
            go_roundw
            case rel => exact ⟨k + 1, d9, n, _, nl, by omega, by go_num, H12.out, HD9.out⟩
            case measure => simp [intOf]; omega
    · have d0 : decide ((k : Int) < (l.length : Int)) = false := by simp; omega
      go_wp2_with fail
      go_ret
      exact ⟨rfl, HP.out.past⟩
end Go.Proofs.YthdehdlbocgfaaaDoor
