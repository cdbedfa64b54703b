/- ManifestTells: the walk. Under the stated premises on sizes. -/
import Derived.Test.YthdehdlbocgfaaaDoorManF
import Derived.Test.YthdehdlbocgfaaaDoorManI
import Derived.Test.YthdehdlbocgfaaaDoorSameI
namespace Go.Proofs.YthdehdlbocgfaaaDoor
open Go.RowKit Go.Bl
attribute [local go_sem ↓] Go.wp_at_zero Go.wp_at_succ

theorem ldF_right {s : List UInt8} (h : (ldF s).2.2 = true) : rightB (ldF s).1 (ldF s).2.1 = true := by
  unfold ldF ldP at h ⊢
  exact (Bool.and_eq_true_iff.1 h).2
theorem right25 : rightB 9 [2, 5] = true := by decide
theorem tell_room {L : List Fl} (h : total L ≤ 5000) : ¬ (⟨100000, L⟩ : Dk).room - ((⟨100000, L⟩ : Dk).del sTemp).used < (Bl (frmL crcU (manL 9 [2, 5]))).size := by
  have h1 := man_size right25
  have h2 := used_del ⟨100000, L⟩ sTemp
  have h3 : (⟨100000, L⟩ : Dk).used = (total L : Int) := rfl
  have h4 : ([2, 5] : List Int).length = 2 := rfl
  show ¬ (100000 : Int) - _ < _
  omega
set_option maxRecDepth 100000 in
set_option maxHeartbeats 8000000 in
theorem tells_law (w : World) (hT : Tabs w) (s t : ByteArray) (hs : s.size ≤ 140737488351232) (ht : t.size ≤ 140737488351232) (n : Int) (hn : i64 n) :
    Calls Tryd.prog 5 #[.string s, .string t, .int .i64 n] w fun e w' => e = .returned (.bool true) ∧ Below w.heap.size w w' := by
  have HT := Lib.hid hT
  unfold i64 at hn
  have HN := Lib.hid hn
  clear hT hn
  go_enter Tryd.func5, Tryd.ntmps5
  go_wp2_with fail
  refine (shown_any w HT.out).mono ?_
  rintro e w1 ⟨rfl, hB1⟩
  have HB1 := Lib.hid hB1
  clear hB1
  go_wp2_with fail
  refine (begunQ (HT.out.fresh HB1.out) 100000 (by decide) (by decide)).mono ?_
  rintro e w2 ⟨p, pm, rfl, hQ, hB⟩
  have hP := Pr.begin (w0 := w) (pm := pm) (hQ.more (X' := fun k => k < w.heap.size) (Below.refl _ _) (fun k hk => .inl (Nat.lt_of_lt_of_le hk HB1.out.size)) (fun k hk => by have := HB1.out.size; have := hB.size; omega) (fun k hk => Nat.lt_of_lt_of_le hk HT.out.lt)) (HB1.out.trans (hB.mono HB1.out.size))
  obtain ⟨b, hb⟩ : ∃ b, w2.heap.size = b := ⟨_, rfl⟩
  rw [hb] at hP
  have HP := Lib.hid hP
  have HBW := Lib.hid hb
  clear hQ hB hP hb
  by_cases h1 : 2000 < s.size
  · have d1 : decide ((2000 : Int) < (s.size : Int)) = true := by simp; omega
    go_wp2_with fail
    go_ret
    exact ⟨rfl, HP.out.past⟩
  have d1 : decide ((2000 : Int) < (s.size : Int)) = false := by simp; omega
  by_cases h2 : 2000 < t.size
  · have d2 : decide ((2000 : Int) < (t.size : Int)) = true := by simp; omega
    go_wp2_with fail
    go_ret
    exact ⟨rfl, HP.out.past⟩
  have d2 : decide ((2000 : Int) < (t.size : Int)) = false := by simp; omega
  have hs2 : s.size ≤ 2000 := by omega
  have ht2 : t.size ≤ 2000 := by omega
  clear h1 h2
  go_upto_region 5 with (fail)
  rw [HBW.out]
  generalize w2.alloc (.cells #[.pointer (some ⟨p, 0, none⟩), .pointer (some ⟨pm, 0, none⟩)] 27) = w3 at HP ⊢
  clear d1 d2 HBW
  have c0 := HP.out.c0
  go_wp2_with fail
  have hc := appendQ HP.out.disk sFile s (by decide) (by omega)
  rw [(tell_begin s t hs2 ht2).1] at hc
  refine hc.mono ?_
  clear hc
  rintro e w4 ⟨rfl, hD, hk⟩
  have h4 := HP.out.step hD hk
  have c0 := h4.c0
  have H4 := Lib.hid h4
  clear hD hk h4
  go_wp2_with fail
  have hc := appendQ H4.out.disk sMark t (by decide) (by omega)
  rw [(tell_begin s t hs2 ht2).2] at hc
  refine hc.mono ?_
  clear hc
  rintro e w5 ⟨rfl, hD, hk⟩
  have h5 := H4.out.step hD hk
  have c0 := h5.c0
  have H5 := Lib.hid h5
  clear hD hk h5
  go_wp2_with fail
  refine (loadSome H5.out.disk _ (tell_file s t 0)).mono ?_
  rintro e w6 ⟨he, hB⟩
  have h6 := H5.out.fresh hB
  have H6 := Lib.hid h6
  clear hB h6
  obtain ⟨n', v, l', E, rfl, hsl, hE⟩ : ∃ (n' : Int) (v : Value) (l' : List Int) (E : Int), e = .returned (.tuple #[.agg #[.int .i64 n', v], .int .i64 E]) ∧ Sl w6 (fun _ => True) 1 intc v l' ∧ (E = 0 ∧ rightB n' l' = true ∨ E = 2 ∧ n' = 0 ∧ l' = []) := by
    by_cases hr : (ldF (Lb s)).2.2 = true
    · rw [show (⟨sFile, s, 0⟩ : Fl).bytes = s from rfl, if_pos hr] at he
      obtain ⟨v, he, hs⟩ := he
      exact ⟨_, v, _, 0, he, hs.mono (fun _ _ _ => trivial), .inl ⟨rfl, ldF_right hr⟩⟩
    · rw [show (⟨sFile, s, 0⟩ : Fl).bytes = s from rfl, if_neg hr] at he
      exact ⟨0, _, [], 2, he, Sl.nil_ _ _ _ _, .inr ⟨rfl, rfl, rfl⟩⟩
  have hbd := epsF_bd (scanS crcU (tellD s t 0).mark).1 0 0 (by omega) (by omega)
  rw [tell_mark] at hbd
  have d4 : decide ((epsS (Lb t)).1 < 0) = false := by simp; exact hbd.1
  have d5 : decide (274877906944 < (epsS (Lb t)).1) = false := by simp; exact hbd.2.1
  clear he hbd
  obtain ⟨A, c, rfl, hA1, hA2⟩ := hsl.shape
  unfold maxLen at hA2
  have HSL := Lib.hid hsl
  have HE := Lib.hid hE
  clear hsl hE
  go_upto_region 8 with (fail)
  obtain ⟨bm, hbm⟩ : ∃ bm, w6.heap.size = bm := ⟨_, rfl⟩
  rw [hbm]
  have hblk := heap_alloc_new w6 (.cells #[.int .i64 n', .slice A l'.length c] 39)
  rw [hbm] at hblk
  have hal := (Below.refl _ w6).alloc (Nat.le_refl _) (.cells #[.int .i64 n', .slice A l'.length c] 39)
  have h7 := H6.out.fresh hal
  have hs7 := HSL.out.fresh hal
  clear hal hbm
  generalize w6.alloc (.cells #[.int .i64 n', .slice A l'.length c] 39) = w7 at h7 hs7 hblk ⊢
  have c0 := h7.c0
  have H7 := Lib.hid h7
  have HS7 := Lib.hid hs7
  have HBK := Lib.hid hblk
  clear h7 hs7 hblk
  go_wp2_with fail
  have hc := epochQ H7.out.disk
  rw [tell_mark] at hc
  refine hc.mono ?_
  clear hc
  rintro e w8 ⟨rfl, hB⟩
  have h4 := H7.out.fresh hB
  have c0 := h4.c0
  have H4 := Lib.hid h4
  have HS8 := Lib.hid (HS7.out.fresh hB)
  have hblk := (hB.block bm (Array.getElem?_eq_some_iff.1 HBK.out).1).trans HBK.out
  have cm0 : w8.cell? ⟨bm, 0, none⟩ = some (.int .i64 n') := cell_of_row w8 bm 0 _ _ _ hblk
  have cm1 : w8.cell? ⟨bm, 1, none⟩ = some (.slice A l'.length c) := cell_of_row w8 bm 1 _ _ _ hblk
  clear hB h4 hblk HBK H5 H6 H7 HS7 HSL
  rcases HE.out with ⟨rfl, hr⟩ | ⟨rfl, rfl, rfl⟩
  · have HR := Lib.hid hr
    clear hr HE
    go_wp2_with fail
    refine (right_any w8 n' _ l' _ HS8.out).mono ?_
    rw [HR.out]
    rintro e w9 ⟨rfl, hB⟩
    have h4 := H4.out.fresh hB
    have c0 := h4.c0
    have H4 := Lib.hid h4
    clear hB h4 cm0 cm1 HS8
    go_wp2_with fail
    refine (raiseQ H4.out.disk n).mono ?_
    rintro e w5 ⟨rfl, hD, hk⟩
    obtain ⟨b1, y, e1, hb1, hy⟩ := tell_raise s t hs2 ht2 n
    rw [e1] at hD
    obtain ⟨er, her⟩ : ∃ er, ((tellD s t 0).raise n).1 = er := ⟨_, rfl⟩
    rw [her] at hy ⊢
    have h5 := H4.out.step hD hk
    have c0 := h5.c0
    have H5 := Lib.hid h5
    have HY := Lib.hid hy
    clear hD hk h5 hy her e1
    go_wp2_with fail
    refine (crashQ H5.out.disk _ [] (Sl.nil_ _ _ _ _)).mono ?_
    rintro e w6 ⟨rfl, ks, hN, hD, hk⟩
    obtain ⟨f1, f2, f3⟩ := tell_crash hs2 hb1 H5.out.disk.ok [] ks ks.length
    have h6 := H5.out.step hD hk
    have c0 := h6.c0
    have H6 : Hid (Pr w w6 b p pm ⟨100000, crashN [] ks (tellD s b1 y).L ks.length⟩) := Lib.hid h6
    obtain ⟨L6, hL6⟩ : ∃ L6, crashN [] ks (tellD s b1 y).L ks.length = L6 := ⟨_, rfl⟩
    rw [hL6] at H6 f1 f2 f3
    have F1 := Lib.hid f1
    have F2 := Lib.hid f2
    have F3 := Lib.hid f3
    clear hD hk h6 hN f1 f2 f3 hL6 H5
    by_cases e0 : er = 0
    · subst e0
      obtain ⟨hy1, hy2, hy3⟩ := HY.out rfl
      have hm := F3.out hy1
      clear HY F3 hy1
      have d5 : decide (n < (epsS (Lb t)).1) = false := by simp; omega
      go_wp2_with fail
      have hc := epochQ H6.out.disk
      rw [hm, hy2] at hc
      refine hc.mono ?_
      clear hc hm hy2 hy3
      rintro e w7 ⟨rfl, hB⟩
      have h7 := H6.out.fresh hB
      have c0 := h7.c0
      have H7 := Lib.hid h7
      clear hB h7
      go_upto_region 15 with (fail)
      have h8 := H7.out.fresh ((Below.refl _ w7).alloc (Nat.le_refl _) (.cells #[.int .i64 2, .int .i64 5] 3))
      have hsl : Sl (w7.alloc (.cells #[.int .i64 2, .int .i64 5] 3)) (fun b => b = w7.heap.size) 1 intc (.slice (some ⟨w7.heap.size, 0, none⟩) 2 2) [2, 5] := sl_block (fun _ => rfl) (heap_alloc_new w7 _) rfl rfl (by decide)
      have c1 := h8.c0
      have H8 := Lib.hid h8
      have HSL := Lib.hid hsl
      clear h8 hsl
      go_wp2_with fail
      have hc := saveQ H8.out.disk 9 _ [2, 5] _ HSL.out
      rw [save_is right25] at hc
      have hw := wr_ok (d := ⟨100000, L6⟩) (s := Bl (frmL crcU (manL 9 [2, 5]))) file_name file_temp (by show L6.length < 40; rw [F1.out]; decide) (tell_room F2.out)
      rw [hw] at hc
      refine hc.mono ?_
      clear hc
      rintro e w9 ⟨rfl, hD, hk⟩
      have h9 := H8.out.step hD hk
      have c0 := h9.c0
      have H9 := Lib.hid h9
      clear hD hk h9 HSL c1
      go_wp2_with fail
      refine (crashQ H9.out.disk _ [] (Sl.nil_ _ _ _ _)).mono ?_
      rintro e w10 ⟨rfl, ks2, hN, hD, hk⟩
      have h10 := H9.out.step hD hk
      have hnd := H9.out.disk.nodup
      have hfi := wr_crash (keep := []) (ks := ks2) (r' := 100000) (k := ks2.length) (by rw [hw]; exact hnd) (by show L6.length < 40; rw [F1.out]; decide) (tell_room F2.out)
      rw [hw] at hfi
      have c0 := h10.c0
      have H10 := Lib.hid h10
      have HFI := Lib.hid hfi
      clear hD hk h10 hN hnd hfi hw
      go_wp2_with fail
      have hc := loadSome H10.out.disk _ HFI.out
      rw [show (⟨sFile, Bl (frmL crcU (manL 9 [2, 5])), (Bl (frmL crcU (manL 9 [2, 5]))).size⟩ : Fl).bytes = Bl (frmL crcU (manL 9 [2, 5])) from rfl, Lb_Bl, ld_save right25] at hc
      refine hc.mono ?_
      clear hc
      rintro e w11 ⟨he, hB⟩
      rw [if_pos rfl] at he
      obtain ⟨v, rfl, hsl⟩ := he
      change Sl w11 (fun k => w10.heap.size ≤ k) 1 intc v [2, 5] at hsl
      obtain ⟨A2, c2, rfl, hA3, hA4⟩ := hsl.shape_ (n := 2) rfl
      unfold maxLen at hA4
      have H11 := Lib.hid (H10.out.fresh hB)
      have HSL := Lib.hid hsl
      clear hB hsl
      go_upto_region 19 with (fail)
      have hal := (Below.refl _ w11).alloc (Nat.le_refl _) (.cells #[.int .i64 9, .slice A2 2 c2] 39)
      obtain ⟨bk, hbk⟩ : ∃ bk, w11.heap.size = bk := ⟨_, rfl⟩
      have hblk := heap_alloc_new w11 (.cells #[.int .i64 9, .slice A2 2 c2] 39)
      have hsl := HSL.out.fresh hal
      have hp := H11.out.past.trans (hal.mono H11.out.past.size)
      rw [hbk] at hblk ⊢
      clear hal HSL H11
      generalize w11.alloc (.cells #[.int .i64 9, .slice A2 2 c2] 39) = w12 at hblk hsl hp ⊢
      have ck0 : w12.cell? ⟨bk, 0, none⟩ = some (.int .i64 9) := cell_of_row w12 bk 0 _ _ _ hblk
      have ck1 : w12.cell? ⟨bk, 1, none⟩ = some (.slice A2 2 c2) := cell_of_row w12 bk 1 _ _ _ hblk
      have hal := (Below.refl _ w12).alloc (Nat.le_refl _) (.cells #[.int .i64 2, .int .i64 5] 3)
      have hsl2 : Sl (w12.alloc (.cells #[.int .i64 2, .int .i64 5] 3)) (fun b => b = w12.heap.size) 1 intc (.slice (some ⟨w12.heap.size, 0, none⟩) 2 2) [2, 5] := sl_block (fun _ => rfl) (heap_alloc_new w12 _) rfl rfl (by decide)
      have HC := Lib.hid (sameInts_any _ _ _ _ _ _ _ (hsl.fresh hal) hsl2)
      have HP2 := Lib.hid (hp.trans (hal.mono hp.size))
      clear hblk hsl hp hal hsl2 hbk
      go_wp2_with fail
      refine HC.out.mono ?_
      rintro e w13 ⟨he, q, rfl⟩
      obtain rfl : e = .returned (.bool true) := he
      go_wp2_with fail
      go_ret
      exact ⟨rfl, HP2.out.trans ⟨rfl, rfl, rfl, Nat.le_refl _, fun _ _ => rfl⟩⟩
    · have d4 : (er == 0) = false := by rw [beq_eq_false_iff_ne]; exact e0
      have H7 := H6
      clear HY F3 e0
      go_upto_region 15 with (fail)
      have h8 := H7.out.fresh ((Below.refl _ w6).alloc (Nat.le_refl _) (.cells #[.int .i64 2, .int .i64 5] 3))
      have hsl : Sl (w6.alloc (.cells #[.int .i64 2, .int .i64 5] 3)) (fun b => b = w6.heap.size) 1 intc (.slice (some ⟨w6.heap.size, 0, none⟩) 2 2) [2, 5] := sl_block (fun _ => rfl) (heap_alloc_new w6 _) rfl rfl (by decide)
      have c1 := h8.c0
      have H8 := Lib.hid h8
      have HSL := Lib.hid hsl
      clear h8 hsl
      go_wp2_with fail
      have hc := saveQ H8.out.disk 9 _ [2, 5] _ HSL.out
      rw [save_is right25] at hc
      have hw := wr_ok (d := ⟨100000, L6⟩) (s := Bl (frmL crcU (manL 9 [2, 5]))) file_name file_temp (by show L6.length < 40; rw [F1.out]; decide) (tell_room F2.out)
      rw [hw] at hc
      refine hc.mono ?_
      clear hc
      rintro e w9 ⟨rfl, hD, hk⟩
      have h9 := H8.out.step hD hk
      have c0 := h9.c0
      have H9 := Lib.hid h9
      clear hD hk h9 HSL c1
      go_wp2_with fail
      refine (crashQ H9.out.disk _ [] (Sl.nil_ _ _ _ _)).mono ?_
      rintro e w10 ⟨rfl, ks2, hN, hD, hk⟩
      have h10 := H9.out.step hD hk
      have hnd := H9.out.disk.nodup
      have hfi := wr_crash (keep := []) (ks := ks2) (r' := 100000) (k := ks2.length) (by rw [hw]; exact hnd) (by show L6.length < 40; rw [F1.out]; decide) (tell_room F2.out)
      rw [hw] at hfi
      have c0 := h10.c0
      have H10 := Lib.hid h10
      have HFI := Lib.hid hfi
      clear hD hk h10 hN hnd hfi hw
      go_wp2_with fail
      have hc := loadSome H10.out.disk _ HFI.out
      rw [show (⟨sFile, Bl (frmL crcU (manL 9 [2, 5])), (Bl (frmL crcU (manL 9 [2, 5]))).size⟩ : Fl).bytes = Bl (frmL crcU (manL 9 [2, 5])) from rfl, Lb_Bl, ld_save right25] at hc
      refine hc.mono ?_
      clear hc
      rintro e w11 ⟨he, hB⟩
      rw [if_pos rfl] at he
      obtain ⟨v, rfl, hsl⟩ := he
      change Sl w11 (fun k => w10.heap.size ≤ k) 1 intc v [2, 5] at hsl
      obtain ⟨A2, c2, rfl, hA3, hA4⟩ := hsl.shape_ (n := 2) rfl
      unfold maxLen at hA4
      have H11 := Lib.hid (H10.out.fresh hB)
      have HSL := Lib.hid hsl
      clear hB hsl
      go_upto_region 19 with (fail)
      have hal := (Below.refl _ w11).alloc (Nat.le_refl _) (.cells #[.int .i64 9, .slice A2 2 c2] 39)
      obtain ⟨bk, hbk⟩ : ∃ bk, w11.heap.size = bk := ⟨_, rfl⟩
      have hblk := heap_alloc_new w11 (.cells #[.int .i64 9, .slice A2 2 c2] 39)
      have hsl := HSL.out.fresh hal
      have hp := H11.out.past.trans (hal.mono H11.out.past.size)
      rw [hbk] at hblk ⊢
      clear hal HSL H11
      generalize w11.alloc (.cells #[.int .i64 9, .slice A2 2 c2] 39) = w12 at hblk hsl hp ⊢
      have ck0 : w12.cell? ⟨bk, 0, none⟩ = some (.int .i64 9) := cell_of_row w12 bk 0 _ _ _ hblk
      have ck1 : w12.cell? ⟨bk, 1, none⟩ = some (.slice A2 2 c2) := cell_of_row w12 bk 1 _ _ _ hblk
      have hal := (Below.refl _ w12).alloc (Nat.le_refl _) (.cells #[.int .i64 2, .int .i64 5] 3)
      have hsl2 : Sl (w12.alloc (.cells #[.int .i64 2, .int .i64 5] 3)) (fun b => b = w12.heap.size) 1 intc (.slice (some ⟨w12.heap.size, 0, none⟩) 2 2) [2, 5] := sl_block (fun _ => rfl) (heap_alloc_new w12 _) rfl rfl (by decide)
      have HC := Lib.hid (sameInts_any _ _ _ _ _ _ _ (hsl.fresh hal) hsl2)
      have HP2 := Lib.hid (hp.trans (hal.mono hp.size))
      clear hblk hsl hp hal hsl2 hbk
      go_wp2_with fail
      refine HC.out.mono ?_
      rintro e w13 ⟨he, q, rfl⟩
      obtain rfl : e = .returned (.bool true) := he
      go_wp2_with fail
      go_ret
      exact ⟨rfl, HP2.out.trans ⟨rfl, rfl, rfl, Nat.le_refl _, fun _ _ => rfl⟩⟩
  · clear HE HS8
    go_wp2_with fail
    refine (raiseQ H4.out.disk n).mono ?_
    rintro e w5 ⟨rfl, hD, hk⟩
    obtain ⟨b1, y, e1, hb1, hy⟩ := tell_raise s t hs2 ht2 n
    rw [e1] at hD
    obtain ⟨er, her⟩ : ∃ er, ((tellD s t 0).raise n).1 = er := ⟨_, rfl⟩
    rw [her] at hy ⊢
    have h5 := H4.out.step hD hk
    have c0 := h5.c0
    have H5 := Lib.hid h5
    have HY := Lib.hid hy
    clear hD hk h5 hy her e1
    go_wp2_with fail
    refine (crashQ H5.out.disk _ [] (Sl.nil_ _ _ _ _)).mono ?_
    rintro e w6 ⟨rfl, ks, hN, hD, hk⟩
    obtain ⟨f1, f2, f3⟩ := tell_crash hs2 hb1 H5.out.disk.ok [] ks ks.length
    have h6 := H5.out.step hD hk
    have c0 := h6.c0
    have H6 : Hid (Pr w w6 b p pm ⟨100000, crashN [] ks (tellD s b1 y).L ks.length⟩) := Lib.hid h6
    obtain ⟨L6, hL6⟩ : ∃ L6, crashN [] ks (tellD s b1 y).L ks.length = L6 := ⟨_, rfl⟩
    rw [hL6] at H6 f1 f2 f3
    have F1 := Lib.hid f1
    have F2 := Lib.hid f2
    have F3 := Lib.hid f3
    clear hD hk h6 hN f1 f2 f3 hL6 H5
    by_cases e0 : er = 0
    · subst e0
      obtain ⟨hy1, hy2, hy3⟩ := HY.out rfl
      have hm := F3.out hy1
      clear HY F3 hy1
      have d5 : decide (n < (epsS (Lb t)).1) = false := by simp; omega
      go_wp2_with fail
      have hc := epochQ H6.out.disk
      rw [hm, hy2] at hc
      refine hc.mono ?_
      clear hc hm hy2 hy3
      rintro e w7 ⟨rfl, hB⟩
      have h7 := H6.out.fresh hB
      have c0 := h7.c0
      have H7 := Lib.hid h7
      clear hB h7
      go_upto_region 15 with (fail)
      have h8 := H7.out.fresh ((Below.refl _ w7).alloc (Nat.le_refl _) (.cells #[.int .i64 2, .int .i64 5] 3))
      have hsl : Sl (w7.alloc (.cells #[.int .i64 2, .int .i64 5] 3)) (fun b => b = w7.heap.size) 1 intc (.slice (some ⟨w7.heap.size, 0, none⟩) 2 2) [2, 5] := sl_block (fun _ => rfl) (heap_alloc_new w7 _) rfl rfl (by decide)
      have c1 := h8.c0
      have H8 := Lib.hid h8
      have HSL := Lib.hid hsl
      clear h8 hsl
      go_wp2_with fail
      have hc := saveQ H8.out.disk 9 _ [2, 5] _ HSL.out
      rw [save_is right25] at hc
      have hw := wr_ok (d := ⟨100000, L6⟩) (s := Bl (frmL crcU (manL 9 [2, 5]))) file_name file_temp (by show L6.length < 40; rw [F1.out]; decide) (tell_room F2.out)
      rw [hw] at hc
      refine hc.mono ?_
      clear hc
      rintro e w9 ⟨rfl, hD, hk⟩
      have h9 := H8.out.step hD hk
      have c0 := h9.c0
      have H9 := Lib.hid h9
      clear hD hk h9 HSL c1
      go_wp2_with fail
      refine (crashQ H9.out.disk _ [] (Sl.nil_ _ _ _ _)).mono ?_
      rintro e w10 ⟨rfl, ks2, hN, hD, hk⟩
      have h10 := H9.out.step hD hk
      have hnd := H9.out.disk.nodup
      have hfi := wr_crash (keep := []) (ks := ks2) (r' := 100000) (k := ks2.length) (by rw [hw]; exact hnd) (by show L6.length < 40; rw [F1.out]; decide) (tell_room F2.out)
      rw [hw] at hfi
      have c0 := h10.c0
      have H10 := Lib.hid h10
      have HFI := Lib.hid hfi
      clear hD hk h10 hN hnd hfi hw
      go_wp2_with fail
      have hc := loadSome H10.out.disk _ HFI.out
      rw [show (⟨sFile, Bl (frmL crcU (manL 9 [2, 5])), (Bl (frmL crcU (manL 9 [2, 5]))).size⟩ : Fl).bytes = Bl (frmL crcU (manL 9 [2, 5])) from rfl, Lb_Bl, ld_save right25] at hc
      refine hc.mono ?_
      clear hc
      rintro e w11 ⟨he, hB⟩
      rw [if_pos rfl] at he
      obtain ⟨v, rfl, hsl⟩ := he
      change Sl w11 (fun k => w10.heap.size ≤ k) 1 intc v [2, 5] at hsl
      obtain ⟨A2, c2, rfl, hA3, hA4⟩ := hsl.shape_ (n := 2) rfl
      unfold maxLen at hA4
      have H11 := Lib.hid (H10.out.fresh hB)
      have HSL := Lib.hid hsl
      clear hB hsl
      go_upto_region 19 with (fail)
      have hal := (Below.refl _ w11).alloc (Nat.le_refl _) (.cells #[.int .i64 9, .slice A2 2 c2] 39)
      obtain ⟨bk, hbk⟩ : ∃ bk, w11.heap.size = bk := ⟨_, rfl⟩
      have hblk := heap_alloc_new w11 (.cells #[.int .i64 9, .slice A2 2 c2] 39)
      have hsl := HSL.out.fresh hal
      have hp := H11.out.past.trans (hal.mono H11.out.past.size)
      rw [hbk] at hblk ⊢
      clear hal HSL H11
      generalize w11.alloc (.cells #[.int .i64 9, .slice A2 2 c2] 39) = w12 at hblk hsl hp ⊢
      have ck0 : w12.cell? ⟨bk, 0, none⟩ = some (.int .i64 9) := cell_of_row w12 bk 0 _ _ _ hblk
      have ck1 : w12.cell? ⟨bk, 1, none⟩ = some (.slice A2 2 c2) := cell_of_row w12 bk 1 _ _ _ hblk
      have hal := (Below.refl _ w12).alloc (Nat.le_refl _) (.cells #[.int .i64 2, .int .i64 5] 3)
      have hsl2 : Sl (w12.alloc (.cells #[.int .i64 2, .int .i64 5] 3)) (fun b => b = w12.heap.size) 1 intc (.slice (some ⟨w12.heap.size, 0, none⟩) 2 2) [2, 5] := sl_block (fun _ => rfl) (heap_alloc_new w12 _) rfl rfl (by decide)
      have HC := Lib.hid (sameInts_any _ _ _ _ _ _ _ (hsl.fresh hal) hsl2)
      have HP2 := Lib.hid (hp.trans (hal.mono hp.size))
      clear hblk hsl hp hal hsl2 hbk
      go_wp2_with fail
      refine HC.out.mono ?_
      rintro e w13 ⟨he, q, rfl⟩
      obtain rfl : e = .returned (.bool true) := he
      go_wp2_with fail
      go_ret
      exact ⟨rfl, HP2.out.trans ⟨rfl, rfl, rfl, Nat.le_refl _, fun _ _ => rfl⟩⟩
    · have d4 : (er == 0) = false := by rw [beq_eq_false_iff_ne]; exact e0
      have H7 := H6
      clear HY F3 e0
      go_upto_region 15 with (fail)
      have h8 := H7.out.fresh ((Below.refl _ w6).alloc (Nat.le_refl _) (.cells #[.int .i64 2, .int .i64 5] 3))
      have hsl : Sl (w6.alloc (.cells #[.int .i64 2, .int .i64 5] 3)) (fun b => b = w6.heap.size) 1 intc (.slice (some ⟨w6.heap.size, 0, none⟩) 2 2) [2, 5] := sl_block (fun _ => rfl) (heap_alloc_new w6 _) rfl rfl (by decide)
      have c1 := h8.c0
      have H8 := Lib.hid h8
      have HSL := Lib.hid hsl
      clear h8 hsl
      go_wp2_with fail
      have hc := saveQ H8.out.disk 9 _ [2, 5] _ HSL.out
      rw [save_is right25] at hc
      have hw := wr_ok (d := ⟨100000, L6⟩) (s := Bl (frmL crcU (manL 9 [2, 5]))) file_name file_temp (by show L6.length < 40; rw [F1.out]; decide) (tell_room F2.out)
      rw [hw] at hc
      refine hc.mono ?_
      clear hc
      rintro e w9 ⟨rfl, hD, hk⟩
      have h9 := H8.out.step hD hk
      have c0 := h9.c0
      have H9 := Lib.hid h9
      clear hD hk h9 HSL c1
      go_wp2_with fail
      refine (crashQ H9.out.disk _ [] (Sl.nil_ _ _ _ _)).mono ?_
      rintro e w10 ⟨rfl, ks2, hN, hD, hk⟩
      have h10 := H9.out.step hD hk
      have hnd := H9.out.disk.nodup
      have hfi := wr_crash (keep := []) (ks := ks2) (r' := 100000) (k := ks2.length) (by rw [hw]; exact hnd) (by show L6.length < 40; rw [F1.out]; decide) (tell_room F2.out)
      rw [hw] at hfi
      have c0 := h10.c0
      have H10 := Lib.hid h10
      have HFI := Lib.hid hfi
      clear hD hk h10 hN hnd hfi hw
      go_wp2_with fail
      have hc := loadSome H10.out.disk _ HFI.out
      rw [show (⟨sFile, Bl (frmL crcU (manL 9 [2, 5])), (Bl (frmL crcU (manL 9 [2, 5]))).size⟩ : Fl).bytes = Bl (frmL crcU (manL 9 [2, 5])) from rfl, Lb_Bl, ld_save right25] at hc
      refine hc.mono ?_
      clear hc
      rintro e w11 ⟨he, hB⟩
      rw [if_pos rfl] at he
      obtain ⟨v, rfl, hsl⟩ := he
      change Sl w11 (fun k => w10.heap.size ≤ k) 1 intc v [2, 5] at hsl
      obtain ⟨A2, c2, rfl, hA3, hA4⟩ := hsl.shape_ (n := 2) rfl
      unfold maxLen at hA4
      have H11 := Lib.hid (H10.out.fresh hB)
      have HSL := Lib.hid hsl
      clear hB hsl
      go_upto_region 19 with (fail)
      have hal := (Below.refl _ w11).alloc (Nat.le_refl _) (.cells #[.int .i64 9, .slice A2 2 c2] 39)
      obtain ⟨bk, hbk⟩ : ∃ bk, w11.heap.size = bk := ⟨_, rfl⟩
      have hblk := heap_alloc_new w11 (.cells #[.int .i64 9, .slice A2 2 c2] 39)
      have hsl := HSL.out.fresh hal
      have hp := H11.out.past.trans (hal.mono H11.out.past.size)
      rw [hbk] at hblk ⊢
      clear hal HSL H11
      generalize w11.alloc (.cells #[.int .i64 9, .slice A2 2 c2] 39) = w12 at hblk hsl hp ⊢
      have ck0 : w12.cell? ⟨bk, 0, none⟩ = some (.int .i64 9) := cell_of_row w12 bk 0 _ _ _ hblk
      have ck1 : w12.cell? ⟨bk, 1, none⟩ = some (.slice A2 2 c2) := cell_of_row w12 bk 1 _ _ _ hblk
      have hal := (Below.refl _ w12).alloc (Nat.le_refl _) (.cells #[.int .i64 2, .int .i64 5] 3)
      have hsl2 : Sl (w12.alloc (.cells #[.int .i64 2, .int .i64 5] 3)) (fun b => b = w12.heap.size) 1 intc (.slice (some ⟨w12.heap.size, 0, none⟩) 2 2) [2, 5] := sl_block (fun _ => rfl) (heap_alloc_new w12 _) rfl rfl (by decide)
      have HC := Lib.hid (sameInts_any _ _ _ _ _ _ _ (hsl.fresh hal) hsl2)
      have HP2 := Lib.hid (hp.trans (hal.mono hp.size))
      clear hblk hsl hp hal hsl2 hbk
      go_wp2_with fail
      refine HC.out.mono ?_
      rintro e w13 ⟨he, q, rfl⟩
      obtain rfl : e = .returned (.bool true) := he
      go_wp2_with fail
      go_ret
      exact ⟨rfl, HP2.out.trans ⟨rfl, rfl, rfl, Nat.le_refl _, fun _ _ => rfl⟩⟩
end Go.Proofs.YthdehdlbocgfaaaDoor
