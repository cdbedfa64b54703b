/- state.Of, its loops. Under the stated premises on sizes, and the tables that utf8 lays. -/
import Derived.Test.YthebmbhdlkldiaaGreatDoorParM
import Derived.Test.YthebmbhdlkldiaaGreatDoorRecA
import Derived.Test.YthebmbhdlkldiaaGreatDoorStaA
import Derived.Test.YthebmbhdlkldiaaGreatDoorDedC
import Derived.Deep.CutBlock
import Derived.Deep.DeepCutAuto
import Derived.Deep.RegionHeld3
import Derived.BigQuiet
import Derived.Test.YthebmbhdlkldiaaGreatDoorDedD
/- Are a stream's part, a request's part right? Stream.right, Request.right, rises. Under the tables that utf8 lays. -/
namespace Go.Proofs.YthebmbhdlkldiaaGreatDoor
open Go.RowKit Go.Bl
attribute [local go_sem ↓] Go.wp_at_zero Go.wp_at_succ

theorem posB_less {ap last p : Int} {ps : List Int} {es : List Ev} (h : p < last) : posB ap last (p :: ps) es = false := by
  cases es with
  | nil => rfl
  | cons e es => simp only [posB, Bool.and_eq_false_iff, decide_eq_false_iff_not]; exact .inl (by omega)
theorem posB_more {ap last p : Int} {ps : List Int} {es : List Ev} (h : ap < p) : posB ap last (p :: ps) es = false := by
  cases es with
  | nil => rfl
  | cons e es => simp only [posB, Bool.and_eq_false_iff, decide_eq_false_iff_not]; exact .inr (.inl (by omega))
set_option maxRecDepth 8000 in
set_option maxHeartbeats 2000000 in
theorem sright_any (w : World) (hT : Tabs w) (G : Nat → Prop) (x : SmS) (hx : SmAt w G x) (ap : Int) (hn : x.sp.name.size ≤ 1000000000000000) (hev : ∀ e ∈ x.sp.evs, EvOk e) :
    Calls Tryz.prog 94 #[.agg #[.string x.sp.name, x.ev, x.pv], .int .i64 ap] w fun e w' => e = .returned (.bool (spOk ap x.sp)) ∧ Below w.heap.size w w' := by
  obtain ⟨A, c, hv, hA1, hA2⟩ := hx.1.shape
  obtain ⟨B, d, hu, hB1, hB2⟩ := hx.2.shape
  unfold maxLen at hA2 hB2
  have hS1 := hx.1
  have hS2 := hx.2
  rw [hv] at hS1 ⊢
  rw [hu] at hS2 ⊢
  have hB0 : Below w.heap.size w (w.alloc (.cells #[.string x.sp.name, .slice A x.sp.evs.length c, .slice B x.sp.pos.length d] 90)) := (Below.refl _ w).alloc (Nat.le_refl _) _
  have hblk := heap_alloc_new w (.cells #[.string x.sp.name, .slice A x.sp.evs.length c, .slice B x.sp.pos.length d] 90)
  have HS1 := Lib.hid hS1
  have HS2 := Lib.hid hS2
  have HT := Lib.hid hT
  have HE := Lib.hid hev
  clear hv hu hS1 hS2 hT hev hx
  go_enter Tryz.func94, Tryz.ntmps94
  go_upto_region 1 with (fail)
  generalize w.alloc (.cells #[.string x.sp.name, .slice A x.sp.evs.length c, .slice B x.sp.pos.length d] 90) = w1 at hB0 hblk ⊢
  obtain ⟨b, hb⟩ : ∃ b, w.heap.size = b := ⟨_, rfl⟩
  have HB0 := Lib.hid hB0
  rw [hb] at hblk ⊢
  have HBK := Lib.hid hblk
  have c2 : w1.cell? ⟨b, 2, none⟩ = some (.slice B x.sp.pos.length d) := cell_of_row w1 b 2 _ _ _ hblk
  clear hb hblk hB0
  go_wp2_with fail
  go_loopw [5, 6, 7, 11] (fun last _ _ i wr => ∃ (k : Nat) (m : Int), k ≤ x.sp.pos.length ∧ i = .int .i64 k ∧ last = .int .i64 m ∧ posB ap m (x.sp.pos.drop k) (x.sp.evs.drop k) = posB ap 1 x.sp.pos x.sp.evs ∧ Below w1.heap.size w1 wr) (fun _ _ _ i _ => x.sp.pos.length - (Go.RowKit.intOf i).toNat)
  case atStart => exact ⟨0, 1, Nat.zero_le _, rfl, rfl, rfl, Below.refl _ _⟩
  case round =>
    obtain ⟨k, m, hk, rfl, rfl, hP, hB⟩ := hrel
    have hblk := (hB.block b (Array.getElem?_eq_some_iff.1 HBK.out).1).trans HBK.out
    have c0 : wr.cell? ⟨b, 0, none⟩ = some (.string x.sp.name) := cell_of_row wr b 0 _ _ _ hblk
    have c1 : wr.cell? ⟨b, 1, none⟩ = some (.slice A x.sp.evs.length c) := cell_of_row wr b 1 _ _ _ hblk
    have c2 : wr.cell? ⟨b, 2, none⟩ = some (.slice B x.sp.pos.length d) := cell_of_row wr b 2 _ _ _ hblk
    have HB0 := Lib.hid (HB0.out.trans (hB.mono HB0.out.size))
    have HBr := Lib.hid hB
    have HP := Lib.hid hP
    clear hblk hB hP
    by_cases hlt : k < x.sp.pos.length
    · have d0 : decide ((k : Int) < (x.sp.pos.length : Int)) = true := by simp; omega
      obtain ⟨q, o, rfl, _, _, hxx⟩ := (HS2.out.fresh HB0.out).cell_ hlt
      have x0 := hxx 0 _ rfl
      simp only [Nat.add_zero, Nat.mul_one] at x0
      have hdp := List.drop_eq_getElem_cons hlt
      obtain ⟨p, hp⟩ : ∃ p, x.sp.pos[k] = p := ⟨_, rfl⟩
      rw [hp] at x0 hdp
      have HDP := Lib.hid hdp
      clear hxx hp hdp
      by_cases h1 : p < m
      · have d1 : decide (p < m) = true := decide_eq_true h1
        have hR : Hid (spOk ap x.sp = false) := Lib.hid (by
          unfold spOk
          rw [← HP.out, HDP.out, posB_less h1]
          rfl)
        clear h1
        go_wp2_with fail
        go_ret
        rw [hR.out]
        exact ⟨rfl, HB0.out⟩
      have d1 : decide (p < m) = false := decide_eq_false h1
      by_cases h2 : ap < p
      · have d2 : decide (ap < p) = true := decide_eq_true h2
        have hR : Hid (spOk ap x.sp = false) := Lib.hid (by
          unfold spOk
          rw [← HP.out, HDP.out, posB_more h2]
          rfl)
        clear h2
        go_wp2_with fail
        go_ret
        rw [hR.out]
        exact ⟨rfl, HB0.out⟩
      have d2 : decide (ap < p) = false := decide_eq_false h2
      by_cases h3 : x.sp.evs.length ≤ k
      · have d3 : decide (x.sp.evs.length ≤ k) = true := decide_eq_true h3
        have hR : Hid (spOk ap x.sp = false) := Lib.hid (by
          unfold spOk
          rw [← HP.out, HDP.out, List.drop_of_length_le h3]
          rfl)
        clear h3
        go_wp2_with fail
        go_ret
        rw [hR.out]
        exact ⟨rfl, HB0.out⟩
      have d3 : decide (x.sp.evs.length ≤ k) = false := decide_eq_false h3
      have hke : k < x.sp.evs.length := by omega
      have hde := List.drop_eq_getElem_cons hke
      obtain ⟨q2, o2, rfl, _, _, hyy⟩ := (HS1.out.fresh HB0.out).cell_ hke
      have y0 := hyy 0 _ rfl
      have y1 := hyy 1 _ rfl
      simp only [Nat.add_zero] at y0
      have hP2 : posB ap m (p :: x.sp.pos.drop (k + 1)) (x.sp.evs[k] :: x.sp.evs.drop (k + 1)) = (rightE x.sp.evs[k] && posB ap p (x.sp.pos.drop (k + 1)) (x.sp.evs.drop (k + 1))) := by
        simp only [posB]
        rw [decide_eq_true (show m ≤ p by omega), decide_eq_true (show p ≤ ap by omega)]
        simp
      have hP3 := HP.out
      rw [HDP.out, hde, hP2] at hP3
      have HP3 := Lib.hid hP3
      have hkI : ((0 : Int) ≤ (k : Int)) ∧ ((k : Int) < (x.sp.evs.length : Int)) := by omega
      obtain ⟨hk1, hk2⟩ := hkI
      clear hyy hde hP2 hP3 h1 h2 h3
      go_wp2_with fail
      refine (eright_any wr (HT.out.fresh HB0.out) x.sp.evs[k] (HE.out _ (List.getElem_mem hke))).mono ?_
      rintro e w2 ⟨rfl, hB2⟩
      have HB0 := Lib.hid (HB0.out.trans (hB2.mono HB0.out.size))
      have HBr := Lib.hid (HBr.out.trans (hB2.mono HBr.out.size))
      clear hB2
      cases hre : rightE x.sp.evs[k]
      · have hR : Hid (spOk ap x.sp = false) := Lib.hid (by
          unfold spOk
          rw [← HP3.out, hre]
          rfl)
        go_wp2_with fail
        go_ret
        rw [hR.out]
        exact ⟨rfl, HB0.out⟩
      · go_wp2_with fail
        go_roundw
        case rel => exact ⟨k + 1, p, hlt, by go_num, rfl, by rw [← HP3.out, hre, Bool.true_and], HBr.out⟩
        case measure => simp [Go.RowKit.intOf]; omega
    · have hkd : k = x.sp.pos.length := by omega
      subst hkd
      have d0 : decide ((x.sp.pos.length : Int) < (x.sp.pos.length : Int)) = false := by simp
      have hP2 := HP.out
      rw [List.drop_length] at hP2
      have HP2 : Hid (spOk ap x.sp = (nameB x.sp.name && (decide (0 < x.sp.evs.length) && decide (x.sp.evs.length = x.sp.pos.length)))) := Lib.hid (by
        unfold spOk
        rw [← hP2]
        rfl)
      clear hP2
      go_wp2_with fail
      refine (name_any wr (HT.out.fresh HB0.out) x.sp.name hn).mono ?_
      rintro e w2 ⟨rfl, hB2⟩
      have c1 := (hB2.cell (p := ⟨b, 1, none⟩) (lt_of_cellP c1)).trans c1
      have c2 := (hB2.cell (p := ⟨b, 2, none⟩) (lt_of_cellP c2)).trans c2
      have HB0 := Lib.hid (HB0.out.trans (hB2.mono HB0.out.size))
      clear hB2 c0
      cases hnm : nameB x.sp.name
      · have hR : Hid (spOk ap x.sp = false) := Lib.hid (by rw [HP2.out, hnm]; rfl)
        go_wp2_with fail
        go_ret
        rw [hR.out]
        exact ⟨rfl, HB0.out⟩
      by_cases h1 : x.sp.evs.length = 0
      · have d1 : decide ((0 : Int) < (x.sp.evs.length : Int)) = false := by simp; exact List.eq_nil_of_length_eq_zero h1
        have d1' : decide (0 < x.sp.evs.length) = false := by simp; exact List.eq_nil_of_length_eq_zero h1
        have hR : Hid (spOk ap x.sp = false) := Lib.hid (by rw [HP2.out, d1']; simp)
        clear h1
        go_wp2_with fail
        go_ret
        rw [hR.out]
        exact ⟨rfl, HB0.out⟩
      have d1 : decide ((0 : Int) < (x.sp.evs.length : Int)) = true := by rw [decide_eq_true_eq]; omega
      have d1' : decide (0 < x.sp.evs.length) = true := by rw [decide_eq_true_eq]; omega
      by_cases h2 : x.sp.evs.length = x.sp.pos.length
      · have d2 : ((x.sp.evs.length : Int) == (x.sp.pos.length : Int)) = true := by rw [beq_iff_eq, h2]
        have hR : Hid (spOk ap x.sp = true) := Lib.hid (by rw [HP2.out, d1', hnm, decide_eq_true h2]; rfl)
        clear h2
        go_wp2_with fail
        go_ret
        rw [hR.out]
        exact ⟨rfl, HB0.out⟩
      · have d2 : ((x.sp.evs.length : Int) == (x.sp.pos.length : Int)) = false := by rw [beq_eq_false_iff_ne]; omega
        have hR : Hid (spOk ap x.sp = false) := Lib.hid (by rw [HP2.out, decide_eq_false h2]; simp)
        clear h2
        go_wp2_with fail
        go_ret
        rw [hR.out]
        exact ⟨rfl, HB0.out⟩
theorem rqOk_no {ap : Int} {r : Ded.En} (h : ¬ ((r.o.code = 1 ∨ r.o.code = 2) ∧ (1 ≤ r.ses ∧ r.ses ≤ 274877906944) ∧ (1 ≤ r.seq ∧ r.seq ≤ 274877906944) ∧ 1 ≤ r.o.pos ∧ r.o.pos ≤ ap ∧ 0 ≤ r.o.first ∧ r.o.first ≤ r.o.ver ∧ r.o.ver ≤ 274877906944)) : rqOk ap r = false := by
  cases hq : rqOk ap r
  · rfl
  · exact absurd (rqOk_iff.1 hq) h
set_option maxRecDepth 8000 in
set_option maxHeartbeats 4000000 in
theorem qright_any (w : World) (r : Ded.En) (ap : Int) :
    Calls Tryz.prog 96 #[.agg #[.int .i64 r.ses, .int .i64 r.seq, .int .i64 r.o.code, .int .i64 r.o.pos, .int .i64 r.o.first, .int .i64 r.o.ver], .int .i64 ap] w fun e w' => e = .returned (.bool (rqOk ap r)) ∧ Below w.heap.size w w' := by
  have hB0 : Below w.heap.size w ((w.alloc (.cells #[.int .i64 r.ses, .int .i64 r.seq, .int .i64 r.o.code, .int .i64 r.o.pos, .int .i64 r.o.first, .int .i64 r.o.ver] 94)).alloc (.cells #[.int .i64 r.o.code, .int .i64 r.o.pos, .int .i64 r.o.first, .int .i64 r.o.ver] 53)) := ((Below.refl _ w).alloc (Nat.le_refl _) _).alloc (by simp) _
  have hb1 : ((w.alloc (.cells #[.int .i64 r.ses, .int .i64 r.seq, .int .i64 r.o.code, .int .i64 r.o.pos, .int .i64 r.o.first, .int .i64 r.o.ver] 94)).alloc (.cells #[.int .i64 r.o.code, .int .i64 r.o.pos, .int .i64 r.o.first, .int .i64 r.o.ver] 53)).heap[w.heap.size]? = some (.cells #[.int .i64 r.ses, .int .i64 r.seq, .int .i64 r.o.code, .int .i64 r.o.pos, .int .i64 r.o.first, .int .i64 r.o.ver] 94 (0, 0)) := (Below.heap_alloc _ _ _ (by simp)).trans (heap_alloc_new w _)
  have hb2 := heap_alloc_new (w.alloc (.cells #[.int .i64 r.ses, .int .i64 r.seq, .int .i64 r.o.code, .int .i64 r.o.pos, .int .i64 r.o.first, .int .i64 r.o.ver] 94)) (.cells #[.int .i64 r.o.code, .int .i64 r.o.pos, .int .i64 r.o.first, .int .i64 r.o.ver] 53)
  rw [World.size_alloc] at hb2
  go_enter Tryz.func96, Tryz.ntmps96
  go_upto_region 2 with (fail)
  generalize (w.alloc (.cells #[.int .i64 r.ses, .int .i64 r.seq, .int .i64 r.o.code, .int .i64 r.o.pos, .int .i64 r.o.first, .int .i64 r.o.ver] 94)).alloc (.cells #[.int .i64 r.o.code, .int .i64 r.o.pos, .int .i64 r.o.first, .int .i64 r.o.ver] 53) = w1 at hB0 hb1 hb2 ⊢
  have HB0 := Lib.hid hB0
  obtain ⟨b, hb⟩ : ∃ b, w.heap.size = b := ⟨_, rfl⟩
  rw [hb] at hb1 hb2 ⊢
  have x0 : w1.cell? ⟨b, 0, none⟩ = some (.int .i64 r.ses) := cell_of_row w1 b 0 _ _ _ hb1
  have x1 : w1.cell? ⟨b, 1, none⟩ = some (.int .i64 r.seq) := cell_of_row w1 b 1 _ _ _ hb1
  have y0 : w1.cell? ⟨b + 1, 0, none⟩ = some (.int .i64 r.o.code) := cell_of_row w1 _ 0 _ _ _ hb2
  have y1 : w1.cell? ⟨b + 1, 1, none⟩ = some (.int .i64 r.o.pos) := cell_of_row w1 _ 1 _ _ _ hb2
  have y2 : w1.cell? ⟨b + 1, 2, none⟩ = some (.int .i64 r.o.first) := cell_of_row w1 _ 2 _ _ _ hb2
  have y3 : w1.cell? ⟨b + 1, 3, none⟩ = some (.int .i64 r.o.ver) := cell_of_row w1 _ 3 _ _ _ hb2
  clear hb hb1 hb2 hB0
  by_cases g1 : r.o.code = 1
  · have e1 : (r.o.code == 1) = true := by rw [beq_iff_eq]; exact g1
    have G1 := Lib.hid g1
    clear g1
    have g1 := G1.out
    by_cases h3 : ¬ (1 ≤ r.ses)
    · have d3 : decide (1 ≤ r.ses) = false := decide_eq_false h3
      have hR : Hid (rqOk ap r = false) := Lib.hid (rqOk_no (by omega))
      clear h3
      go_wp2_with fail
      go_ret
      rw [hR.out]
      exact ⟨rfl, HB0.out⟩
    have h3 := Decidable.not_not.1 h3
    have d3 : decide (1 ≤ r.ses) = true := decide_eq_true h3
    by_cases h4 : ¬ (r.ses ≤ 274877906944)
    · have d4 : decide (r.ses ≤ 274877906944) = false := decide_eq_false h4
      have hR : Hid (rqOk ap r = false) := Lib.hid (rqOk_no (by omega))
      clear h4
      go_wp2_with fail
      go_ret
      rw [hR.out]
      exact ⟨rfl, HB0.out⟩
    have h4 := Decidable.not_not.1 h4
    have d4 : decide (r.ses ≤ 274877906944) = true := decide_eq_true h4
    by_cases h5 : ¬ (1 ≤ r.seq)
    · have d5 : decide (1 ≤ r.seq) = false := decide_eq_false h5
      have hR : Hid (rqOk ap r = false) := Lib.hid (rqOk_no (by omega))
      clear h5
      go_wp2_with fail
      go_ret
      rw [hR.out]
      exact ⟨rfl, HB0.out⟩
    have h5 := Decidable.not_not.1 h5
    have d5 : decide (1 ≤ r.seq) = true := decide_eq_true h5
    by_cases h6 : ¬ (r.seq ≤ 274877906944)
    · have d6 : decide (r.seq ≤ 274877906944) = false := decide_eq_false h6
      have hR : Hid (rqOk ap r = false) := Lib.hid (rqOk_no (by omega))
      clear h6
      go_wp2_with fail
      go_ret
      rw [hR.out]
      exact ⟨rfl, HB0.out⟩
    have h6 := Decidable.not_not.1 h6
    have d6 : decide (r.seq ≤ 274877906944) = true := decide_eq_true h6
    by_cases h7 : ¬ (1 ≤ r.o.pos)
    · have d7 : decide (1 ≤ r.o.pos) = false := decide_eq_false h7
      have hR : Hid (rqOk ap r = false) := Lib.hid (rqOk_no (by omega))
      clear h7
      go_wp2_with fail
      go_ret
      rw [hR.out]
      exact ⟨rfl, HB0.out⟩
    have h7 := Decidable.not_not.1 h7
    have d7 : decide (1 ≤ r.o.pos) = true := decide_eq_true h7
    by_cases h8 : ¬ (r.o.pos ≤ ap)
    · have d8 : decide (r.o.pos ≤ ap) = false := decide_eq_false h8
      have hR : Hid (rqOk ap r = false) := Lib.hid (rqOk_no (by omega))
      clear h8
      go_wp2_with fail
      go_ret
      rw [hR.out]
      exact ⟨rfl, HB0.out⟩
    have h8 := Decidable.not_not.1 h8
    have d8 : decide (r.o.pos ≤ ap) = true := decide_eq_true h8
    by_cases h9 : ¬ (0 ≤ r.o.first)
    · have d9 : decide (0 ≤ r.o.first) = false := decide_eq_false h9
      have hR : Hid (rqOk ap r = false) := Lib.hid (rqOk_no (by omega))
      clear h9
      go_wp2_with fail
      go_ret
      rw [hR.out]
      exact ⟨rfl, HB0.out⟩
    have h9 := Decidable.not_not.1 h9
    have d9 : decide (0 ≤ r.o.first) = true := decide_eq_true h9
    by_cases h10 : ¬ (r.o.first ≤ r.o.ver)
    · have d10 : decide (r.o.first ≤ r.o.ver) = false := decide_eq_false h10
      have hR : Hid (rqOk ap r = false) := Lib.hid (rqOk_no (by omega))
      clear h10
      go_wp2_with fail
      go_ret
      rw [hR.out]
      exact ⟨rfl, HB0.out⟩
    have h10 := Decidable.not_not.1 h10
    have d10 : decide (r.o.first ≤ r.o.ver) = true := decide_eq_true h10
    by_cases h11 : ¬ (r.o.ver ≤ 274877906944)
    · have d11 : decide (r.o.ver ≤ 274877906944) = false := decide_eq_false h11
      have hR : Hid (rqOk ap r = false) := Lib.hid (rqOk_no (by omega))
      clear h11
      go_wp2_with fail
      go_ret
      rw [hR.out]
      exact ⟨rfl, HB0.out⟩
    have h11 := Decidable.not_not.1 h11
    have d11 : decide (r.o.ver ≤ 274877906944) = true := decide_eq_true h11
    have hR : Hid (rqOk ap r = true) := Lib.hid (rqOk_iff.2 (by omega))
    go_wp2_with fail
    go_ret
    rw [hR.out]
    exact ⟨rfl, HB0.out⟩
  have e1 : (r.o.code == 1) = false := by rw [beq_eq_false_iff_ne]; exact g1
  by_cases g2 : r.o.code = 2
  · have e2 : (r.o.code == 2) = true := by rw [beq_iff_eq]; exact g2
    by_cases h3 : ¬ (1 ≤ r.ses)
    · have d3 : decide (1 ≤ r.ses) = false := decide_eq_false h3
      have hR : Hid (rqOk ap r = false) := Lib.hid (rqOk_no (by omega))
      clear h3
      go_wp2_with fail
      go_ret
      rw [hR.out]
      exact ⟨rfl, HB0.out⟩
    have h3 := Decidable.not_not.1 h3
    have d3 : decide (1 ≤ r.ses) = true := decide_eq_true h3
    by_cases h4 : ¬ (r.ses ≤ 274877906944)
    · have d4 : decide (r.ses ≤ 274877906944) = false := decide_eq_false h4
      have hR : Hid (rqOk ap r = false) := Lib.hid (rqOk_no (by omega))
      clear h4
      go_wp2_with fail
      go_ret
      rw [hR.out]
      exact ⟨rfl, HB0.out⟩
    have h4 := Decidable.not_not.1 h4
    have d4 : decide (r.ses ≤ 274877906944) = true := decide_eq_true h4
    by_cases h5 : ¬ (1 ≤ r.seq)
    · have d5 : decide (1 ≤ r.seq) = false := decide_eq_false h5
      have hR : Hid (rqOk ap r = false) := Lib.hid (rqOk_no (by omega))
      clear h5
      go_wp2_with fail
      go_ret
      rw [hR.out]
      exact ⟨rfl, HB0.out⟩
    have h5 := Decidable.not_not.1 h5
    have d5 : decide (1 ≤ r.seq) = true := decide_eq_true h5
    by_cases h6 : ¬ (r.seq ≤ 274877906944)
    · have d6 : decide (r.seq ≤ 274877906944) = false := decide_eq_false h6
      have hR : Hid (rqOk ap r = false) := Lib.hid (rqOk_no (by omega))
      clear h6
      go_wp2_with fail
      go_ret
      rw [hR.out]
      exact ⟨rfl, HB0.out⟩
    have h6 := Decidable.not_not.1 h6
    have d6 : decide (r.seq ≤ 274877906944) = true := decide_eq_true h6
    by_cases h7 : ¬ (1 ≤ r.o.pos)
    · have d7 : decide (1 ≤ r.o.pos) = false := decide_eq_false h7
      have hR : Hid (rqOk ap r = false) := Lib.hid (rqOk_no (by omega))
      clear h7
      go_wp2_with fail
      go_ret
      rw [hR.out]
      exact ⟨rfl, HB0.out⟩
    have h7 := Decidable.not_not.1 h7
    have d7 : decide (1 ≤ r.o.pos) = true := decide_eq_true h7
    by_cases h8 : ¬ (r.o.pos ≤ ap)
    · have d8 : decide (r.o.pos ≤ ap) = false := decide_eq_false h8
      have hR : Hid (rqOk ap r = false) := Lib.hid (rqOk_no (by omega))
      clear h8
      go_wp2_with fail
      go_ret
      rw [hR.out]
      exact ⟨rfl, HB0.out⟩
    have h8 := Decidable.not_not.1 h8
    have d8 : decide (r.o.pos ≤ ap) = true := decide_eq_true h8
    by_cases h9 : ¬ (0 ≤ r.o.first)
    · have d9 : decide (0 ≤ r.o.first) = false := decide_eq_false h9
      have hR : Hid (rqOk ap r = false) := Lib.hid (rqOk_no (by omega))
      clear h9
      go_wp2_with fail
      go_ret
      rw [hR.out]
      exact ⟨rfl, HB0.out⟩
    have h9 := Decidable.not_not.1 h9
    have d9 : decide (0 ≤ r.o.first) = true := decide_eq_true h9
    by_cases h10 : ¬ (r.o.first ≤ r.o.ver)
    · have d10 : decide (r.o.first ≤ r.o.ver) = false := decide_eq_false h10
      have hR : Hid (rqOk ap r = false) := Lib.hid (rqOk_no (by omega))
      clear h10
      go_wp2_with fail
      go_ret
      rw [hR.out]
      exact ⟨rfl, HB0.out⟩
    have h10 := Decidable.not_not.1 h10
    have d10 : decide (r.o.first ≤ r.o.ver) = true := decide_eq_true h10
    by_cases h11 : ¬ (r.o.ver ≤ 274877906944)
    · have d11 : decide (r.o.ver ≤ 274877906944) = false := decide_eq_false h11
      have hR : Hid (rqOk ap r = false) := Lib.hid (rqOk_no (by omega))
      clear h11
      go_wp2_with fail
      go_ret
      rw [hR.out]
      exact ⟨rfl, HB0.out⟩
    have h11 := Decidable.not_not.1 h11
    have d11 : decide (r.o.ver ≤ 274877906944) = true := decide_eq_true h11
    have hR : Hid (rqOk ap r = true) := Lib.hid (rqOk_iff.2 (by omega))
    go_wp2_with fail
    go_ret
    rw [hR.out]
    exact ⟨rfl, HB0.out⟩
  · have e2 : (r.o.code == 2) = false := by rw [beq_eq_false_iff_ne]; exact g2
    have hR : Hid (rqOk ap r = false) := Lib.hid (rqOk_no (by omega))
    clear g1 g2
    go_wp2_with fail
    go_ret
    rw [hR.out]
    exact ⟨rfl, HB0.out⟩
end Go.Proofs.YthebmbhdlkldiaaGreatDoor

/- Requests that rise; the closure of Of; slices.ContainsFunc over requests. Plain: what puts of rising requests make. -/
namespace Go.Proofs.YthebmbhdlkldiaaGreatDoor
open Go.RowKit Go.Bl
attribute [local go_sem ↓] Go.wp_at_zero Go.wp_at_succ

def risesB (a r : Ded.En) : Bool := decide (a.ses < r.ses) || (decide (a.ses = r.ses) && decide (a.seq < r.seq))
theorem risesB_iff {a r : Ded.En} : risesB a r = true ↔ Rises a r := by simp [risesB, Rises]
def rqc (r : Ded.En) : Array Value := #[.int .i64 r.ses, .int .i64 r.seq, .int .i64 r.o.code, .int .i64 r.o.pos, .int .i64 r.o.first, .int .i64 r.o.ver]
set_option maxRecDepth 8000 in
set_option maxHeartbeats 1000000 in
theorem rises_any (w : World) (r a : Ded.En) :
    Calls Tryz.prog 97 #[.agg #[.int .i64 r.ses, .int .i64 r.seq, .int .i64 r.o.code, .int .i64 r.o.pos, .int .i64 r.o.first, .int .i64 r.o.ver], .agg #[.int .i64 a.ses, .int .i64 a.seq, .int .i64 a.o.code, .int .i64 a.o.pos, .int .i64 a.o.first, .int .i64 a.o.ver]] w fun e w' => e = .returned (.bool (risesB a r)) ∧ Below w.heap.size w w' := by
  have hB0 : Below w.heap.size w ((w.alloc (.cells #[.int .i64 r.ses, .int .i64 r.seq, .int .i64 r.o.code, .int .i64 r.o.pos, .int .i64 r.o.first, .int .i64 r.o.ver] 94)).alloc (.cells #[.int .i64 a.ses, .int .i64 a.seq, .int .i64 a.o.code, .int .i64 a.o.pos, .int .i64 a.o.first, .int .i64 a.o.ver] 94)) := ((Below.refl _ w).alloc (Nat.le_refl _) _).alloc (by simp) _
  have hb1 : ((w.alloc (.cells #[.int .i64 r.ses, .int .i64 r.seq, .int .i64 r.o.code, .int .i64 r.o.pos, .int .i64 r.o.first, .int .i64 r.o.ver] 94)).alloc (.cells #[.int .i64 a.ses, .int .i64 a.seq, .int .i64 a.o.code, .int .i64 a.o.pos, .int .i64 a.o.first, .int .i64 a.o.ver] 94)).heap[w.heap.size]? = some (.cells #[.int .i64 r.ses, .int .i64 r.seq, .int .i64 r.o.code, .int .i64 r.o.pos, .int .i64 r.o.first, .int .i64 r.o.ver] 94 (0, 0)) := (Below.heap_alloc _ _ _ (by simp)).trans (heap_alloc_new w _)
  have hb2 := heap_alloc_new (w.alloc (.cells #[.int .i64 r.ses, .int .i64 r.seq, .int .i64 r.o.code, .int .i64 r.o.pos, .int .i64 r.o.first, .int .i64 r.o.ver] 94)) (.cells #[.int .i64 a.ses, .int .i64 a.seq, .int .i64 a.o.code, .int .i64 a.o.pos, .int .i64 a.o.first, .int .i64 a.o.ver] 94)
  rw [World.size_alloc] at hb2
  go_enter Tryz.func97, Tryz.ntmps97
  go_upto_region 1 with (fail)
  generalize (w.alloc (.cells #[.int .i64 r.ses, .int .i64 r.seq, .int .i64 r.o.code, .int .i64 r.o.pos, .int .i64 r.o.first, .int .i64 r.o.ver] 94)).alloc (.cells #[.int .i64 a.ses, .int .i64 a.seq, .int .i64 a.o.code, .int .i64 a.o.pos, .int .i64 a.o.first, .int .i64 a.o.ver] 94) = w1 at hB0 hb1 hb2 ⊢
  obtain ⟨b, hb⟩ : ∃ b, w.heap.size = b := ⟨_, rfl⟩
  have HB0 := Lib.hid hB0
  rw [hb] at hb1 hb2 ⊢
  have x0 : w1.cell? ⟨b, 0, none⟩ = some (.int .i64 r.ses) := cell_of_row w1 b 0 _ _ _ hb1
  have x1 : w1.cell? ⟨b, 1, none⟩ = some (.int .i64 r.seq) := cell_of_row w1 b 1 _ _ _ hb1
  have y0 : w1.cell? ⟨b + 1, 0, none⟩ = some (.int .i64 a.ses) := cell_of_row w1 _ 0 _ _ _ hb2
  have y1 : w1.cell? ⟨b + 1, 1, none⟩ = some (.int .i64 a.seq) := cell_of_row w1 _ 1 _ _ _ hb2
  clear hb hb1 hb2 hB0
  by_cases h1 : a.ses < r.ses
  · have d1 : decide (a.ses < r.ses) = true := decide_eq_true h1
    have hR : Hid (risesB a r = true) := Lib.hid (by unfold risesB; rw [d1]; rfl)
    clear h1
    go_wp2_with fail
    go_ret
    rw [hR.out]
    exact ⟨rfl, HB0.out⟩
  have d1 : decide (a.ses < r.ses) = false := decide_eq_false h1
  by_cases h2 : a.ses = r.ses
  · have d2 : (r.ses == a.ses) = true := by rw [beq_iff_eq]; exact h2.symm
    by_cases h3 : a.seq < r.seq
    · have d3 : decide (a.seq < r.seq) = true := decide_eq_true h3
      have hR : Hid (risesB a r = true) := Lib.hid (by unfold risesB; rw [d1, d3, decide_eq_true h2]; rfl)
      clear h1 h2 h3
      go_wp2_with fail
      go_ret
      rw [hR.out]
      exact ⟨rfl, HB0.out⟩
    · have d3 : decide (a.seq < r.seq) = false := decide_eq_false h3
      have hR : Hid (risesB a r = false) := Lib.hid (by unfold risesB; rw [d1, d3, decide_eq_true h2]; rfl)
      clear h1 h2 h3
      go_wp2_with fail
      go_ret
      rw [hR.out]
      exact ⟨rfl, HB0.out⟩
  · have d2 : (r.ses == a.ses) = false := by rw [beq_eq_false_iff_ne]; exact fun e => h2 e.symm
    have hR : Hid (risesB a r = false) := Lib.hid (by unfold risesB; rw [d1, decide_eq_false h2]; rfl)
    clear h1 h2
    go_wp2_with fail
    go_ret
    rw [hR.out]
    exact ⟨rfl, HB0.out⟩

/-- Puts of requests that rise: all of them are there. -/
theorem put_rise {rs : List Ded.En} {k : Nat} (hk : k < rs.length) (hok : ∀ i (h : i < rs.length), i ≤ k → 1 ≤ rs[i].ses ∧ 1 ≤ rs[i].seq) (hr : ∀ i (h : i + 1 < rs.length), i + 1 ≤ k → Rises rs[i] rs[i + 1]) :
    Ded.putL (rs.take k) rs[k].ses rs[k].seq rs[k].o = (rs.take (k + 1), 0) := by
  have hpw : (rs.take (k + 1)).Pairwise Rises := pairwise_of_step Rises.trans (fun i hi => by
    rw [List.length_take] at hi
    rw [List.getElem_take, List.getElem_take]
    exact hr i (by omega) (by omega))
  rw [List.take_succ_eq_append_getElem hk, List.pairwise_append] at hpw
  have hall : ∀ e ∈ rs.take k, Rises e rs[k] := fun e he => hpw.2.2 e he rs[k] (by simp)
  have h0 := hok k hk (Nat.le_refl _)
  have hh : Ded.highL (rs.take k) rs[k].ses - 8 < rs[k].seq := by
    rcases high_from (T := rs.take k) rs[k].ses with h | ⟨e, he, h1, h2⟩
    · omega
    · have := hall e he
      unfold Rises at this
      omega
  have hf : Ded.findL (rs.take k) rs[k].ses rs[k].seq = none := by
    cases hc : Ded.findL (rs.take k) rs[k].ses rs[k].seq with
    | none => rfl
    | some o =>
      have := hall _ (find_in hc)
      unfold Rises at this
      simp only at this
      omega
  have hl : (Ded.lookL (rs.take k) rs[k].ses rs[k].seq).2 = 0 := by rw [Ded.lookL_fresh (by omega) hf]
  unfold Ded.putL
  rw [if_neg (by omega), if_neg (by omega), if_neg (by omega), List.take_succ_eq_append_getElem hk]

/-- The captured state. -/
structure Cap (w : World) (b p pt : Nat) (px : Value) (ap : Int) (T : List Ded.En) (FT GT : Nat → Prop) : Prop where
  c : w.cell? ⟨b, 0, none⟩ = some (.pointer (some ⟨p, 0, none⟩))
  blk : w.heap[p]? = some (.cells #[px, .pointer (some ⟨pt, 0, none⟩), .int .i64 ap] 123 (0, 0))
  tab : Ded.TabAt w pt T FT GT
theorem Cap.fresh {w w' : World} {b p pt : Nat} {px : Value} {ap : Int} {T : List Ded.En} {FT GT : Nat → Prop} (h : Cap w b p pt px ap T FT GT) (hB : Below w.heap.size w w') : Cap w' b p pt px ap T FT GT :=
  ⟨(hB.cell (p := ⟨b, 0, none⟩) (lt_of_cellP h.c)).trans h.c, (hB.block p (Array.getElem?_eq_some_iff.1 h.blk).1).trans h.blk, h.tab.fresh hB⟩
def unkB (T : List Ded.En) (r : Ded.En) : Bool := (Ded.lookL T r.ses r.seq).2 != 1
set_option maxRecDepth 8000 in
set_option maxHeartbeats 2000000 in
theorem clo_any (w : World) (b p pt : Nat) (px : Value) (ap : Int) (T : List Ded.En) (FT GT : Nat → Prop) (h : Cap w b p pt px ap T FT GT) (r : Ded.En) (h1 : Ded.i64 r.ses) (h2 : Ded.i64 r.seq) :
    Calls Tryz.prog 99 #[.agg #[.int .i64 r.ses, .int .i64 r.seq, .int .i64 r.o.code, .int .i64 r.o.pos, .int .i64 r.o.first, .int .i64 r.o.ver], .pointer (some ⟨b, 0, none⟩)] w fun e w' => e = .returned (.bool (unkB T r)) ∧ Below w.heap.size w w' := by
  have hB0 : Below w.heap.size w (w.alloc (.cells #[.int .i64 r.ses, .int .i64 r.seq, .int .i64 r.o.code, .int .i64 r.o.pos, .int .i64 r.o.first, .int .i64 r.o.ver] 94)) := (Below.refl _ w).alloc (Nat.le_refl _) _
  have hb1 := heap_alloc_new w (.cells #[.int .i64 r.ses, .int .i64 r.seq, .int .i64 r.o.code, .int .i64 r.o.pos, .int .i64 r.o.first, .int .i64 r.o.ver] 94)
  have hc := h.fresh hB0
  rcases hlo : Ded.lookL T r.ses r.seq with ⟨⟨o1, o2, o3, o4⟩, o5⟩
  have hun : unkB T r = (o5 != 1) := by unfold unkB; rw [hlo]
  have HUN := Lib.hid hun
  have H1 := Lib.hid h1
  have H2 := Lib.hid h2
  have HLO := Lib.hid hlo
  clear hlo hun h h1 h2
  go_enter Tryz.func99, Tryz.ntmps99
  go_upto_region 1 with (fail)
  generalize w.alloc (.cells #[.int .i64 r.ses, .int .i64 r.seq, .int .i64 r.o.code, .int .i64 r.o.pos, .int .i64 r.o.first, .int .i64 r.o.ver] 94) = w1 at hB0 hb1 hc ⊢
  obtain ⟨g, hg⟩ : ∃ g, w.heap.size = g := ⟨_, rfl⟩
  have HB0 := Lib.hid hB0
  rw [hg] at hb1 ⊢
  have HC := Lib.hid hc
  have c0 := hc.c
  have c1 : w1.cell? ⟨p, 1, none⟩ = some (.pointer (some ⟨pt, 0, none⟩)) := cell_of_row w1 p 1 _ _ _ hc.blk
  have x0 : w1.cell? ⟨g, 0, none⟩ = some (.int .i64 r.ses) := cell_of_row w1 g 0 _ _ _ hb1
  have x1 : w1.cell? ⟨g, 1, none⟩ = some (.int .i64 r.seq) := cell_of_row w1 g 1 _ _ _ hb1
  have n0 := World.new_ne w1 _ c0
  have n1 := World.new_ne w1 _ c1
  have n2 := World.new_ne w1 _ x0
  have n3 := World.new_ne w1 _ x1
  have HD := Lib.hid (show Below w1.heap.size w1 w1.drew from ⟨rfl, rfl, rfl, Nat.le_refl _, fun _ _ => rfl⟩)
  clear hb1 hB0 hc hg
  go_cut [5] (fun s5 wx => s5 = .int .i64 o5 ∧ Below w1.heap.size w1 wx)
  case first =>
    go_region_held3 (fun x => x.cell? ⟨b, 0, none⟩ = some (.pointer (some ⟨p, 0, none⟩)) ∧ x.cell? ⟨p, 1, none⟩ = some (.pointer (some ⟨pt, 0, none⟩)) ∧ x.cell? ⟨g, 0, none⟩ = some (.int .i64 r.ses) ∧ x.cell? ⟨g, 1, none⟩ = some (.int .i64 r.seq))
      (first | exact ⟨c0, c1, x0, x1⟩ | go_keep)
      (first
        | (go_at_call 66
           refine (Ded.look_any _ pt T FT GT (HC.out.tab.fresh (by first | exact HD.out | exact HD.out.alloc (Nat.le_refl _) _)) r.ses r.seq H1.out H2.out).mono ?_
           rintro e wv ⟨he, hBv⟩
           rw [HLO.out] at he
           obtain rfl : e = .returned (.tuple #[.agg #[.int .i64 o1, .int .i64 o2, .int .i64 o3, .int .i64 o4], .int .i64 o5]) := he
           have hBv' : Below w1.heap.size w1 wv := by
             first
             | exact HD.out.trans ⟨hBv.os, hBv.tape, hBv.output, hBv.size, hBv.block⟩
             | exact (HD.out.alloc (Nat.le_refl _) _).trans (hBv.mono (by simp))
           have c0 := (hBv'.cell (p := ⟨b, 0, none⟩) (lt_of_cellP c0)).trans c0
           have c1 := (hBv'.cell (p := ⟨p, 1, none⟩) (lt_of_cellP c1)).trans c1
           have x0 := (hBv'.cell (p := ⟨g, 0, none⟩) (lt_of_cellP x0)).trans x0
           have x1 := (hBv'.cell (p := ⟨g, 1, none⟩) (lt_of_cellP x1)).trans x1
           try
             (have hblk := (Keeps.of_fresh hBv (fun _ => False)).grownTo (heap_alloc_new w1.drew (.cells #[.int .i64 0, .int .i64 0, .int .i64 0, .int .i64 0] 53)) id
              have q0 : wv.cell? ⟨w1.heap.size, 0, none⟩ = some (.int .i64 0) := cell_of_row wv _ 0 _ _ _ hblk
              have q1 : wv.cell? ⟨w1.heap.size, 1, none⟩ = some (.int .i64 0) := cell_of_row wv _ 1 _ _ _ hblk
              have q2 : wv.cell? ⟨w1.heap.size, 2, none⟩ = some (.int .i64 0) := cell_of_row wv _ 2 _ _ _ hblk
              have q3 : wv.cell? ⟨w1.heap.size, 3, none⟩ = some (.int .i64 0) := cell_of_row wv _ 3 _ _ _ hblk
              have f0 : wv.frozen? ⟨w1.heap.size, 0, none⟩ = false := frozen_block hblk 0
              have f1 : wv.frozen? ⟨w1.heap.size, 1, none⟩ = false := frozen_block hblk 1
              have f2 : wv.frozen? ⟨w1.heap.size, 2, none⟩ = false := frozen_block hblk 2
              have f3 : wv.frozen? ⟨w1.heap.size, 3, none⟩ = false := frozen_block hblk 3
              clear hblk)
           have HBv := Lib.hid hBv'
           clear hBv hBv'))
    all_goals go_wp2_with fail
    all_goals go_meet
    · exact ⟨rfl, HBv.out.alloc HBv.out.size _⟩
    all_goals exact ⟨rfl, (((HBv.out.setCell (p := ⟨w1.heap.size, 0, none⟩) (Nat.le_refl _) _).setCell (p := ⟨w1.heap.size, 1, none⟩) (Nat.le_refl _) _).setCell (p := ⟨w1.heap.size, 2, none⟩) (Nat.le_refl _) _).setCell (p := ⟨w1.heap.size, 3, none⟩) (Nat.le_refl _) _⟩
  case rest =>
    obtain ⟨rfl, hB2⟩ := hcut
    by_cases h5 : o5 = 1
    · have d1 : (o5 != 1) = false := by simp [h5]
      have hR : Hid (unkB T r = false) := Lib.hid (by rw [HUN.out]; exact d1)
      clear h5 c0 c1 x0 x1
      go_wp2_with fail
      go_ret
      rw [hR.out]
      exact ⟨rfl, HB0.out.trans (hB2.mono HB0.out.size)⟩
    · have d1 : (o5 != 1) = true := by simp [h5]
      have hR : Hid (unkB T r = true) := Lib.hid (by rw [HUN.out]; exact d1)
      clear h5 c0 c1 x0 x1
      go_wp2_with fail
      go_ret
      rw [hR.out]
      exact ⟨rfl, HB0.out.trans (hB2.mono HB0.out.size)⟩
set_option maxRecDepth 8000 in
set_option maxHeartbeats 1000000 in
theorem cindex_any (w : World) (b p pt : Nat) (px : Value) (ap : Int) (T : List Ded.En) (FT GT : Nat → Prop) (h : Cap w b p pt px ap T FT GT) (G : Nat → Prop) (v : Value) (l : List Ded.En) (hl : Sl w G 6 Ded.onec v l) (hi : ∀ r ∈ l, Ded.i64 r.ses ∧ Ded.i64 r.seq) :
    Calls Tryz.prog 119 #[v, .func (.func 99) #[] #[.pointer (some ⟨b, 0, none⟩)]] w fun x w' => ∃ n : Int, x = .returned (.int .i64 n) ∧ decide (0 ≤ n) = l.any (unkB T) ∧ Below w.heap.size w w' := by
  obtain ⟨A, c, rfl, hA1, hA2⟩ := hl.shape
  unfold maxLen at hA2
  have HS := Lib.hid hl
  have HC := Lib.hid h
  have HI := Lib.hid hi
  clear hl h hi
  go_enter Tryz.func119, Tryz.ntmps119
  go_wp2_with fail
  go_loopw [8, 5] (fun i _ wr => ∃ k : Nat, k ≤ l.length ∧ i = .int .i64 k ∧ (∀ e ∈ l.take k, unkB T e = false) ∧ Below w.heap.size w wr) (fun i _ _ => l.length - (Go.RowKit.intOf i).toNat)
  case atStart => exact ⟨0, Nat.zero_le _, rfl, by simp, Below.refl _ _⟩
  case round =>
    obtain ⟨k, hk, rfl, hall, hB⟩ := hrel
    have HB := Lib.hid hB
    have HALL := Lib.hid hall
    clear hB hall
    by_cases hlt : k < l.length
    · obtain ⟨q, o, rfl, _, _, hxx⟩ := (HS.out.fresh HB.out).cell_ hlt
      have x0 := hxx 0 _ rfl
      have x1 := hxx 1 _ rfl
      have x2 := hxx 2 _ rfl
      have x3 := hxx 3 _ rfl
      have x4 := hxx 4 _ rfl
      have x5 := hxx 5 _ rfl
      simp only [Nat.add_zero] at x0
      have hii := HI.out l[k] (List.getElem_mem hlt)
      have HCL := Lib.hid (clo_any wr b p pt px ap T FT GT (HC.out.fresh HB.out) l[k] hii.1 hii.2)
      clear hxx hii
      go_wp2_with fail
      refine HCL.out.mono ?_
      rintro x w1 ⟨rfl, hB1⟩
      have HB1 := Lib.hid (HB.out.trans (hB1.mono HB.out.size))
      clear hB1
      cases hr : unkB T l[k]
      · go_wp2_with fail
        go_roundw
        case rel =>
          refine ⟨k + 1, hlt, by go_num, fun e he => ?_, HB1.out⟩
          rw [List.take_succ_eq_append_getElem hlt, List.mem_append, List.mem_singleton] at he
          rcases he with he | rfl
          · exact HALL.out e he
          · exact hr
        case measure => simp [Go.RowKit.intOf]; omega
      · go_wp2_with fail
        go_ret
        refine ⟨k, rfl, ?_, HB1.out⟩
        rw [decide_eq_true (by omega)]
        symm
        rw [List.any_eq_true]
        exact ⟨l[k], List.getElem_mem hlt, hr⟩
    · have hkd : k = l.length := by omega
      subst hkd
      go_wp2_with fail
      go_ret
      refine ⟨-1, rfl, ?_, HB.out⟩
      have h1 := HALL.out
      rw [List.take_length] at h1
      symm
      rw [decide_eq_false (by omega), List.any_eq_false]
      intro e he
      rw [h1 e he]
      decide
theorem ccont_any (w : World) (b p pt : Nat) (px : Value) (ap : Int) (T : List Ded.En) (FT GT : Nat → Prop) (h : Cap w b p pt px ap T FT GT) (G : Nat → Prop) (v : Value) (l : List Ded.En) (hl : Sl w G 6 Ded.onec v l) (hi : ∀ r ∈ l, Ded.i64 r.ses ∧ Ded.i64 r.seq) :
    Calls Tryz.prog 98 #[v, .func (.func 99) #[] #[.pointer (some ⟨b, 0, none⟩)]] w fun x w' => x = .returned (.bool (l.any (unkB T))) ∧ Below w.heap.size w w' := by
  have hc := cindex_any w b p pt px ap T FT GT h G v l hl hi
  obtain ⟨A, c, rfl, hA1, hA2⟩ := hl.shape
  have HC := Lib.hid hc
  clear hc h hl
  go_enter Tryz.func98, Tryz.ntmps98
  go_wp2_with fail
  refine HC.out.mono ?_
  rintro x w1 ⟨r, rfl, hr, hB⟩
  have HR := Lib.hid hr
  clear hr
  by_cases h0 : 0 ≤ r
  · have d0 : decide (0 ≤ r) = true := decide_eq_true h0
    go_wp2_with fail
    go_ret
    exact ⟨by rw [← HR.out, d0]; rfl, hB⟩
  · have d0 : decide (0 ≤ r) = false := decide_eq_false h0
    go_wp2_with fail
    go_ret
    exact ⟨by rw [← HR.out, d0]; rfl, hB⟩
end Go.Proofs.YthebmbhdlkldiaaGreatDoor

namespace Go.Proofs.YthebmbhdlkldiaaGreatDoor
open Go.RowKit Go.Bl
attribute [local go_sem ↓] Go.wp_at_zero Go.wp_at_succ

/-- The index while it grows. -/
def XSt (w3 : World) (px : Nat) (FX N : Nat → Prop) (L : List Idx.One) (wr : World) : Prop := ∃ F, Idx.IdxAt wr px L F ∧ (∀ k, F k → FX k ∨ w3.heap.size ≤ k) ∧ Keeps FX w3 wr ∧ (∀ k, N k → ¬ F k)
theorem idx_lt {w : World} {p : Nat} {L : List Idx.One} {F : Nat → Prop} (h : Idx.IdxAt w p L F) : ∀ k, F k → k < w.heap.size := by
  obtain ⟨bm, V, n, h⟩ := h
  exact h.lt
theorem XSt.step {w3 wx wy : World} {px : Nat} {FX N F : Nat → Prop} {L' : List Idx.One} (hF : ∀ k, F k → FX k ∨ w3.heap.size ≤ k) (hK : Keeps FX w3 wx) (hN : ∀ k, N k → ¬ F k ∧ k < wx.heap.size) (hA : Keeps F wx wy) (hI : Idx.IdxAt wy px L' (fun k => F k ∨ (wx.heap.size ≤ k ∧ k < wy.heap.size))) : XSt w3 px FX N L' wy :=
  ⟨_, hI, fun k hk => by
    have := hK.size
    rcases hk with hk | hk
    · exact hF k hk
    · exact .inr (by omega), hK.andThen hA (fun i hi hf => by
    rcases hF i hf with h | h
    · exact h
    · omega), fun k hk h => by
    have := hN k hk
    rcases h with h | h
    · exact this.1 h
    · omega⟩
theorem XSt.fresh {w3 wr wx : World} {px : Nat} {FX N : Nat → Prop} {L : List Idx.One} (h : XSt w3 px FX N L wr) (hB : Below wr.heap.size wr wx) : XSt w3 px FX N L wx := by
  obtain ⟨F, hI, hF, hK, hN⟩ := h
  exact ⟨F, hI.fresh hB, hF, hK.fresh hB, hN⟩
theorem XSt.avoid {w3 wr : World} {px : Nat} {FX N N' : Nat → Prop} {L : List Idx.One} (h : XSt w3 px FX N L wr) (hN : ∀ k, N' k → wr.heap.size ≤ k) : XSt w3 px FX N' L wr := by
  obtain ⟨F, hI, hF, hK, _⟩ := h
  exact ⟨F, hI, hF, hK, fun k hk h => by have := hN k hk; have := idx_lt hI k h; omega⟩
/-- The table while it grows. -/
def TSt (w3 : World) (pt : Nat) (FT GT : Nat → Prop) (T : List Ded.En) (wr : World) : Prop := ∃ F G, Ded.TabAt wr pt T F G ∧ (∀ k, F k → FT k ∨ w3.heap.size ≤ k) ∧ (∀ k, G k → GT k ∨ w3.heap.size ≤ k) ∧ Keeps GT w3 wr
theorem TSt.step {w3 wx wy : World} {pt : Nat} {FT GT F G G' : Nat → Prop} {T' : List Ded.En} (hF : ∀ k, F k → FT k ∨ w3.heap.size ≤ k) (hG : ∀ k, G k → GT k ∨ w3.heap.size ≤ k) (hK : Keeps GT w3 wx) (hA : Keeps G wx wy) (hG' : ∀ k, G' k → G k ∨ wx.heap.size ≤ k)
    (hI : Ded.TabAt wy pt T' (fun k => F k ∨ (wx.heap.size ≤ k ∧ k < wy.heap.size)) G') : TSt w3 pt FT GT T' wy :=
  ⟨_, G', hI, fun k hk => by
    have := hK.size
    rcases hk with hk | hk
    · exact hF k hk
    · exact .inr (by omega), fun k hk => by
    have := hK.size
    rcases hG' k hk with hk | hk
    · exact hG k hk
    · exact .inr (by omega), hK.andThen hA (fun i hi hf => by
    rcases hG i hf with h | h
    · exact h
    · omega)⟩
theorem TSt.fresh {w3 wr wx : World} {pt : Nat} {FT GT : Nat → Prop} {T : List Ded.En} (h : TSt w3 pt FT GT T wr) (hB : Below wr.heap.size wr wx) : TSt w3 pt FT GT T wx := by
  obtain ⟨F, G, hI, hF, hG, hK⟩ := h
  exact ⟨F, G, hI.fresh hB, hF, hG, hK.fresh hB⟩
theorem leq_not {x y : ByteArray} {b : Bool} (h : Op.bytesLess y.toList x.toList = b) : (Op.bytesLess x.toList y.toList || x.toList == y.toList) = !b := by
  subst h
  rw [Go.Proofs.bytesLess_eq, Go.Proofs.bytesLess_eq, Bool.eq_iff_iff]
  simp only [Bool.or_eq_true, decide_eq_true_eq, beq_iff_eq, Bool.not_eq_true', decide_eq_false_iff_not]
  constructor
  · rintro (h | h)
    · exact fun k => List.lt_irrefl _ (List.lt_trans h k)
    · rw [h]; exact List.lt_irrefl _
  · intro h
    by_cases k : x.toList < y.toList
    · exact .inl k
    · exact .inr (List.le_antisymm (List.not_lt.1 h) (List.not_lt.1 k))
theorem rqOk_nums {ap : Int} {r : Ded.En} (h : rqOk ap r = true) : (1 ≤ r.ses ∧ r.ses ≤ 274877906944) ∧ (1 ≤ r.seq ∧ r.seq ≤ 274877906944) := by
  unfold rqOk numB at h
  simp only [Bool.and_eq_true, decide_eq_true_eq] at h
  exact ⟨h.2.1, h.2.2.1⟩
def apBad (ap : Int) : Bool := decide (ap < 0) || decide (ap > 274877906944)
/-- What holds of the first loop. -/
def FRel (w3 : World) (px : Nat) (FX : Nat → Prop) (p : Pt) (i : Value) (wr : World) : Prop :=
  ∃ k : Nat, k ≤ p.ss.length ∧ i = .int .i64 k ∧ XSt w3 px FX (fun _ => False) ((p.ss.take k).flatMap onesOf) wr ∧ (∀ j (h : j < p.ss.length), j < k → spOk p.ap p.ss[j] = true) ∧ (∀ j (h : j + 1 < p.ss.length), j + 1 < k → bLt p.ss[j].name p.ss[j + 1].name)
def FIn (w3 : World) (px xb : Nat) (FX : Nat → Prop) (L : List Idx.One) (x : SmS) (i : Value) (wr : World) : Prop :=
  ∃ j : Nat, j ≤ x.sp.evs.length ∧ i = .int .i64 j ∧ XSt w3 px FX (fun k => k = xb) (L ++ (onesOf x.sp).take j) wr ∧ wr.heap[xb]? = some (.cells #[.string x.sp.name, x.ev, x.pv] 90 (0, 0))
def GRel (w3 : World) (pt : Nat) (FT GT : Nat → Prop) (p : Pt) (i : Value) (wr : World) : Prop :=
  ∃ k : Nat, k ≤ p.rs.length ∧ i = .int .i64 k ∧ TSt w3 pt FT GT (p.rs.take k) wr ∧ (∀ j (h : j < p.rs.length), j < k → rqOk p.ap p.rs[j] = true) ∧ (∀ j (h : j + 1 < p.rs.length), j + 1 < k → Rises p.rs[j] p.rs[j + 1])

/-- What Of answers. -/
def OfPost (w : World) (p : Pt) (e : Ending) (w' : World) : Prop :=
  Below w.heap.size w w' ∧ (PtOk p → ∃ q F W, e = .returned (.tuple #[.pointer (some ⟨q, 0, none⟩), .int .i64 0]) ∧ StAt w' q (stOf p) F W ∧ ∀ k, F k → w.heap.size ≤ k) ∧ (¬ PtOk p → e = .returned (.tuple #[.pointer none, .int .i64 1]))

set_option maxRecDepth 8000 in
set_option maxHeartbeats 4000000 in
theorem of_core (w : World) (hT : Tabs w) (G : Nat → Prop) (hG : ∀ k, G k → k < w.heap.size) (p : Pt) (S : List SmS) (hp : p.ss = S.map SmS.sp) (sv rv : Value) (hS : Sl w G 3 smc sv S) (hSm : ∀ x ∈ S, SmAt w G x) (hR : Sl w G 6 Ded.onec rv p.rs)
    (hn : ∀ x ∈ p.ss, x.name.size ≤ 1000000000000000 ∧ ∀ e ∈ x.evs, EvOk e) (hN : (p.ss.flatMap onesOf).length ≤ 1000000) (hM : p.rs.length ≤ 1000000) :
    Calls Tryz.prog 45 #[.agg #[.int .i64 p.ap, sv, rv]] w (OfPost w p) := by
  obtain ⟨A, c, rfl, hA1, hA2⟩ := hS.shape
  obtain ⟨B, d, rfl, hB1, hB2⟩ := hR.shape
  unfold maxLen at hA2 hB2
  have hSl : S.length = p.ss.length := by rw [hp, List.length_map]
  rw [hSl] at hS hA1 ⊢
  have hB0 : Below w.heap.size w (w.alloc (.cells #[.int .i64 p.ap, .slice A p.ss.length c, .slice B p.rs.length d] 43)) := (Below.refl _ w).alloc (Nat.le_refl _) _
  have hblk := heap_alloc_new w (.cells #[.int .i64 p.ap, .slice A p.ss.length c, .slice B p.rs.length d] 43)
  have HS := Lib.hid hS
  have HR := Lib.hid hR
  have HSm := Lib.hid hSm
  have HT := Lib.hid hT
  have HG := Lib.hid hG
  have HN := Lib.hid hn
  have HN2 := Lib.hid hN
  have HM := Lib.hid hM
  have HP := Lib.hid hp
  have HSl := Lib.hid hSl
  clear hS hR hSm hT hG hn hN hM hp hSl
  go_enter Tryz.func45, Tryz.ntmps45
  go_upto_region 1 with (fail)
  generalize w.alloc (.cells #[.int .i64 p.ap, .slice A p.ss.length c, .slice B p.rs.length d] 43) = w1 at hB0 hblk ⊢
  obtain ⟨g, hg⟩ : ∃ g, w.heap.size = g := ⟨_, rfl⟩
  have hgw : g < w1.heap.size := by rw [← hg]; exact (Array.getElem?_eq_some_iff.1 hblk).1
  rw [hg] at hblk ⊢
  have HB0 := Lib.hid hB0
  clear hB0
  go_wp2_with fail
  refine (snew_any w1).mono ?_
  rintro e w2 ⟨q, W, rfl, hq, hW, ⟨px, pt, FX, FT, GT, hSt⟩, hB2⟩
  have hblk := (hB2.block g hgw).trans hblk
  have x0 : w2.cell? ⟨g, 0, none⟩ = some (.int .i64 p.ap) := cell_of_row w2 g 0 _ _ _ hblk
  have fq : w2.frozen? ⟨q, 2, none⟩ = false := frozen_block hSt.blk 2
  have HB0 := Lib.hid (HB0.out.trans (hB2.mono HB0.out.size))
  have hqlt : q < w2.heap.size := (Array.getElem?_eq_some_iff.1 hSt.blk).1
  go_upto_region 2 with (fail)
  have hB3 : Below w2.heap.size w2 (w2.alloc (.cells #[.pointer (some ⟨q, 0, none⟩)] 25)) := (Below.refl _ w2).alloc (Nat.le_refl _) _
  have hb4 := heap_alloc_new w2 (.cells #[.pointer (some ⟨q, 0, none⟩)] 25)
  generalize w2.alloc (.cells #[.pointer (some ⟨q, 0, none⟩)] 25) = w3 at hB3 hb4 ⊢
  obtain ⟨b, hb⟩ : ∃ b, w2.heap.size = b := ⟨_, rfl⟩
  have hblk := (hB3.block g (Array.getElem?_eq_some_iff.1 hblk).1).trans hblk
  have hSt := hSt.fresh hB3
  have HB0 := Lib.hid (HB0.out.trans (hB3.mono HB0.out.size))
  have hgq : g < q := by omega
  have hqb : q < b := by omega
  rw [hb] at hb4 ⊢
  have x0 : w3.cell? ⟨g, 0, none⟩ = some (.int .i64 p.ap) := cell_of_row w3 g 0 _ _ _ hblk
  have x1 : w3.cell? ⟨b, 0, none⟩ = some (.pointer (some ⟨q, 0, none⟩)) := cell_of_row w3 b 0 _ _ _ hb4
  have fq : w3.frozen? ⟨q, 2, none⟩ = false := frozen_block hSt.blk 2
  have cq := hSt.c2
  have HF := Lib.hid (show (∀ k, FX k → g < k ∧ k ≠ q ∧ k < b) ∧ (∀ k, FT k → g < k ∧ k ≠ q ∧ k < b) ∧ ∀ k, GT k → FT k from ⟨fun k hk => ⟨by have := hW k (hSt.wx k hk); omega, fun e => hSt.npx (e ▸ hk), by have := hSt.lt k (hSt.wf k (hSt.wx k hk)); have := (hSt.wf k (hSt.wx k hk)).2; omega⟩, fun k hk => ⟨by have := (hSt.ft k hk).1; omega, fun e => hSt.npt (e ▸ hk), by have := (hSt.ft k hk).2; omega⟩, by obtain ⟨bm, R, h, _⟩ := hSt.tab; exact h.gf⟩)
  have HXT := Lib.hid hSt.xt
  clear hq hqlt hgw hB3 hB2
  go_upto_region 3 with (fail)
  have hk4 : Keeps (fun k => k = q) w3 _ := (Keeps.refl (fun k => k = q) w3).setCell (p := ⟨q, 2, none⟩) (fun _ => rfl) (.int .i64 p.ap)
  have hq4 := setCell_block' (o := 2) (v := .int .i64 p.ap) hSt.blk
  generalize w3.setCell ⟨q, 2, none⟩ (.int .i64 p.ap) = w4 at hk4 hq4 ⊢
  have hblk := hk4.grownTo hblk (by omega)
  have hb4 := hk4.grownTo hb4 (by omega)
  have HX := Lib.hid (hSt.idx.keep hk4 (fun k hk e => hSt.npx (e ▸ hk)))
  have HTb := Lib.hid (hSt.tab.keep hk4 (fun k hk e => hSt.npt (e ▸ hk)))
  have HQ : Hid (w4.heap[q]? = some (.cells #[.pointer (some ⟨px, 0, none⟩), .pointer (some ⟨pt, 0, none⟩), .int .i64 p.ap] 123 (0, 0))) := Lib.hid hq4
  have HB0 : Hid (Below w.heap.size w w4) := Lib.hid (Below.keep HB0.out hk4 HB0.out.size (fun k hk => by omega))
  have HBL := Lib.hid hblk
  have HB4 := Lib.hid hb4
  have hbl := (Array.getElem?_eq_some_iff.1 hb4).1
  have x0 : w4.cell? ⟨g, 0, none⟩ = some (.int .i64 p.ap) := cell_of_row w4 g 0 _ _ _ hblk
  clear x1 fq cq hk4 hq4 hblk hb4 hSt
  go_cut [5] (fun s5 wx => s5 = .bool (apBad p.ap) ∧ Below w4.heap.size w4 wx)
  case first =>
    by_cases h1 : p.ap < 0
    · have d1 : decide (p.ap < 0) = true := decide_eq_true h1
      have d2 : apBad p.ap = true := by unfold apBad; rw [d1]; rfl
      have HD2 := Lib.hid d2
      clear h1 d2
      go_wp2_with fail
      go_meet
      exact ⟨by rw [HD2.out], Below.refl _ _⟩
    have d1 : decide (p.ap < 0) = false := decide_eq_false h1
    by_cases h2 : 274877906944 < p.ap
    · have d3 : decide (274877906944 < p.ap) = true := decide_eq_true h2
      have d2 : apBad p.ap = true := by unfold apBad; rw [d1, show decide (p.ap > 274877906944) = true from d3]; rfl
      have HD2 := Lib.hid d2
      clear h1 h2 d2
      go_wp2_with fail
      go_meet
      exact ⟨by rw [HD2.out], Below.refl _ _⟩
    · have d3 : decide (274877906944 < p.ap) = false := decide_eq_false h2
      have d2 : apBad p.ap = false := by unfold apBad; rw [d1, show decide (p.ap > 274877906944) = false from d3]; rfl
      have HD2 := Lib.hid d2
      clear h1 h2 d2
      go_wp2_with fail
      go_meet
      exact ⟨by rw [HD2.out], Below.refl _ _⟩
  case rest =>
    obtain ⟨rfl, hB5⟩ := hcut
    have hblk := (hB5.block g (Array.getElem?_eq_some_iff.1 HBL.out).1).trans HBL.out
    have hb4 := (hB5.block b (Array.getElem?_eq_some_iff.1 HB4.out).1).trans HB4.out
    have hqq := (hB5.block q (Array.getElem?_eq_some_iff.1 HQ.out).1).trans HQ.out
    have HX := Lib.hid (HX.out.fresh hB5)
    have HTb := Lib.hid (HTb.out.fresh hB5)
    have HB0 := Lib.hid (HB0.out.trans (hB5.mono HB0.out.size))
    have hbl := (Array.getElem?_eq_some_iff.1 hb4).1
    have HBL := Lib.hid hblk
    have HB4 := Lib.hid hb4
    have HQ := Lib.hid hqq
    have x1 : wc.cell? ⟨g, 1, none⟩ = some (.slice A p.ss.length c) := cell_of_row wc g 1 _ _ _ hblk
    clear x0 hB5 hblk hb4 hqq
    obtain ⟨w5, rfl⟩ : ∃ z, z = wc := ⟨_, rfl⟩
    go_wp2_with fail
    go_loopw [6, 7, 8, 9, 29] (fun _ _ _ _ i wr => FRel w5 px FX p i wr) (fun _ _ _ _ i _ => p.ss.length - (Go.RowKit.intOf i).toNat)
    case atStart => exact ⟨0, Nat.zero_le _, rfl, ⟨FX, HX.out, fun k hk => .inl hk, Keeps.refl _ _, fun k hk => hk.elim⟩, fun j h hj => absurd hj (by omega), fun j h hj => absurd hj (by omega)⟩
    case round =>
      obtain ⟨k, hk, rfl, hXS, hok, hup⟩ := hrel
      have hXS' := hXS
      obtain ⟨F1, hI1, hF1, hK1, _⟩ := hXS'
      have hgs : g < w5.heap.size := by omega
      have HBr := Lib.hid (Below.keep HB0.out hK1 HB0.out.size (fun k hk => by have := (HF.out.1 k hk).1; omega))
      have hblk := hK1.grownTo HBL.out (fun e => by have := (HF.out.1 g e).1; omega)
      have hb4 := hK1.grownTo HB4.out (fun e => by have := (HF.out.1 b e).2.2; omega)
      have hqq := hK1.grownTo HQ.out (fun e => (HF.out.1 q e).2.1 rfl)
      have x0 : wr.cell? ⟨g, 0, none⟩ = some (.int .i64 p.ap) := cell_of_row wr g 0 _ _ _ hblk
      have x1 : wr.cell? ⟨g, 1, none⟩ = some (.slice A p.ss.length c) := cell_of_row wr g 1 _ _ _ hblk
      have HXS := Lib.hid hXS
      have HOK := Lib.hid hok
      have HUP := Lib.hid hup
      have HBLr := Lib.hid hblk
      have HB4r := Lib.hid hb4
      have HQr := Lib.hid hqq
      clear hXS hok hup hI1 hF1 hK1 hblk hb4 hqq
      by_cases hlt : k < p.ss.length
      · have hltS : k < S.length := by rw [HSl.out]; exact hlt
        have hrow := HS.out.fresh HBr.out
        obtain ⟨qq, o, rfl, hGq, hql, hxx⟩ := hrow.cell_ hltS
        have hSx := HSm.out S[k] (List.getElem_mem hltS)
        have hspk : p.ss[k] = S[k].sp := by have h0 := HP.out; simp only [h0, List.getElem_map]
        have y0 := hxx 0 _ rfl
        have y1 := hxx 1 _ rfl
        have y2 := hxx 2 _ rfl
        have hprev : ∀ m (h : m < k), wr.cell? ⟨qq, o + m * 3, none⟩ = some (.string (p.ss[m]'(by omega)).name) := fun m h => by
          obtain ⟨q2, o2, he, _, _, hyy⟩ := hrow.cell_ (show m < S.length by omega)
          injection he with he
          injection he with he1 he2
          subst he1 he2
          have h0 := HP.out
          have := hyy 0 _ rfl
          simp only [Nat.add_zero] at this
          rw [this]
          simp only [h0, List.getElem_map]
        simp only [Nat.add_zero] at y0
        obtain ⟨x, hx⟩ : ∃ x, S[k] = x := ⟨_, rfl⟩
        have HNX := HN.out p.ss[k] (List.getElem_mem hlt)
        rw [hx] at y0 y1 y2 hSx hspk
        rw [hspk] at HNX
        obtain ⟨⟨xn, xe, xp⟩, xev, xpv, xo1, xo2⟩ := x
        obtain ⟨E, ec, rfl, hE1, hE2⟩ : ∃ A c, xev = .slice A xe.length c ∧ xe.length ≤ c ∧ c ≤ maxLen := hSx.1.shape
        obtain ⟨U, uc, rfl, hU1, hU2⟩ : ∃ A c, xpv = .slice A xp.length c ∧ xp.length ≤ c ∧ c ≤ maxLen := hSx.2.shape
        simp only at y0 y1 y2 hSx hspk HNX
        unfold maxLen at hE2 hU2
        have HPR := Lib.hid hprev
        have HSW := Lib.hid hSx
        have HSX := Lib.hid (hSx.fresh HBr.out)
        have HSPK := Lib.hid hspk
        have HNX := Lib.hid HNX
        clear hprev hSx hspk hrow hxx hx
        go_upto_region 7 with (fail)
        have hBx : Below wr.heap.size wr (wr.alloc (.cells #[.string xn, .slice E xe.length ec, .slice U xp.length uc] 90)) := (Below.refl _ wr).alloc (Nat.le_refl _) _
        have hbx := heap_alloc_new wr (.cells #[.string xn, .slice E xe.length ec, .slice U xp.length uc] 90)
        generalize wr.alloc (.cells #[.string xn, .slice E xe.length ec, .slice U xp.length uc] 90) = wx at hBx hbx ⊢
        obtain ⟨xb, hxb⟩ : ∃ z, wr.heap.size = z := ⟨_, rfl⟩
        rw [hxb] at hbx ⊢
        have x0 := (hBx.cell (p := ⟨g, 0, none⟩) (lt_of_cellP x0)).trans x0
        have x1 := (hBx.cell (p := ⟨g, 1, none⟩) (lt_of_cellP x1)).trans x1
        have z0 : wx.cell? ⟨xb, 0, none⟩ = some (.string xn) := cell_of_row wx xb 0 _ _ _ hbx
        have z1 : wx.cell? ⟨xb, 1, none⟩ = some (.slice E xe.length ec) := cell_of_row wx xb 1 _ _ _ hbx
        have z2 : wx.cell? ⟨xb, 2, none⟩ = some (.slice U xp.length uc) := cell_of_row wx xb 2 _ _ _ hbx
        have hSr := fun (wz : World) (hz : Below wx.heap.size wx wz) => sright_any wz (HT.out.fresh ((HBr.out.trans (hBx.mono HBr.out.size)).trans (hz.mono (Nat.le_trans HBr.out.size hBx.size)))) G ⟨⟨xn, xe, xp⟩, .slice E xe.length ec, .slice U xp.length uc, xo1, xo2⟩ ((HSX.out.fresh hBx).fresh hz) p.ap HNX.out.1 HNX.out.2
        have HSR := Lib.hid hSr
        have HBX := Lib.hid hBx
        have Hbx := Lib.hid hbx
        have HXB := Lib.hid hxb
        clear hBx hbx hSr y0 y1 y2 hxb
        go_cut [54] (fun s54 wy => ∃ B7 : Bool, s54 = .bool B7 ∧ Below wx.heap.size wx wy ∧ (B7 = true → ¬ PtOk p) ∧ (B7 = false → spOk p.ap (p.ss[k]) = true ∧ ∀ m (h : m + 1 = k), bLt (p.ss[m]'(by omega)).name (p.ss[k]).name))
        case first =>
          cases hsp : spOk p.ap ⟨xn, xe, xp⟩
          · have hNO : Hid (¬ PtOk p) := Lib.hid (fun h => by have := h.ss k hlt; rw [HSPK.out, hsp] at this; cases this)
            have HSP := Lib.hid hsp
            clear hsp
            go_wp2_with fail
            refine region_mid 3 rfl (by kernel_rfl) (by kernel_rfl) ?_
            simp only [List.take_succ_cons, List.take_zero, List.drop_succ_cons, List.drop_zero]
            change wpStill _ _ wx.drew _ _ _
            refine still_of_quiet ?_
            repeat (go_big_quiet_step (fail))
            refine wpQuiet_nil ?_
            change wpList _ _ _ _ _ wx.drew
            go_wp2_with fail
            refine (HSR.out _ (show Below wx.heap.size wx wx.drew from ⟨rfl, rfl, rfl, Nat.le_refl _, fun _ _ => rfl⟩)).mono ?_
            rintro e wv ⟨he, hBv⟩
            rw [HSP.out] at he
            subst he
            have hBv : Below wx.heap.size wx wv := ⟨hBv.os, hBv.tape, hBv.output, hBv.size, hBv.block⟩
            have z0 := (hBv.cell (p := ⟨xb, 0, none⟩) (lt_of_cellP z0)).trans z0
            have x1 := (hBv.cell (p := ⟨g, 1, none⟩) (lt_of_cellP x1)).trans x1
            have HBv := Lib.hid hBv
            clear hBv
            go_wp2_with fail
            unfold Go.Bl.Rest
            refine still_of_quiet ?_
            repeat (go_big_quiet_step (fail))
            refine wpQuiet_nil ?_
            go_wp2_with fail
            go_meet
            exact ⟨true, rfl, HBv.out, fun _ => hNO.out, fun h => by cases h⟩
          · have HOK7 : Hid (spOk p.ap p.ss[k] = true) := Lib.hid (by rw [HSPK.out]; exact hsp)
            have HSP := Lib.hid hsp
            clear hsp
            rcases Nat.eq_zero_or_pos k with hk0 | hk0
            · subst hk0
              go_wp2_with fail
              refine region_mid 3 rfl (by kernel_rfl) (by kernel_rfl) ?_
              simp only [List.take_succ_cons, List.take_zero, List.drop_succ_cons, List.drop_zero]
              change wpStill _ _ wx.drew _ _ _
              refine still_of_quiet ?_
              repeat (go_big_quiet_step (fail))
              refine wpQuiet_nil ?_
              change wpList _ _ _ _ _ wx.drew
              go_wp2_with fail
              refine (HSR.out _ (show Below wx.heap.size wx wx.drew from ⟨rfl, rfl, rfl, Nat.le_refl _, fun _ _ => rfl⟩)).mono ?_
              rintro e wv ⟨he, hBv⟩
              rw [HSP.out] at he
              subst he
              have hBv : Below wx.heap.size wx wv := ⟨hBv.os, hBv.tape, hBv.output, hBv.size, hBv.block⟩
              have z0 := (hBv.cell (p := ⟨xb, 0, none⟩) (lt_of_cellP z0)).trans z0
              have x1 := (hBv.cell (p := ⟨g, 1, none⟩) (lt_of_cellP x1)).trans x1
              have HBv := Lib.hid hBv
              clear hBv
              go_wp2_with fail
              unfold Go.Bl.Rest
              refine still_of_quiet ?_
              repeat (go_big_quiet_step (fail))
              refine wpQuiet_nil ?_
              go_wp2_with fail
              go_meet
              exact ⟨false, rfl, HBv.out, (fun h => by cases h), fun _ => ⟨HOK7.out, fun m h => by omega⟩⟩
            · obtain ⟨m, rfl⟩ : ∃ m, k = m + 1 := ⟨k - 1, by omega⟩
              have hpm := HPR.out m (by omega)
              have hpm := (HBX.out.cell (p := ⟨qq, _, none⟩) (lt_of_cellP hpm)).trans hpm
              obtain ⟨n0, hn0⟩ : ∃ n, (p.ss[m]'(by omega)).name = n := ⟨_, rfl⟩
              rw [hn0] at hpm
              have HN0 := Lib.hid hn0
              clear hn0
              have hwm : IntKind.i64.wrap (((m + 1 : Nat) : Int) - 1) = (m : Int) := by rw [IntWalk.i64_in _ (by omega)]; omega
              cases hlb : Op.bytesLess n0.toList xn.toList
              · have hNO : Hid (¬ PtOk p) := Lib.hid (fun h => by
                  have := h.up m hlt
                  unfold bLt at this
                  rw [HN0.out, HSPK.out, hlb] at this
                  cases this)
                go_wp2_with fail
                refine region_mid 3 rfl (by kernel_rfl) (by kernel_rfl) ?_
                simp only [List.take_succ_cons, List.take_zero, List.drop_succ_cons, List.drop_zero]
                change wpStill _ _ wx.drew _ _ _
                refine still_of_quiet ?_
                repeat (go_big_quiet_step (fail))
                refine wpQuiet_nil ?_
                change wpList _ _ _ _ _ wx.drew
                go_wp2_with fail
                refine (HSR.out _ (show Below wx.heap.size wx wx.drew from ⟨rfl, rfl, rfl, Nat.le_refl _, fun _ _ => rfl⟩)).mono ?_
                rintro e wv ⟨he, hBv⟩
                rw [HSP.out] at he
                subst he
                have hBv : Below wx.heap.size wx wv := ⟨hBv.os, hBv.tape, hBv.output, hBv.size, hBv.block⟩
                have z0 := (hBv.cell (p := ⟨xb, 0, none⟩) (lt_of_cellP z0)).trans z0
                have x1 := (hBv.cell (p := ⟨g, 1, none⟩) (lt_of_cellP x1)).trans x1
                have HBv := Lib.hid hBv
                have hpm := (hBv.cell (p := ⟨qq, o + m * 3, none⟩) (lt_of_cellP hpm)).trans hpm
                clear hBv
                go_wp2_with fail
                unfold Go.Bl.Rest
                refine still_of_quiet ?_
                repeat (go_big_quiet_step (fail))
                refine wpQuiet_nil ?_
                go_wp2_with fail
                go_meet
                exact ⟨true, by rw [leq_not hlb]; rfl, HBv.out, fun _ => hNO.out, fun h => by cases h⟩
              · have HLB : Hid (bLt n0 xn) := Lib.hid hlb
                go_wp2_with fail
                refine region_mid 3 rfl (by kernel_rfl) (by kernel_rfl) ?_
                simp only [List.take_succ_cons, List.take_zero, List.drop_succ_cons, List.drop_zero]
                change wpStill _ _ wx.drew _ _ _
                refine still_of_quiet ?_
                repeat (go_big_quiet_step (fail))
                refine wpQuiet_nil ?_
                change wpList _ _ _ _ _ wx.drew
                go_wp2_with fail
                refine (HSR.out _ (show Below wx.heap.size wx wx.drew from ⟨rfl, rfl, rfl, Nat.le_refl _, fun _ _ => rfl⟩)).mono ?_
                rintro e wv ⟨he, hBv⟩
                rw [HSP.out] at he
                subst he
                have hBv : Below wx.heap.size wx wv := ⟨hBv.os, hBv.tape, hBv.output, hBv.size, hBv.block⟩
                have z0 := (hBv.cell (p := ⟨xb, 0, none⟩) (lt_of_cellP z0)).trans z0
                have x1 := (hBv.cell (p := ⟨g, 1, none⟩) (lt_of_cellP x1)).trans x1
                have HBv := Lib.hid hBv
                have hpm := (hBv.cell (p := ⟨qq, o + m * 3, none⟩) (lt_of_cellP hpm)).trans hpm
                clear hBv
                go_wp2_with fail
                unfold Go.Bl.Rest
                refine still_of_quiet ?_
                repeat (go_big_quiet_step (fail))
                refine wpQuiet_nil ?_
                go_wp2_with fail
                go_meet
                exact ⟨false, by rw [leq_not HLB.out]; rfl, HBv.out, (fun h => by cases h), fun _ => ⟨HOK7.out, fun m' h => by
                  have : m' = m := by omega
                  subst this
                  rw [HN0.out, HSPK.out]
                  exact HLB.out⟩⟩
        case rest =>
          obtain ⟨B7, rfl, hBy, hno, hyes⟩ := hcut
          have HBr2 := Lib.hid ((HBr.out.trans (HBX.out.mono HBr.out.size)).trans (hBy.mono (Nat.le_trans HBr.out.size HBX.out.size)))
          cases B7
          case true =>
            have hNO : Hid (¬ PtOk p) := Lib.hid (hno rfl)
            clear hno hyes x0 x1 z0 z1 z2
            go_wp2_with fail
            exact bodyPost_ret (v := .tuple #[.pointer none, .int .i64 1]) (by simp [results, Tryz.results45, go_sem]) rfl ⟨HBr2.out, fun hp => absurd hp hNO.out, fun _ => rfl⟩
          case false =>
            have HYES := Lib.hid (hyes rfl)
            have z1 := (hBy.cell (p := ⟨xb, 1, none⟩) (lt_of_cellP z1)).trans z1
            have HBY := Lib.hid hBy
            have hbx := (hBy.block xb (Array.getElem?_eq_some_iff.1 Hbx.out).1).trans Hbx.out
            have hxl := (Array.getElem?_eq_some_iff.1 hbx).1
            have HBXc := Lib.hid hbx
            have hlen : xe.length = xp.length := by
              have := HYES.out.1
              rw [HSPK.out] at this
              unfold spOk at this
              simp only [Bool.and_eq_true, decide_eq_true_eq] at this
              exact this.2.2.2
            have HLEN := Lib.hid hlen
            have HXc := Lib.hid (((HXS.out.avoid (N' := fun k => k = xb) (fun k e => by have := HXB.out; omega)).fresh HBX.out).fresh hBy)
            obtain ⟨wy, rfl⟩ : ∃ z, z = wc := ⟨_, rfl⟩
            clear hno hyes x0 x1 z0 z2 hBy hbx hlen
            go_wp2_with fail
            go_loopw [8, 9, 58] (fun _ _ i wr => FIn w5 px xb FX ((p.ss.take k).flatMap onesOf) ⟨⟨xn, xe, xp⟩, .slice E xe.length ec, .slice U xp.length uc, xo1, xo2⟩ i wr) (fun _ _ i _ => xe.length - (Go.RowKit.intOf i).toNat)
            case atStart => exact ⟨0, Nat.zero_le _, rfl, by rw [List.take_zero, List.append_nil]; exact HXc.out, HBXc.out⟩
            case round =>
              obtain ⟨j, hj, rfl, hXi, hbi⟩ := hrel
              replace hj : j ≤ xe.length := hj
              replace hbi : wr.heap[xb]? = some (.cells #[.string xn, .slice E xe.length ec, .slice U xp.length uc] 90 (0, 0)) := hbi
              replace hXi : XSt w5 px FX (fun k => k = xb) ((p.ss.take k).flatMap onesOf ++ (onesOf ⟨xn, xe, xp⟩).take j) wr := hXi
              by_cases hjl : j < xe.length
              · have hjp : j < xp.length := by have := HLEN.out; omega
                obtain ⟨F1, hI1, hF1, hK1, hN1⟩ := hXi
                have hBw : Below w.heap.size w wr := Below.keep HB0.out hK1 HB0.out.size (fun k hk => by have := (HF.out.1 k hk).1; omega)
                have hsw := HSW.out.fresh hBw
                obtain ⟨eb, eo, rfl, hGe, hel, hee⟩ := (show Sl wr G 2 evc (.slice E xe.length ec) xe from hsw.1).cell_ hjl
                obtain ⟨ub, uo, rfl, hGu, hul, huu⟩ := (show Sl wr G 1 intc (.slice U xp.length uc) xp from hsw.2).cell_ hjp
                have hGe2 := HG.out eb hGe
                have hGu2 := HG.out ub hGu
                have hlF : ∀ k, F1 k → k < wr.heap.size := idx_lt hI1
                have hgF : ∀ k, F1 k → g < k ∧ k ≠ q ∧ k ≠ b := fun k hk => by
                  rcases hF1 k hk with h | h
                  · have := HF.out.1 k h; omega
                  · omega
                have e0 := hee 0 _ rfl
                have e1 := hee 1 _ rfl
                have v0 := huu 0 _ rfl
                simp only [Nat.add_zero, Nat.mul_one] at e0 v0
                obtain ⟨ev, hev⟩ : ∃ e, xe[j] = e := ⟨_, rfl⟩
                obtain ⟨ps, hps⟩ : ∃ e, xp[j] = e := ⟨_, rfl⟩
                rw [hev] at e0 e1
                rw [hps] at v0
                have hbb := hK1.grownTo HB4.out (fun e => by have := (HF.out.1 b e).2.2; omega)
                have hqq := hK1.grownTo HQ.out (fun e => (HF.out.1 q e).2.1 rfl)
                have b0 : wr.cell? ⟨b, 0, none⟩ = some (.pointer (some ⟨q, 0, none⟩)) := cell_of_row wr b 0 _ _ _ hbb
                have q0 : wr.cell? ⟨q, 0, none⟩ = some (.pointer (some ⟨px, 0, none⟩)) := cell_of_row wr q 0 _ _ _ hqq
                have z0 : wr.cell? ⟨xb, 0, none⟩ = some (.string xn) := cell_of_row wr xb 0 _ _ _ hbi
                have z2 : wr.cell? ⟨xb, 2, none⟩ = some (.slice (some ⟨ub, uo, none⟩) xp.length uc) := cell_of_row wr xb 2 _ _ _ hbi
                have HEV := Lib.hid hev
                have HPS := Lib.hid hps
                have HI1 := Lib.hid hI1
                have HF1 := Lib.hid hF1
                have HK1 := Lib.hid hK1
                have HN1 := Lib.hid hN1
                have HBI := Lib.hid hbi
                have HLF := Lib.hid hlF
                have HGF := Lib.hid hgF
                clear hbi hI1 hF1 hK1 hN1 hev hps hbb hqq hee huu hsw hlF hgF
                go_upto_region 12 with (fail)
                have hBx : Below wr.heap.size wr (wr.alloc (.cells #[.string ev.kind, .string ev.data] 77)) := (Below.refl _ wr).alloc (Nat.le_refl _) _
                have hbx := heap_alloc_new wr (.cells #[.string ev.kind, .string ev.data] 77)
                generalize wr.alloc (.cells #[.string ev.kind, .string ev.data] 77) = wz at hBx hbx ⊢
                obtain ⟨yb, hyb⟩ : ∃ z, wr.heap.size = z := ⟨_, rfl⟩
                have b0 := (hBx.cell (p := ⟨b, 0, none⟩) (lt_of_cellP b0)).trans b0
                have q0 := (hBx.cell (p := ⟨q, 0, none⟩) (lt_of_cellP q0)).trans q0
                have z0 := (hBx.cell (p := ⟨xb, 0, none⟩) (lt_of_cellP z0)).trans z0
                have z2 := (hBx.cell (p := ⟨xb, 2, none⟩) (lt_of_cellP z2)).trans z2
                have v0 := (hBx.cell (p := ⟨ub, uo + j, none⟩) (lt_of_cellP v0)).trans v0
                have y0 : wz.cell? ⟨yb, 0, none⟩ = some (.string ev.kind) := cell_of_row wz yb 0 _ _ _ (hyb ▸ hbx)
                have y1 : wz.cell? ⟨yb, 1, none⟩ = some (.string ev.data) := cell_of_row wz yb 1 _ _ _ (hyb ▸ hbx)
                rw [hyb]
                have hBd : Below wz.heap.size wz ((wz.alloc (.cells #[.string ev.kind, .string ev.data] 77)).drew) := ((Below.refl _ wz).alloc (Nat.le_refl _) _).trans ⟨rfl, rfl, rfl, Nat.le_refl _, fun _ _ => rfl⟩
                have hone : (((p.ss.take k).flatMap onesOf ++ (onesOf ⟨xn, xe, xp⟩).take j) ++ [ev].map (Idx.mkOne xn ps)) = (p.ss.take k).flatMap onesOf ++ (onesOf ⟨xn, xe, xp⟩).take (j + 1) := by
                  have hz : j < (onesOf ⟨xn, xe, xp⟩).length := by unfold onesOf; rw [List.length_map, List.length_zip]; exact Nat.lt_min.2 ⟨hjp, hjl⟩
                  rw [List.append_assoc, List.take_succ_eq_append_getElem hz]
                  congr 2
                  simp [onesOf, HEV.out, HPS.out]
                have hlen : ((p.ss.take k).flatMap onesOf ++ (onesOf ⟨xn, xe, xp⟩).take j).length + 1 ≤ 1073741824 := by
                  have h1 := HN2.out
                  have h2 : p.ss = p.ss.take k ++ (⟨xn, xe, xp⟩ :: p.ss.drop (k + 1)) := by rw [← HSPK.out, ← List.drop_eq_getElem_cons hlt, List.take_append_drop]
                  rw [h2, List.flatMap_append, List.flatMap_cons, List.length_append, List.length_append] at h1
                  rw [List.length_append, List.length_take]
                  omega
                have hadd := Idx.add_any ((wz.alloc (.cells #[.string ev.kind, .string ev.data] 77)).drew) px _ F1 (fun k => k = wz.heap.size) ((HI1.out.fresh hBx).fresh hBd) ps xn (.slice (some ⟨wz.heap.size, 0, none⟩) 1 1) [ev] (Sl.single (fr := (0, 0)) (heap_alloc_new wz _) rfl) (fun k e h => by have := HLF.out k h; have := hBx.size; omega) (by have := HNX.out.1; unfold maxLen; omega) (by simpa using hlen)
                rw [hone] at hadd
                have HADD := Lib.hid hadd
                have HBx := Lib.hid hBx
                have HBd := Lib.hid hBd
                have HYB := Lib.hid hyb
                clear hadd hBx hBd hbx hyb hone hlen
                go_region_held3 (fun x => x.cell? ⟨b, 0, none⟩ = some (.pointer (some ⟨q, 0, none⟩)) ∧ x.cell? ⟨q, 0, none⟩ = some (.pointer (some ⟨px, 0, none⟩)) ∧ x.cell? ⟨xb, 0, none⟩ = some (.string xn) ∧ x.cell? ⟨xb, 2, none⟩ = some (.slice (some ⟨ub, uo, none⟩) xp.length uc) ∧ x.cell? ⟨ub, uo + j, none⟩ = some (.int .i64 ps) ∧ x.cell? ⟨yb, 0, none⟩ = some (.string ev.kind) ∧ x.cell? ⟨yb, 1, none⟩ = some (.string ev.data))
                  (first | exact ⟨by assumption, by assumption, by assumption, by assumption, by assumption, by assumption, by assumption⟩ | go_keep)
                  (first
                    | (go_at_call 95
                       refine HADD.out.mono ?_
                       rintro e wv ⟨rfl, hK, hI⟩
                       have HKA := Lib.hid hK
                       have hK := Lib.hid ((Keeps.of_fresh HBd.out F1).trans hK)
                       have HIv := Lib.hid hI
                       have b0 := (hK.out.cell (a := ⟨b, 0, none⟩) (lt_of_cellP b0) (fun h => (HGF.out _ h).2.2 rfl)).trans b0
                       have q0 := (hK.out.cell (a := ⟨q, 0, none⟩) (lt_of_cellP q0) (fun h => (HGF.out _ h).2.1 rfl)).trans q0
                       have z0 := (hK.out.cell (a := ⟨xb, 0, none⟩) (lt_of_cellP z0) (HN1.out _ rfl)).trans z0
                       have z2 := (hK.out.cell (a := ⟨xb, 2, none⟩) (lt_of_cellP z2) (HN1.out _ rfl)).trans z2
                       have v0 := (hK.out.cell (a := ⟨ub, uo + j, none⟩) (lt_of_cellP v0) (fun h => by have : g < ub := (HGF.out _ h).1; omega)).trans v0
                       have y0 := (hK.out.cell (a := ⟨yb, 0, none⟩) (lt_of_cellP y0) (fun h => by have : yb < wr.heap.size := HLF.out _ h; have := HYB.out; omega)).trans y0
                       have y1 := (hK.out.cell (a := ⟨yb, 1, none⟩) (lt_of_cellP y1) (fun h => by have : yb < wr.heap.size := HLF.out _ h; have := HYB.out; omega)).trans y1
                       clear hI))
                clear b0 q0 z0 z2 v0 y0 y1
                go_wp2_with fail
                go_roundw
                case measure => simp [Go.RowKit.intOf]; omega
                case rel =>
                  have hws := HBx.out.size
                  have hwd := HBd.out.size
                  refine ⟨j + 1, hjl, by go_num, ⟨_, HIv.out, fun k hk => ?_, (HK1.out.fresh HBx.out).andThen hK.out (fun i hi h => ?_), fun k e => ?_⟩, hK.out.grownTo ((Keeps.of_fresh HBx.out (fun _ => False)).grownTo HBI.out id) (HN1.out _ rfl)⟩
                  · rcases hk with hk | hk
                    · exact HF1.out k hk
                    · have := HK1.out.size
                      exact .inr (by omega)
                  · rcases HF1.out i h with h | h
                    · exact h
                    · omega
                  · subst e
                    have := (Array.getElem?_eq_some_iff.1 HBI.out).1
                    rintro (h | h)
                    · exact HN1.out _ rfl h
                    · omega
              · have hjd : j = xe.length := by omega
                subst hjd
                have hXi2 : XSt w5 px FX (fun _ => False) ((p.ss.take (k + 1)).flatMap onesOf) wr := by
                  have h0 : (onesOf ⟨xn, xe, xp⟩).take xe.length = onesOf ⟨xn, xe, xp⟩ := List.take_of_length_le (by unfold onesOf; rw [List.length_map, List.length_zip]; exact Nat.min_le_right _ _)
                  rw [h0] at hXi
                  obtain ⟨F, a, b, c, _⟩ := hXi
                  refine ⟨F, ?_, b, c, fun k h => h.elim⟩
                  rw [List.take_succ_eq_append_getElem hlt, List.flatMap_append, List.flatMap_cons, List.flatMap_nil, List.append_nil, HSPK.out]
                  exact a
                have HX2 := Lib.hid hXi2
                clear hXi hXi2 hbi
                go_wp2_with fail
                go_roundw
                case measure => simp [Go.RowKit.intOf]; omega
                case rel =>
                  refine ⟨k + 1, hlt, by go_num, HX2.out, fun j h hj => ?_, fun j h hj => ?_⟩
                  · by_cases hjk : j = k
                    · subst hjk; exact HYES.out.1
                    · exact HOK.out j h (by omega)
                  · by_cases hjk : j + 1 = k
                    · subst hjk; exact HYES.out.2 j rfl
                    · exact HUP.out j h (by omega)
      · have hkd : k = p.ss.length := by omega
        subst hkd
        have hXf := HXS.out
        rw [List.take_length] at hXf
        obtain ⟨F1, hI1, hF1, hK1, _⟩ := hXf
        have HX6 := Lib.hid hI1
        have HF6 := Lib.hid hF1
        have HT6 := Lib.hid (HTb.out.keep hK1 (fun k hk e => HXT.out k e hk))
        have h56 := hK1.size
        have HX6l := Lib.hid (idx_lt hI1)
        have x2 : wr.cell? ⟨g, 2, none⟩ = some (.slice B p.rs.length d) := cell_of_row wr g 2 _ _ _ HBLr.out
        clear hI1 hF1 hK1 x1
        obtain ⟨w6, rfl⟩ : ∃ z, z = wr := ⟨_, rfl⟩
        go_wp2_with fail
        go_loopw [10, 11, 82] (fun _ _ i wr => GRel w6 pt FT GT p i wr) (fun _ _ i _ => p.rs.length - (Go.RowKit.intOf i).toNat)
        case atStart => exact ⟨0, Nat.zero_le _, rfl, ⟨FT, GT, HT6.out, fun k hk => .inl hk, fun k hk => .inl hk, Keeps.refl _ _⟩, fun j h hj => absurd hj (by omega), fun j h hj => absurd hj (by omega)⟩
        case round =>
          obtain ⟨k, hk, rfl, ⟨F2, G2, hI2, hF2, hG2, hK2⟩, hok, hup⟩ := hrel
          have hGF2 : ∀ k, G2 k → F2 k := by obtain ⟨bm, R, h, _⟩ := hI2; exact h.gf
          have hgF : ∀ k, F2 k → g < k ∧ k ≠ q ∧ k ≠ b := fun k hk => by
            rcases hF2 k hk with h | h
            · have := HF.out.2.1 k h; omega
            · omega
          have hBr : Below w.heap.size w wr := Below.keep HBr.out hK2 HBr.out.size (fun k hk => by have := (HF.out.2.1 k (HF.out.2.2 k hk)).1; omega)
          have hgb := hK2.grownTo HBLr.out (fun e => by have := (HF.out.2.1 g (HF.out.2.2 g e)).1; omega)
          have hbb := hK2.grownTo HB4r.out (fun e => by have := (HF.out.2.1 b (HF.out.2.2 b e)).2.2; omega)
          have hqq := hK2.grownTo HQr.out (fun e => (HF.out.2.1 q (HF.out.2.2 q e)).2.1 rfl)
          have x0 : wr.cell? ⟨g, 0, none⟩ = some (.int .i64 p.ap) := cell_of_row wr g 0 _ _ _ hgb
          have x2 : wr.cell? ⟨g, 2, none⟩ = some (.slice B p.rs.length d) := cell_of_row wr g 2 _ _ _ hgb
          have b0 : wr.cell? ⟨b, 0, none⟩ = some (.pointer (some ⟨q, 0, none⟩)) := cell_of_row wr b 0 _ _ _ hbb
          have q1 : wr.cell? ⟨q, 1, none⟩ = some (.pointer (some ⟨pt, 0, none⟩)) := cell_of_row wr q 1 _ _ _ hqq
          have HI2 := Lib.hid hI2
          have HF2 := Lib.hid hF2
          have HG2 := Lib.hid hG2
          have HK2 := Lib.hid hK2
          have HGF2 := Lib.hid hGF2
          have HGF := Lib.hid hgF
          have HBr2 := Lib.hid hBr
          have HOK2 := Lib.hid hok
          have HUP2 := Lib.hid hup
          have HBB := Lib.hid hbb
          have HQQ := Lib.hid hqq
          have hgl := (Array.getElem?_eq_some_iff.1 hgb).1
          have hbl := (Array.getElem?_eq_some_iff.1 hbb).1
          have hql := (Array.getElem?_eq_some_iff.1 hqq).1
          clear hI2 hF2 hG2 hK2 hGF2 hgF hBr hgb hbb hqq hok hup
          by_cases hlt : k < p.rs.length
          · have hrow := HR.out.fresh HBr2.out
            obtain ⟨rq, ro, rfl, hGq, hrl, hxx⟩ := hrow.cell_ hlt
            obtain ⟨r, hr⟩ : ∃ r, p.rs[k] = r := ⟨_, rfl⟩
            rw [hr] at hxx
            have y0 := hxx 0 _ rfl
            have y1 := hxx 1 _ rfl
            have y2 := hxx 2 _ rfl
            have y3 := hxx 3 _ rfl
            have y4 := hxx 4 _ rfl
            have y5 := hxx 5 _ rfl
            simp only [Nat.add_zero] at y0
            have HRW := Lib.hid hrow
            have HR1 := Lib.hid hr
            clear hrow hxx hr
            go_upto_region 18 with (fail)
            have hBx : Below wr.heap.size wr (wr.alloc (.cells #[.int .i64 r.ses, .int .i64 r.seq, .int .i64 r.o.code, .int .i64 r.o.pos, .int .i64 r.o.first, .int .i64 r.o.ver] 94)) := (Below.refl _ wr).alloc (Nat.le_refl _) _
            have hbx := heap_alloc_new wr (.cells #[.int .i64 r.ses, .int .i64 r.seq, .int .i64 r.o.code, .int .i64 r.o.pos, .int .i64 r.o.first, .int .i64 r.o.ver] 94)
            generalize wr.alloc (.cells #[.int .i64 r.ses, .int .i64 r.seq, .int .i64 r.o.code, .int .i64 r.o.pos, .int .i64 r.o.first, .int .i64 r.o.ver] 94) = wx at hBx hbx ⊢
            obtain ⟨xb, hxb⟩ : ∃ z, wr.heap.size = z := ⟨_, rfl⟩
            rw [hxb] at hbx ⊢
            have x0 := (hBx.cell (p := ⟨g, 0, none⟩) (lt_of_cellP x0)).trans x0
            have x2 := (hBx.cell (p := ⟨g, 2, none⟩) (lt_of_cellP x2)).trans x2
            have z0 : wx.cell? ⟨xb, 0, none⟩ = some (.int .i64 r.ses) := cell_of_row wx xb 0 _ _ _ hbx
            have z1 : wx.cell? ⟨xb, 1, none⟩ = some (.int .i64 r.seq) := cell_of_row wx xb 1 _ _ _ hbx
            have z2 : wx.cell? ⟨xb, 2, none⟩ = some (.int .i64 r.o.code) := cell_of_row wx xb 2 _ _ _ hbx
            have z3 : wx.cell? ⟨xb, 3, none⟩ = some (.int .i64 r.o.pos) := cell_of_row wx xb 3 _ _ _ hbx
            have z4 : wx.cell? ⟨xb, 4, none⟩ = some (.int .i64 r.o.first) := cell_of_row wx xb 4 _ _ _ hbx
            have z5 : wx.cell? ⟨xb, 5, none⟩ = some (.int .i64 r.o.ver) := cell_of_row wx xb 5 _ _ _ hbx
            have HBX := Lib.hid hBx
            have Hbx := Lib.hid hbx
            have HXB := Lib.hid hxb
            have HQR := Lib.hid (qright_any wx.drew r p.ap)
            clear hBx hbx hxb y0 y1 y2 y3 y4 y5
            go_cut [106] (fun s106 wy => ∃ B7 : Bool, s106 = .bool B7 ∧ Below wx.heap.size wx wy ∧ (B7 = true → ¬ PtOk p) ∧ (B7 = false → rqOk p.ap (p.rs[k]) = true ∧ ∀ m (h : m + 1 = k), Rises (p.rs[m]'(by omega)) (p.rs[k])))
            case first =>
              cases hsp : rqOk p.ap r
              · have hNO : Hid (¬ PtOk p) := Lib.hid (fun h => by have := h.rs k hlt; rw [HR1.out, hsp] at this; cases this)
                have HSP := Lib.hid hsp
                clear hsp
                go_wp2_with fail
                refine region_mid 3 rfl (by kernel_rfl) (by kernel_rfl) ?_
                simp only [List.take_succ_cons, List.take_zero, List.drop_succ_cons, List.drop_zero]
                change wpStill _ _ wx.drew _ _ _
                refine still_of_quiet ?_
                repeat (go_big_quiet_step (fail))
                refine wpQuiet_nil ?_
                change wpList _ _ _ _ _ wx.drew
                go_wp2_with fail
                refine HQR.out.mono ?_
                rintro e wv ⟨he, hBv⟩
                rw [HSP.out] at he
                subst he
                have hBv : Below wx.heap.size wx wv := ⟨hBv.os, hBv.tape, hBv.output, hBv.size, hBv.block⟩
                have HBv := Lib.hid hBv
                clear hBv
                go_wp2_with fail
                unfold Go.Bl.Rest
                refine still_of_quiet ?_
                repeat (go_big_quiet_step (fail))
                refine wpQuiet_nil ?_
                go_wp2_with fail
                go_meet
                exact ⟨true, rfl, HBv.out, fun _ => hNO.out, fun h => by cases h⟩
              · have HOK7 : Hid (rqOk p.ap p.rs[k] = true) := Lib.hid (by rw [HR1.out]; exact hsp)
                have HSP := Lib.hid hsp
                clear hsp
                rcases Nat.eq_zero_or_pos k with hk0 | hk0
                · subst hk0
                  go_wp2_with fail
                  refine region_mid 3 rfl (by kernel_rfl) (by kernel_rfl) ?_
                  simp only [List.take_succ_cons, List.take_zero, List.drop_succ_cons, List.drop_zero]
                  change wpStill _ _ wx.drew _ _ _
                  refine still_of_quiet ?_
                  repeat (go_big_quiet_step (fail))
                  refine wpQuiet_nil ?_
                  change wpList _ _ _ _ _ wx.drew
                  go_wp2_with fail
                  refine HQR.out.mono ?_
                  rintro e wv ⟨he, hBv⟩
                  rw [HSP.out] at he
                  subst he
                  have hBv : Below wx.heap.size wx wv := ⟨hBv.os, hBv.tape, hBv.output, hBv.size, hBv.block⟩
                  have HBv := Lib.hid hBv
                  clear hBv
                  go_wp2_with fail
                  unfold Go.Bl.Rest
                  refine still_of_quiet ?_
                  repeat (go_big_quiet_step (fail))
                  refine wpQuiet_nil ?_
                  go_wp2_with fail
                  go_meet
                  exact ⟨false, rfl, HBv.out, (fun h => by cases h), fun _ => ⟨HOK7.out, fun m h => by omega⟩⟩
                · obtain ⟨m, hkm⟩ : ∃ m, k = m + 1 := ⟨k - 1, by omega⟩
                  have HKM := Lib.hid hkm
                  have hml : m < p.rs.length := by omega
                  have hwm : IntKind.i64.wrap ((k : Int) - 1) = (m : Int) := by rw [IntWalk.i64_in _ (by omega)]; omega
                  obtain ⟨q2, o2, he, _, _, hyy⟩ := HRW.out.cell_ hml
                  injection he with he
                  injection he with he1 he2
                  subst he1 he2
                  obtain ⟨a, ha⟩ : ∃ a, p.rs[m]'hml = a := ⟨_, rfl⟩
                  rw [ha] at hyy
                  have p0 := (HBX.out.cell (p := ⟨rq, ro + m * 6 + 0, none⟩) (lt_of_cellP (hyy 0 _ rfl))).trans (hyy 0 _ rfl)
                  have p1 := (HBX.out.cell (p := ⟨rq, ro + m * 6 + 1, none⟩) (lt_of_cellP (hyy 1 _ rfl))).trans (hyy 1 _ rfl)
                  have p2 := (HBX.out.cell (p := ⟨rq, ro + m * 6 + 2, none⟩) (lt_of_cellP (hyy 2 _ rfl))).trans (hyy 2 _ rfl)
                  have p3 := (HBX.out.cell (p := ⟨rq, ro + m * 6 + 3, none⟩) (lt_of_cellP (hyy 3 _ rfl))).trans (hyy 3 _ rfl)
                  have p4 := (HBX.out.cell (p := ⟨rq, ro + m * 6 + 4, none⟩) (lt_of_cellP (hyy 4 _ rfl))).trans (hyy 4 _ rfl)
                  have p5 := (HBX.out.cell (p := ⟨rq, ro + m * 6 + 5, none⟩) (lt_of_cellP (hyy 5 _ rfl))).trans (hyy 5 _ rfl)
                  simp only [Nat.add_zero] at p0
                  have HA := Lib.hid ha
                  have HRI := Lib.hid (fun wz => rises_any wz r a)
                  have HNe : Hid (risesB a r = false → ¬ PtOk p) := Lib.hid (fun hb h => by
                    have := h.ri m (by have := HKM.out; omega)
                    rw [HA.out, show p.rs[m + 1]'(by have := HKM.out; omega) = r by rw [← HR1.out]; simp only [HKM.out], ← risesB_iff, hb] at this
                    cases this)
                  have hm1 : (0 : Int) ≤ (m : Int) := by omega
                  have hm2 : (m : Int) < (p.rs.length : Int) := by omega
                  clear hyy ha hkm
                  go_wp2_with fail
                  go_region_held3 (fun x => x.cell? ⟨g, 0, none⟩ = some (.int .i64 p.ap) ∧ x.cell? ⟨xb, 0, none⟩ = some (.int .i64 r.ses) ∧ x.cell? ⟨xb, 1, none⟩ = some (.int .i64 r.seq) ∧ x.cell? ⟨xb, 2, none⟩ = some (.int .i64 r.o.code) ∧ x.cell? ⟨xb, 3, none⟩ = some (.int .i64 r.o.pos) ∧ x.cell? ⟨xb, 4, none⟩ = some (.int .i64 r.o.first) ∧ x.cell? ⟨xb, 5, none⟩ = some (.int .i64 r.o.ver) ∧ x.cell? ⟨g, 2, none⟩ = some (.slice (some ⟨rq, ro, none⟩) p.rs.length d) ∧ x.cell? ⟨rq, ro + m * 6, none⟩ = some (.int .i64 a.ses) ∧ x.cell? ⟨rq, ro + m * 6 + 1, none⟩ = some (.int .i64 a.seq) ∧ x.cell? ⟨rq, ro + m * 6 + 2, none⟩ = some (.int .i64 a.o.code) ∧ x.cell? ⟨rq, ro + m * 6 + 3, none⟩ = some (.int .i64 a.o.pos) ∧ x.cell? ⟨rq, ro + m * 6 + 4, none⟩ = some (.int .i64 a.o.first) ∧ x.cell? ⟨rq, ro + m * 6 + 5, none⟩ = some (.int .i64 a.o.ver))
                    (first | exact ⟨by assumption, by assumption, by assumption, by assumption, by assumption, by assumption, by assumption, by assumption, by assumption, by assumption, by assumption, by assumption, by assumption, by assumption⟩ | go_keep)
                    (first
                      | (go_at_call 96
                         refine HQR.out.mono ?_
                         rintro e wv ⟨he, hBv⟩
                         rw [HSP.out] at he
                         subst he
                         have hBv : Below wx.heap.size wx wv := ⟨hBv.os, hBv.tape, hBv.output, hBv.size, hBv.block⟩
                         have x0 := (hBv.cell (p := ⟨g, 0, none⟩) (lt_of_cellP x0)).trans x0
                         have x2 := (hBv.cell (p := ⟨g, 2, none⟩) (lt_of_cellP x2)).trans x2
                         have z0 := (hBv.cell (p := ⟨xb, 0, none⟩) (lt_of_cellP z0)).trans z0
                         have z1 := (hBv.cell (p := ⟨xb, 1, none⟩) (lt_of_cellP z1)).trans z1
                         have z2 := (hBv.cell (p := ⟨xb, 2, none⟩) (lt_of_cellP z2)).trans z2
                         have z3 := (hBv.cell (p := ⟨xb, 3, none⟩) (lt_of_cellP z3)).trans z3
                         have z4 := (hBv.cell (p := ⟨xb, 4, none⟩) (lt_of_cellP z4)).trans z4
                         have z5 := (hBv.cell (p := ⟨xb, 5, none⟩) (lt_of_cellP z5)).trans z5
                         have p0 := (hBv.cell (p := ⟨rq, ro + m * 6, none⟩) (lt_of_cellP p0)).trans p0
                         have p1 := (hBv.cell (p := ⟨rq, ro + m * 6 + 1, none⟩) (lt_of_cellP p1)).trans p1
                         have p2 := (hBv.cell (p := ⟨rq, ro + m * 6 + 2, none⟩) (lt_of_cellP p2)).trans p2
                         have p3 := (hBv.cell (p := ⟨rq, ro + m * 6 + 3, none⟩) (lt_of_cellP p3)).trans p3
                         have p4 := (hBv.cell (p := ⟨rq, ro + m * 6 + 4, none⟩) (lt_of_cellP p4)).trans p4
                         have p5 := (hBv.cell (p := ⟨rq, ro + m * 6 + 5, none⟩) (lt_of_cellP p5)).trans p5
                         have HBv := Lib.hid hBv
                         clear hBv)
                      | (go_at_call 97
                         refine (HRI.out _).mono ?_
                         rintro e wu ⟨rfl, hBu⟩
                         have x0 := (hBu.cell (p := ⟨g, 0, none⟩) (lt_of_cellP x0)).trans x0
                         have x2 := (hBu.cell (p := ⟨g, 2, none⟩) (lt_of_cellP x2)).trans x2
                         have z0 := (hBu.cell (p := ⟨xb, 0, none⟩) (lt_of_cellP z0)).trans z0
                         have z1 := (hBu.cell (p := ⟨xb, 1, none⟩) (lt_of_cellP z1)).trans z1
                         have z2 := (hBu.cell (p := ⟨xb, 2, none⟩) (lt_of_cellP z2)).trans z2
                         have z3 := (hBu.cell (p := ⟨xb, 3, none⟩) (lt_of_cellP z3)).trans z3
                         have z4 := (hBu.cell (p := ⟨xb, 4, none⟩) (lt_of_cellP z4)).trans z4
                         have z5 := (hBu.cell (p := ⟨xb, 5, none⟩) (lt_of_cellP z5)).trans z5
                         have p0 := (hBu.cell (p := ⟨rq, ro + m * 6, none⟩) (lt_of_cellP p0)).trans p0
                         have p1 := (hBu.cell (p := ⟨rq, ro + m * 6 + 1, none⟩) (lt_of_cellP p1)).trans p1
                         have p2 := (hBu.cell (p := ⟨rq, ro + m * 6 + 2, none⟩) (lt_of_cellP p2)).trans p2
                         have p3 := (hBu.cell (p := ⟨rq, ro + m * 6 + 3, none⟩) (lt_of_cellP p3)).trans p3
                         have p4 := (hBu.cell (p := ⟨rq, ro + m * 6 + 4, none⟩) (lt_of_cellP p4)).trans p4
                         have p5 := (hBu.cell (p := ⟨rq, ro + m * 6 + 5, none⟩) (lt_of_cellP p5)).trans p5
                         have hBu : Below wx.heap.size wx wu := HBv.out.trans (hBu.mono HBv.out.size)
                         have HBu := Lib.hid hBu
                         clear hBu))
                  go_wp2_with fail
                  go_meet
                  refine ⟨!risesB a r, rfl, HBu.out, fun h => HNe.out (by simpa using h), fun h => ⟨HOK7.out, fun m' hm' => ?_⟩⟩
                  have hmm : m' = m := by have := HKM.out; omega
                  subst hmm
                  rw [HA.out, HR1.out, ← risesB_iff]
                  simpa using h
            case rest =>
              obtain ⟨B7, rfl, hBy, hno, hyes⟩ := hcut
              have HBr3 := Lib.hid ((HBr2.out.trans (HBX.out.mono HBr2.out.size)).trans (hBy.mono (Nat.le_trans HBr2.out.size HBX.out.size)))
              cases B7
              case true =>
                have hNO : Hid (¬ PtOk p) := Lib.hid (hno rfl)
                clear hno hyes x0 x2 z0 z1 z2 z3 z4 z5 b0 q1
                go_wp2_with fail
                exact bodyPost_ret (v := .tuple #[.pointer none, .int .i64 1]) (by simp [results, Tryz.results45, go_sem]) rfl ⟨HBr3.out, fun hp => absurd hp hNO.out, fun _ => rfl⟩
              case false =>
                have HYES := Lib.hid (hyes rfl)
                have hBxy : Below wr.heap.size wr wc := HBX.out.trans (hBy.mono HBX.out.size)
                have b0 := (hBxy.cell (p := ⟨b, 0, none⟩) (lt_of_cellP b0)).trans b0
                have q1 := (hBxy.cell (p := ⟨q, 1, none⟩) (lt_of_cellP q1)).trans q1
                have z0 := (hBy.cell (p := ⟨xb, 0, none⟩) (lt_of_cellP z0)).trans z0
                have z1 := (hBy.cell (p := ⟨xb, 1, none⟩) (lt_of_cellP z1)).trans z1
                have z2 := (hBy.cell (p := ⟨xb, 2, none⟩) (lt_of_cellP z2)).trans z2
                have z3 := (hBy.cell (p := ⟨xb, 3, none⟩) (lt_of_cellP z3)).trans z3
                have z4 := (hBy.cell (p := ⟨xb, 4, none⟩) (lt_of_cellP z4)).trans z4
                have z5 := (hBy.cell (p := ⟨xb, 5, none⟩) (lt_of_cellP z5)).trans z5
                have HBxy := Lib.hid hBxy
                have hput := put_rise (rs := p.rs) hlt (fun i h hi => by
                  have hq : rqOk p.ap p.rs[i] = true := by
                    by_cases hik : i = k
                    · subst hik; exact HYES.out.1
                    · exact HOK2.out i h (by omega)
                  have := rqOk_nums hq
                  omega) (fun i h hi => by
                    by_cases hik : i + 1 = k
                    · subst hik; exact HYES.out.2 i rfl
                    · exact HUP2.out i h (by omega))
                have hnum := rqOk_nums HYES.out.1
                have HPA := Ded.put_any wc.drew pt (p.rs.take k) F2 G2 (HI2.out.fresh (hBxy.trans ⟨rfl, rfl, rfl, Nat.le_refl _, fun _ _ => rfl⟩)) p.rs[k].ses p.rs[k].seq (by unfold Ded.i64; omega) (by unfold Ded.i64; omega) p.rs[k].o (by have := HM.out; rw [List.length_take]; omega)
                rw [hput, HR1.out] at HPA
                have HPA := Lib.hid HPA
                clear hno hyes x0 x2 hBy hBxy hput hnum
                go_wp2_with fail
                refine region_mid 10 rfl (by kernel_rfl) (by kernel_rfl) ?_
                simp only [List.take_succ_cons, List.take_zero, List.drop_succ_cons, List.drop_zero]
                change wpStill _ _ wc.drew _ _ _
                refine still_of_quiet ?_
                repeat (go_big_quiet_step (fail))
                refine wpQuiet_nil ?_
                change wpList _ _ _ _ _ wc.drew
                go_wp2_with fail
                refine HPA.out.mono ?_
                rintro e wv ⟨rfl, hK, G3, hG3, hT3⟩
                have HKv := Lib.hid hK
                have HG3 := Lib.hid hG3
                have HT3 := Lib.hid hT3
                clear hK hG3 hT3 b0 q1 z0 z1 z2 z3 z4 z5
                go_wp2_with fail
                unfold Go.Bl.Rest
                refine still_of_quiet ?_
                repeat (go_big_quiet_step (fail))
                refine wpQuiet_nil ?_
                go_wp2_with fail
                go_roundw
                case measure => simp [Go.RowKit.intOf]; omega
                case rel =>
                  refine ⟨k + 1, hlt, by go_num, TSt.step (wx := wc.drew) HF2.out HG2.out (HK2.out.fresh (HBxy.out.trans ⟨rfl, rfl, rfl, Nat.le_refl _, fun _ _ => rfl⟩)) HKv.out HG3.out HT3.out, fun j h hj => ?_, fun j h hj => ?_⟩
                  · by_cases hjk : j = k
                    · subst hjk; exact HYES.out.1
                    · exact HOK2.out j h (by omega)
                  · by_cases hjk : j + 1 = k
                    · subst hjk; exact HYES.out.2 j rfl
                    · exact HUP2.out j h (by omega)
          · have hkd : k = p.rs.length := by omega
            subst hkd
            have hTf := HI2.out
            rw [List.take_length] at hTf
            cases hab : apBad p.ap
            · have HCC := Lib.hid (ccont_any wr b q pt (.pointer (some ⟨px, 0, none⟩)) p.ap p.rs F2 G2 ⟨b0, HQQ.out, hTf⟩ G _ p.rs (HR.out.fresh HBr2.out) (fun r hr => by
                obtain ⟨i, hi, rfl⟩ := List.getElem_of_mem hr
                have := rqOk_nums (HOK2.out i hi hi)
                unfold Ded.i64
                omega))
              have HTF := Lib.hid hTf
              have HAB := Lib.hid hab
              clear hTf hab
              go_wp2_with fail
              refine HCC.out.mono ?_
              rintro e wv ⟨rfl, hBv⟩
              have b0 := (hBv.cell (p := ⟨b, 0, none⟩) (lt_of_cellP b0)).trans b0
              have HBv := Lib.hid hBv
              clear hBv
              cases hun : p.rs.any (unkB p.rs)
              · have HUN := Lib.hid hun
                clear hun
                go_wp2_with fail
                refine bodyPost_ret (v := .tuple #[.pointer (some ⟨q, 0, none⟩), .int .i64 0]) (by simp [results, Tryz.results45, go_sem]) rfl ⟨HBr2.out.trans (HBv.out.mono HBr2.out.size), fun _ => ⟨q, fun k => F1 k ∨ F2 k ∨ k = q, fun k => F1 k ∨ G2 k ∨ k = q, rfl, ⟨px, pt, F1, F2, G2, ?_⟩, ?_⟩, fun hno => absurd ?_ hno⟩
                · have hx : ∀ k, F1 k → ¬ F2 k := fun k h1 h2 => by
                    have := HX6l.out k h1
                    rcases HF2.out k h2 with h2 | h2
                    · rcases HF6.out k h1 with h1 | h1
                      · exact HXT.out k h1 h2
                      · have := (HF.out.2.1 k h2).2.2; omega
                    · omega
                  have hI := ((HX6.out.keep HK2.out (fun k h1 h2 => by
                    have := HX6l.out k h1
                    rcases HF6.out k h1 with h1 | h1
                    · exact HXT.out k h1 (HF.out.2.2 k h2)
                    · have := (HF.out.2.1 k (HF.out.2.2 k h2)).2.2; omega)).fresh HBv.out)
                  have hq1 : ¬ F1 q := fun h => by
                    rcases HF6.out q h with h | h
                    · exact (HF.out.1 q h).2.1 rfl
                    · omega
                  have hq2 : ¬ F2 q := fun h => (HGF.out q h).2.1 rfl
                  refine ⟨(HBv.out.block q hql).trans HQQ.out, hI, HTF.out.fresh HBv.out, hx, hq1, hq2, fun k h => .inl h, fun k h => .inr (.inl h), .inr (.inr rfl), fun k h h2 => ?_, fun k h => .inr (.inl h), fun k h => ?_, fun k h => ?_⟩
                  · rcases h2 with h2 | h2 | h2
                    · exact absurd h (hx k h2)
                    · exact h2
                    · exact absurd (h2 ▸ h) hq2
                  · rcases h with h | h | h
                    · exact .inl h
                    · exact .inr (.inl (HGF2.out k h))
                    · exact .inr (.inr h)
                  · have := HBv.out.size
                    have hwr := HK2.out.size
                    rcases h with h | h | h
                    · have := HX6l.out k h; omega
                    · obtain ⟨bm, R, ht, _⟩ := HTF.out
                      have := ht.lt k h; omega
                    · omega
                · rintro k (h | h | h)
                  · rcases HF6.out k h with h | h
                    · have := (HF.out.1 k h).1; omega
                    · omega
                  · have := (HGF.out k h).1; omega
                  · omega
                · refine ⟨?_, fun i h => HOK.out i h h, fun i h => HUP.out i h h, fun i h => HOK2.out i h h, fun i h => HUP2.out i h h, fun r hr => ?_⟩
                  · have := HAB.out
                    unfold apBad at this
                    simp only [Bool.or_eq_false_iff, decide_eq_false_iff_not] at this
                    omega
                  · have := List.any_eq_false.1 HUN.out r hr
                    unfold unkB at this
                    simpa using this
              · have hNO : Hid (¬ PtOk p) := Lib.hid (fun h => by
                  obtain ⟨r, hr, hu⟩ := List.any_eq_true.1 hun
                  have := h.kn r hr
                  unfold unkB at hu
                  rw [this] at hu
                  cases hu)
                clear hun
                go_wp2_with fail
                exact bodyPost_ret (v := .tuple #[.pointer none, .int .i64 1]) (by simp [results, Tryz.results45, go_sem]) rfl ⟨HBr2.out.trans (HBv.out.mono HBr2.out.size), fun hp => absurd hp hNO.out, fun _ => rfl⟩
            · have hNO : Hid (¬ PtOk p) := Lib.hid (fun h => by
                have := h.ap
                unfold apBad at hab
                simp only [Bool.or_eq_true, decide_eq_true_eq] at hab
                omega)
              clear hTf hab x0 x2 b0 q1
              go_wp2_with fail
              exact bodyPost_ret (v := .tuple #[.pointer none, .int .i64 1]) (by simp [results, Tryz.results45, go_sem]) rfl ⟨HBr2.out, fun hp => absurd hp hNO.out, fun _ => rfl⟩
/-- state.Of. -/
theorem of_any (w : World) (hT : Tabs w) (G : Nat → Prop) (hG : ∀ k, G k → k < w.heap.size) (p : Pt) (sv rv : Value) (h : PtAt w G sv rv p)
    (hn : ∀ x ∈ p.ss, x.name.size ≤ 1000000000000000 ∧ ∀ e ∈ x.evs, EvOk e) (hN : (p.ss.flatMap onesOf).length ≤ 1000000) (hM : p.rs.length ≤ 1000000) :
    Calls Tryz.prog 45 #[.agg #[.int .i64 p.ap, sv, rv]] w (OfPost w p) := by
  obtain ⟨S, h1, h2, h3⟩ := h.ss
  exact of_core w hT G hG p S h3.symm sv rv h1 h2 h.rs hn hN hM
theorem eqv_at {w : World} {q : Nat} {s t : St} {F W : Nat → Prop} (h : StAt w q s F W) (he : Eqv s t) (hok : Ded.OkL t.T) : StAt w q t F W := by
  obtain ⟨px, pt, FX, FT, GT, h⟩ := h
  exact ⟨px, pt, FX, FT, GT, by rw [← he.ap]; exact h.blk, idx_eqv h.idx he.ofS, tab_eqv h.tab hok he.high he.find he.len he.ses, h.xt, h.npx, h.npt, h.wx, h.wt, h.wp, h.tw, h.ft, h.wf, h.lt⟩
end Go.Proofs.YthebmbhdlkldiaaGreatDoor
