/- The law's 'same': are parts the document's? Under the stated premises on sizes. -/
import Derived.Test.YthebmbhdlkldiaaGreatDoorParM
import Derived.Test.YthebmbhdlkldiaaGreatDoorIdxD
import Derived.Test.YthebmbhdlkldiaaGreatDoorDedJ
import Derived.Test.YthebmbhdlkldiaaGreatDoorStaE
namespace Go.Proofs.YthebmbhdlkldiaaGreatDoor
open Go.RowKit Go.Bl
attribute [local go_sem ↓] Go.wp_at_zero Go.wp_at_succ

theorem Pt.eq_iff {p q : Pt} : p = q ↔ p.ap = q.ap ∧ p.ss = q.ss ∧ p.rs = q.rs := by
  obtain ⟨a, b, c⟩ := p
  obtain ⟨a', b', c'⟩ := q
  simp
theorem Sp.eq_iff {x y : Sp} : x = y ↔ x.name = y.name ∧ x.evs = y.evs ∧ x.pos = y.pos := by
  obtain ⟨a, b, c⟩ := x
  obtain ⟨a', b', c'⟩ := y
  simp
theorem En.eq_iff {x y : Ded.En} : x = y ↔ x.ses = y.ses ∧ x.seq = y.seq ∧ x.o = y.o := by
  obtain ⟨a, b, c⟩ := x
  obtain ⟨a', b', c'⟩ := y
  simp
set_option maxRecDepth 10000 in
set_option maxHeartbeats 4000000 in
theorem sameP_any (w : World) (G G' : Nat → Prop) (p q : Pt) (sv rv sv' rv' : Value) (h : PtAt w G sv rv p) (h' : PtAt w G' sv' rv' q) :
    Calls Tryz.prog 14 #[.agg #[.int .i64 p.ap, sv, rv], .agg #[.int .i64 q.ap, sv', rv']] w fun e w' => ∃ B : Bool, e = .returned (.bool B) ∧ (B = true ↔ p = q) ∧ Below w.heap.size w w' := by
  obtain ⟨S, hS, hSm, hp⟩ := h.ss
  obtain ⟨Z, hZ, hZm, hq⟩ := h'.ss
  have hR := h.rs
  have hY := h'.rs
  obtain ⟨A, c, rfl, hA1, hA2⟩ := hS.shape
  obtain ⟨B, d, rfl, hB1, hB2⟩ := hR.shape
  obtain ⟨A', c', rfl, hA1', hA2'⟩ := hZ.shape
  obtain ⟨B', d', rfl, hB1', hB2'⟩ := hY.shape
  unfold maxLen at hA2 hB2 hA2' hB2'
  have hB0 : Below w.heap.size w ((w.alloc (.cells #[.int .i64 p.ap, .slice A S.length c, .slice B p.rs.length d] 43)).alloc (.cells #[.int .i64 q.ap, .slice A' Z.length c', .slice B' q.rs.length d'] 37)) := ((Below.refl _ w).alloc (Nat.le_refl _) _).alloc (by simp) _
  have hb1 : ((w.alloc (.cells #[.int .i64 p.ap, .slice A S.length c, .slice B p.rs.length d] 43)).alloc (.cells #[.int .i64 q.ap, .slice A' Z.length c', .slice B' q.rs.length d'] 37)).heap[w.heap.size]? = some (.cells #[.int .i64 p.ap, .slice A S.length c, .slice B p.rs.length d] 43 (0, 0)) := (Below.heap_alloc _ _ _ (by simp)).trans (heap_alloc_new w _)
  have hb2 := heap_alloc_new (w.alloc (.cells #[.int .i64 p.ap, .slice A S.length c, .slice B p.rs.length d] 43)) (.cells #[.int .i64 q.ap, .slice A' Z.length c', .slice B' q.rs.length d'] 37)
  rw [World.size_alloc] at hb2
  have HS := Lib.hid hS
  have HR := Lib.hid hR
  have HZ := Lib.hid hZ
  have HY := Lib.hid hY
  have HSm := Lib.hid hSm
  have HZm := Lib.hid hZm
  have HP := Lib.hid hp
  have HQ := Lib.hid hq
  clear hS hR hZ hY hSm hZm hp hq h h'
  go_enter Tryz.func14, Tryz.ntmps14
  go_upto_region 1 with (fail)
  generalize (w.alloc (.cells #[.int .i64 p.ap, .slice A S.length c, .slice B p.rs.length d] 43)).alloc (.cells #[.int .i64 q.ap, .slice A' Z.length c', .slice B' q.rs.length d'] 37) = w1 at hB0 hb1 hb2 ⊢
  obtain ⟨g, hg⟩ : ∃ g, w.heap.size = g := ⟨_, rfl⟩
  have HBB := Lib.hid hB0
  rw [hg] at hb1 hb2 ⊢
  have HG1 := Lib.hid hb1
  have HG2 := Lib.hid hb2
  have x0 : w1.cell? ⟨g, 0, none⟩ = some (.int .i64 p.ap) := cell_of_row w1 g 0 _ _ _ hb1
  have x1 : w1.cell? ⟨g, 1, none⟩ = some (.slice A S.length c) := cell_of_row w1 g 1 _ _ _ hb1
  have x2 : w1.cell? ⟨g, 2, none⟩ = some (.slice B p.rs.length d) := cell_of_row w1 g 2 _ _ _ hb1
  have y0 : w1.cell? ⟨g + 1, 0, none⟩ = some (.int .i64 q.ap) := cell_of_row w1 _ 0 _ _ _ hb2
  have y1 : w1.cell? ⟨g + 1, 1, none⟩ = some (.slice A' Z.length c') := cell_of_row w1 _ 1 _ _ _ hb2
  have y2 : w1.cell? ⟨g + 1, 2, none⟩ = some (.slice B' q.rs.length d') := cell_of_row w1 _ 2 _ _ _ hb2
  clear hb1 hb2 hB0
  by_cases h1 : p.ap = q.ap
  rotate_left
  · have d1 : (p.ap != q.ap) = true := by simp [h1]
    have hNO : Hid (¬ p = q) := Lib.hid (fun e => h1 (by rw [e]))
    clear h1
    go_wp2_with fail
    go_ret
    exact ⟨false, rfl, ⟨(fun h => by cases h), fun h => absurd h hNO.out⟩, HBB.out⟩
  have d1 : (p.ap != q.ap) = false := by simp [h1]
  have H1 := Lib.hid h1
  clear h1
  by_cases h2 : S.length = Z.length
  rotate_left
  · have d2 : ((S.length : Int) != (Z.length : Int)) = true := by simp; omega
    have hNO : Hid (¬ p = q) := Lib.hid (fun e => h2 (by have h3 := HP.out; rw [e, ← HQ.out] at h3; have := congrArg List.length h3; simpa using this))
    clear h2
    go_wp2_with fail
    go_ret
    exact ⟨false, rfl, ⟨(fun h => by cases h), fun h => absurd h hNO.out⟩, HBB.out⟩
  have d2 : ((S.length : Int) != (Z.length : Int)) = false := by simp; omega
  have H2 := Lib.hid h2
  clear h2
  by_cases h3 : p.rs.length = q.rs.length
  rotate_left
  · have d3 : ((p.rs.length : Int) != (q.rs.length : Int)) = true := by simp; omega
    have hNO : Hid (¬ p = q) := Lib.hid (fun e => h3 (by rw [e]))
    clear h3
    go_wp2_with fail
    go_ret
    exact ⟨false, rfl, ⟨(fun h => by cases h), fun h => absurd h hNO.out⟩, HBB.out⟩
  have d3 : ((p.rs.length : Int) != (q.rs.length : Int)) = false := by simp; omega
  have H3 := Lib.hid h3
  clear h3
  go_wp2_with fail
  go_loopw [5, 6, 7] (fun i _ _ wr => ∃ k : Nat, k ≤ S.length ∧ i = .int .i64 k ∧ Below w1.heap.size w1 wr ∧ ∀ j (h : j < S.length) (h' : j < Z.length), j < k → S[j].sp = Z[j].sp) (fun i _ _ _ => S.length - (Go.RowKit.intOf i).toNat)
  case atStart => exact ⟨0, Nat.zero_le _, rfl, Below.refl _ _, fun j h h' hj => absurd hj (by omega)⟩
  case round =>
    obtain ⟨k, hk, rfl, hB, hall⟩ := hrel
    have x1 := (hB.cell (p := ⟨g, 1, none⟩) (lt_of_cellP x1)).trans x1
    have y1 := (hB.cell (p := ⟨g + 1, 1, none⟩) (lt_of_cellP y1)).trans y1
    have x2 := (hB.cell (p := ⟨g, 2, none⟩) (lt_of_cellP x2)).trans x2
    have y2 := (hB.cell (p := ⟨g + 1, 2, none⟩) (lt_of_cellP y2)).trans y2
    have HBB := Lib.hid (HBB.out.trans (hB.mono HBB.out.size))
    have HB1 := Lib.hid hB
    have HALL := Lib.hid hall
    clear hB hall x0 y0 d1 d2 d3
    by_cases hlt : k < S.length
    · have hlt2 : k < Z.length := by have := H2.out; omega
      obtain ⟨b, o, rfl, _, _, hxx⟩ := (HS.out.fresh HBB.out).cell_ hlt
      obtain ⟨b', o', rfl, _, _, hyy⟩ := (HZ.out.fresh HBB.out).cell_ hlt2
      have hs := HSm.out S[k] (List.getElem_mem hlt)
      have hz := HZm.out Z[k] (List.getElem_mem hlt2)
      obtain ⟨x, hx⟩ : ∃ x, S[k] = x := ⟨_, rfl⟩
      obtain ⟨y, hy⟩ : ∃ x, Z[k] = x := ⟨_, rfl⟩
      rw [hx] at hxx hs
      rw [hy] at hyy hz
      obtain ⟨⟨n, es, ps⟩, xev, xpv, xo1, xo2⟩ := x
      obtain ⟨⟨m, fs, qs⟩, yev, ypv, yo1, yo2⟩ := y
      obtain ⟨E, ec, rfl, hE1, hE2⟩ : ∃ A c, xev = .slice A es.length c ∧ es.length ≤ c ∧ c ≤ maxLen := hs.1.shape
      obtain ⟨U, uc, rfl, hU1, hU2⟩ : ∃ A c, xpv = .slice A ps.length c ∧ ps.length ≤ c ∧ c ≤ maxLen := hs.2.shape
      obtain ⟨E', ec', rfl, hE1', hE2'⟩ : ∃ A c, yev = .slice A fs.length c ∧ fs.length ≤ c ∧ c ≤ maxLen := hz.1.shape
      obtain ⟨U', uc', rfl, hU1', hU2'⟩ : ∃ A c, ypv = .slice A qs.length c ∧ qs.length ≤ c ∧ c ≤ maxLen := hz.2.shape
      have u0 : wr.cell? ⟨b, o + k * 3, none⟩ = some (.string n) := hxx 0 _ rfl
      have u1 : wr.cell? ⟨b, o + k * 3 + 1, none⟩ = some (.slice E es.length ec) := hxx 1 _ rfl
      have u2 : wr.cell? ⟨b, o + k * 3 + 2, none⟩ = some (.slice U ps.length uc) := hxx 2 _ rfl
      have v0 : wr.cell? ⟨b', o' + k * 3, none⟩ = some (.string m) := hyy 0 _ rfl
      have v1 : wr.cell? ⟨b', o' + k * 3 + 1, none⟩ = some (.slice E' fs.length ec') := hyy 1 _ rfl
      have v2 : wr.cell? ⟨b', o' + k * 3 + 2, none⟩ = some (.slice U' qs.length uc') := hyy 2 _ rfl
      have HX := Lib.hid (show S[k].sp = ⟨n, es, ps⟩ by rw [hx])
      have HYK := Lib.hid (show Z[k].sp = ⟨m, fs, qs⟩ by rw [hy])
      have HNE : Hid (¬ S[k].sp = Z[k].sp → ¬ p = q) := Lib.hid (fun hne e => hne (by
        have h3 := HP.out
        rw [e, ← HQ.out] at h3
        have := congrArg (fun l => l[k]?) h3
        simp only [List.getElem?_map, List.getElem?_eq_getElem hlt, List.getElem?_eq_getElem hlt2, Option.map_some, Option.some.injEq] at this
        exact this))
      have HE1 := Lib.hid (show Sl w G 2 evc (.slice E es.length ec) es from hs.1)
      have HE2 := Lib.hid (show Sl w G' 2 evc (.slice E' fs.length ec') fs from hz.1)
      have HI1 := Lib.hid (show Sl w G 1 intc (.slice U ps.length uc) ps from hs.2)
      have HI2 := Lib.hid (show Sl w G' 1 intc (.slice U' qs.length uc') qs from hz.2)
      have hkI : ((0 : Int) ≤ (k : Int)) ∧ ((k : Int) < (S.length : Int)) ∧ ((k : Int) < (Z.length : Int)) := by omega
      obtain ⟨hk1, hk2, hk3⟩ := hkI
      clear hxx hyy hs hz hx hy
      go_upto_region 7 with (fail)
      have hB2 : Below wr.heap.size wr (wr.alloc (.cells #[.string n, .slice E es.length ec, .slice U ps.length uc] 90)) := (Below.refl _ wr).alloc (Nat.le_refl _) _
      have hb1 := heap_alloc_new wr (.cells #[.string n, .slice E es.length ec, .slice U ps.length uc] 90)
      generalize wr.alloc (.cells #[.string n, .slice E es.length ec, .slice U ps.length uc] 90) = w6 at hB2 hb1 ⊢
      obtain ⟨a1, ha1⟩ : ∃ z, wr.heap.size = z := ⟨_, rfl⟩
      rw [ha1] at hb1 ⊢
      have y1' := (hB2.cell (p := ⟨g + 1, 1, none⟩) (lt_of_cellP y1)).trans y1
      have v0 := (hB2.cell (p := ⟨b', o' + k * 3, none⟩) (lt_of_cellP v0)).trans v0
      have v1 := (hB2.cell (p := ⟨b', o' + k * 3 + 1, none⟩) (lt_of_cellP v1)).trans v1
      have v2 := (hB2.cell (p := ⟨b', o' + k * 3 + 2, none⟩) (lt_of_cellP v2)).trans v2
      have HB6 := Lib.hid (HBB.out.trans (hB2.mono HBB.out.size))
      have HB16 := Lib.hid (HB1.out.trans (hB2.mono HB1.out.size))
      clear ha1 hB2
      go_upto_region 8 with (fail)
      have hB7 : Below w6.heap.size w6 (w6.alloc (.cells #[.string m, .slice E' fs.length ec', .slice U' qs.length uc'] 107)) := (Below.refl _ w6).alloc (Nat.le_refl _) _
      have hb2 := heap_alloc_new w6 (.cells #[.string m, .slice E' fs.length ec', .slice U' qs.length uc'] 107)
      have hb1 := (Keeps.of_fresh hB7 (fun _ => False)).grownTo hb1 id
      generalize w6.alloc (.cells #[.string m, .slice E' fs.length ec', .slice U' qs.length uc'] 107) = w7 at hB7 hb2 hb1 ⊢
      obtain ⟨a2, ha2⟩ : ∃ z, w6.heap.size = z := ⟨_, rfl⟩
      rw [ha2] at hb2 ⊢
      have HB7 := Lib.hid (HB6.out.trans (hB7.mono HB6.out.size))
      have HB17 := Lib.hid (HB16.out.trans (hB7.mono HB16.out.size))
      have u0 : w7.cell? ⟨a1, 0, none⟩ = some (.string n) := cell_of_row w7 a1 0 _ _ _ hb1
      have u1 : w7.cell? ⟨a1, 1, none⟩ = some (.slice E es.length ec) := cell_of_row w7 a1 1 _ _ _ hb1
      have u2 : w7.cell? ⟨a1, 2, none⟩ = some (.slice U ps.length uc) := cell_of_row w7 a1 2 _ _ _ hb1
      have v0 : w7.cell? ⟨a2, 0, none⟩ = some (.string m) := cell_of_row w7 a2 0 _ _ _ hb2
      have v1 : w7.cell? ⟨a2, 1, none⟩ = some (.slice E' fs.length ec') := cell_of_row w7 a2 1 _ _ _ hb2
      have v2 : w7.cell? ⟨a2, 2, none⟩ = some (.slice U' qs.length uc') := cell_of_row w7 a2 2 _ _ _ hb2
      clear hb1 hb2 ha2 hB7 y1'
      by_cases h1 : n = m
      rotate_left
      · have e1 : ¬ n.toList = m.toList := fun e => h1 (by rw [Idx.bytes_inj] at e; exact e)
        have e2 : (n.toList == m.toList) = false := by rw [beq_eq_false_iff_ne]; exact e1
        have hNO : Hid (¬ p = q) := Lib.hid (HNE.out (fun e => h1 (by rw [HX.out, HYK.out] at e; injection e)))
        have HBB := HB7
        clear h1
        go_wp2_with fail
        go_ret
        exact ⟨false, rfl, ⟨(fun h => by cases h), fun h => absurd h hNO.out⟩, HBB.out⟩
      have HE := Lib.hid h1
      subst h1
      have HSE := Lib.hid (Idx.same_any w7 G G' _ _ es fs (HE1.out.fresh HB7.out) (HE2.out.fresh HB7.out))
      go_wp2_with fail
      refine HSE.out.mono ?_
      rintro e w8 ⟨rfl, nq, rfl⟩
      have HB8 : Hid (Below w.heap.size w (w7.drewN nq)) := Lib.hid (HB7.out.trans ⟨rfl, rfl, rfl, Nat.le_refl _, fun _ _ => rfl⟩)
      have HB18 : Hid (Below w1.heap.size w1 (w7.drewN nq)) := Lib.hid (HB17.out.trans ⟨rfl, rfl, rfl, Nat.le_refl _, fun _ _ => rfl⟩)
      by_cases h2 : es = fs
      rotate_left
      · have d2 : decide (es = fs) = false := decide_eq_false h2
        have hNO : Hid (¬ p = q) := Lib.hid (HNE.out (fun e => h2 (by rw [HX.out, HYK.out] at e; injection e)))
        have HBB := HB8
        clear h2
        go_wp2_with fail
        go_ret
        exact ⟨false, rfl, ⟨(fun h => by cases h), fun h => absurd h hNO.out⟩, HBB.out⟩
      have d2 : decide (es = fs) = true := decide_eq_true h2
      have H22 := Lib.hid h2
      clear h2
      have HSI := Lib.hid (Ded.sameInts_any (w7.drewN nq) G G' _ _ ps qs (HI1.out.fresh HB8.out) (HI2.out.fresh HB8.out))
      go_wp2_with fail
      refine HSI.out.mono ?_
      rintro e w9 ⟨rfl, nr, rfl⟩
      have HB9 : Hid (Below w.heap.size w (w7.drewN (nq + nr))) := Lib.hid (HB7.out.trans ⟨rfl, rfl, rfl, Nat.le_refl _, fun _ _ => rfl⟩)
      have HB19 : Hid (Below w1.heap.size w1 (w7.drewN (nq + nr))) := Lib.hid (HB17.out.trans ⟨rfl, rfl, rfl, Nat.le_refl _, fun _ _ => rfl⟩)
      by_cases h3 : ps = qs
      rotate_left
      · have d3 : decide (ps = qs) = false := decide_eq_false h3
        have hNO : Hid (¬ p = q) := Lib.hid (HNE.out (fun e => h3 (by rw [HX.out, HYK.out] at e; injection e)))
        have HBB := HB9
        clear h3
        go_wp2_with fail
        go_ret
        exact ⟨false, rfl, ⟨(fun h => by cases h), fun h => absurd h hNO.out⟩, HBB.out⟩
      have d3 : decide (ps = qs) = true := decide_eq_true h3
      have HEQ : Hid (S[k].sp = Z[k].sp) := Lib.hid (by rw [HX.out, HYK.out, H22.out, h3])
      clear h3
      go_wp2_with fail
      go_roundw
      case rel => exact ⟨k + 1, hlt, by go_num, HB19.out, fun j h h' hj => by
        by_cases hjk : j = k
        · subst hjk; exact HEQ.out
        · exact HALL.out j h h' (by omega)⟩
      case measure => simp [Go.RowKit.intOf]; omega
    · have hkd : k = S.length := by omega
      subst hkd
      have HSS : Hid (p.ss = q.ss) := Lib.hid (by
        rw [← HP.out, ← HQ.out]
        refine List.ext_getElem (by simp only [List.length_map]; exact H2.out) (fun j h h' => ?_)
        simp only [List.length_map] at h h'
        simp only [List.getElem_map]
        exact HALL.out j h h' h)
      have HBm := HBB
      have HB1m := HB1
      obtain ⟨w2, rfl⟩ : ∃ z, z = wr := ⟨_, rfl⟩
      go_wp2_with fail
      go_loopw [8, 9, 10] (fun i _ _ wr => ∃ k : Nat, k ≤ p.rs.length ∧ i = .int .i64 k ∧ Below w2.heap.size w2 wr ∧ ∀ j (h : j < p.rs.length) (h' : j < q.rs.length), j < k → p.rs[j] = q.rs[j]) (fun i _ _ _ => p.rs.length - (Go.RowKit.intOf i).toNat)
      case atStart => exact ⟨0, Nat.zero_le _, rfl, Below.refl _ _, fun j h h' hj => absurd hj (by omega)⟩
      case round =>
        obtain ⟨k, hk, rfl, hB, hall⟩ := hrel
        have x1 := (hB.cell (p := ⟨g, 2, none⟩) (lt_of_cellP x2)).trans x2
        have y1 := (hB.cell (p := ⟨g + 1, 2, none⟩) (lt_of_cellP y2)).trans y2
        have HBB := Lib.hid (HBm.out.trans (hB.mono HBm.out.size))
        have HB2 := Lib.hid hB
        have HALL2 := Lib.hid hall
        clear hB hall
        by_cases hlt : k < p.rs.length
        · have hlt2 : k < q.rs.length := by have := H3.out; omega
          obtain ⟨b, o, rfl, _, _, hxx⟩ := (HR.out.fresh HBB.out).cell_ hlt
          obtain ⟨b', o', rfl, _, _, hyy⟩ := (HY.out.fresh HBB.out).cell_ hlt2
          obtain ⟨x, hx⟩ : ∃ x, p.rs[k] = x := ⟨_, rfl⟩
          obtain ⟨y, hy⟩ : ∃ x, q.rs[k] = x := ⟨_, rfl⟩
          rw [hx] at hxx
          rw [hy] at hyy
          obtain ⟨n, es, ps⟩ := x
          obtain ⟨m, fs, qs⟩ := y
          obtain ⟨o1, o2, o3, o4⟩ := ps
          obtain ⟨q1, q2, q3, q4⟩ := qs
          have u0 : wr.cell? ⟨b, o + k * 6, none⟩ = some (.int .i64 n) := hxx 0 _ rfl
          have u1 : wr.cell? ⟨b, o + k * 6 + 1, none⟩ = some (.int .i64 es) := hxx 1 _ rfl
          have u2 : wr.cell? ⟨b, o + k * 6 + 2, none⟩ = some (.int .i64 o1) := hxx 2 _ rfl
          have u3 : wr.cell? ⟨b, o + k * 6 + 3, none⟩ = some (.int .i64 o2) := hxx 3 _ rfl
          have u4 : wr.cell? ⟨b, o + k * 6 + 4, none⟩ = some (.int .i64 o3) := hxx 4 _ rfl
          have u5 : wr.cell? ⟨b, o + k * 6 + 5, none⟩ = some (.int .i64 o4) := hxx 5 _ rfl
          have v0 : wr.cell? ⟨b', o' + k * 6, none⟩ = some (.int .i64 m) := hyy 0 _ rfl
          have v1 : wr.cell? ⟨b', o' + k * 6 + 1, none⟩ = some (.int .i64 fs) := hyy 1 _ rfl
          have v2 : wr.cell? ⟨b', o' + k * 6 + 2, none⟩ = some (.int .i64 q1) := hyy 2 _ rfl
          have v3 : wr.cell? ⟨b', o' + k * 6 + 3, none⟩ = some (.int .i64 q2) := hyy 3 _ rfl
          have v4 : wr.cell? ⟨b', o' + k * 6 + 4, none⟩ = some (.int .i64 q3) := hyy 4 _ rfl
          have v5 : wr.cell? ⟨b', o' + k * 6 + 5, none⟩ = some (.int .i64 q4) := hyy 5 _ rfl
          have HX := Lib.hid hx
          have HYK := Lib.hid hy
          have HNE : Hid (¬ p.rs[k] = q.rs[k] → ¬ p = q) := Lib.hid (fun hne e => hne (by simp only [e]))
          have hkI : ((0 : Int) ≤ (k : Int)) ∧ ((k : Int) < (p.rs.length : Int)) ∧ ((k : Int) < (q.rs.length : Int)) := by omega
          obtain ⟨hk1, hk2, hk3⟩ := hkI
          clear hxx hyy hx hy
          go_upto_region 14 with (fail)
          have hB2 : Below wr.heap.size wr (wr.alloc (.cells #[.int .i64 n, .int .i64 es, .int .i64 o1, .int .i64 o2, .int .i64 o3, .int .i64 o4] 94)) := (Below.refl _ wr).alloc (Nat.le_refl _) _
          have hb1 := heap_alloc_new wr (.cells #[.int .i64 n, .int .i64 es, .int .i64 o1, .int .i64 o2, .int .i64 o3, .int .i64 o4] 94)
          generalize wr.alloc (.cells #[.int .i64 n, .int .i64 es, .int .i64 o1, .int .i64 o2, .int .i64 o3, .int .i64 o4] 94) = w6 at hB2 hb1 ⊢
          obtain ⟨a1, ha1⟩ : ∃ z, wr.heap.size = z := ⟨_, rfl⟩
          rw [ha1] at hb1 ⊢
          have y1' := (hB2.cell (p := ⟨g + 1, 2, none⟩) (lt_of_cellP y1)).trans y1
          have v0 := (hB2.cell (p := ⟨b', o' + k * 6, none⟩) (lt_of_cellP v0)).trans v0
          have v1 := (hB2.cell (p := ⟨b', o' + k * 6 + 1, none⟩) (lt_of_cellP v1)).trans v1
          have v2 := (hB2.cell (p := ⟨b', o' + k * 6 + 2, none⟩) (lt_of_cellP v2)).trans v2
          have v3 := (hB2.cell (p := ⟨b', o' + k * 6 + 3, none⟩) (lt_of_cellP v3)).trans v3
          have v4 := (hB2.cell (p := ⟨b', o' + k * 6 + 4, none⟩) (lt_of_cellP v4)).trans v4
          have v5 := (hB2.cell (p := ⟨b', o' + k * 6 + 5, none⟩) (lt_of_cellP v5)).trans v5
          have HB6 := Lib.hid (HBB.out.trans (hB2.mono HBB.out.size))
          have HB26 := Lib.hid (HB2.out.trans (hB2.mono HB2.out.size))
          clear ha1 hB2
          go_upto_region 15 with (fail)
          have hB7 : Below w6.heap.size w6 (w6.alloc (.cells #[.int .i64 m, .int .i64 fs, .int .i64 q1, .int .i64 q2, .int .i64 q3, .int .i64 q4] 108)) := (Below.refl _ w6).alloc (Nat.le_refl _) _
          have hb2 := heap_alloc_new w6 (.cells #[.int .i64 m, .int .i64 fs, .int .i64 q1, .int .i64 q2, .int .i64 q3, .int .i64 q4] 108)
          have hb1 := (Keeps.of_fresh hB7 (fun _ => False)).grownTo hb1 id
          generalize w6.alloc (.cells #[.int .i64 m, .int .i64 fs, .int .i64 q1, .int .i64 q2, .int .i64 q3, .int .i64 q4] 108) = w7 at hB7 hb2 hb1 ⊢
          obtain ⟨a2, ha2⟩ : ∃ z, w6.heap.size = z := ⟨_, rfl⟩
          rw [ha2] at hb2 ⊢
          have HBB := Lib.hid (HB6.out.trans (hB7.mono HB6.out.size))
          have HB27 := Lib.hid (HB26.out.trans (hB7.mono HB26.out.size))
          have u0 : w7.cell? ⟨a1, 0, none⟩ = some (.int .i64 n) := cell_of_row w7 a1 0 _ _ _ hb1
          have u1 : w7.cell? ⟨a1, 1, none⟩ = some (.int .i64 es) := cell_of_row w7 a1 1 _ _ _ hb1
          have u2 : w7.cell? ⟨a1, 2, none⟩ = some (.int .i64 o1) := cell_of_row w7 a1 2 _ _ _ hb1
          have u3 : w7.cell? ⟨a1, 3, none⟩ = some (.int .i64 o2) := cell_of_row w7 a1 3 _ _ _ hb1
          have u4 : w7.cell? ⟨a1, 4, none⟩ = some (.int .i64 o3) := cell_of_row w7 a1 4 _ _ _ hb1
          have u5 : w7.cell? ⟨a1, 5, none⟩ = some (.int .i64 o4) := cell_of_row w7 a1 5 _ _ _ hb1
          have v0 : w7.cell? ⟨a2, 0, none⟩ = some (.int .i64 m) := cell_of_row w7 a2 0 _ _ _ hb2
          have v1 : w7.cell? ⟨a2, 1, none⟩ = some (.int .i64 fs) := cell_of_row w7 a2 1 _ _ _ hb2
          have v2 : w7.cell? ⟨a2, 2, none⟩ = some (.int .i64 q1) := cell_of_row w7 a2 2 _ _ _ hb2
          have v3 : w7.cell? ⟨a2, 3, none⟩ = some (.int .i64 q2) := cell_of_row w7 a2 3 _ _ _ hb2
          have v4 : w7.cell? ⟨a2, 4, none⟩ = some (.int .i64 q3) := cell_of_row w7 a2 4 _ _ _ hb2
          have v5 : w7.cell? ⟨a2, 5, none⟩ = some (.int .i64 q4) := cell_of_row w7 a2 5 _ _ _ hb2
          clear hb1 hb2 ha2 hB7 y1'
          by_cases h1 : n = m
          rotate_left
          · have d1 : (n != m) = true := by simp [h1]
            have hNO : Hid (¬ p = q) := Lib.hid (HNE.out (fun e => h1 (by rw [HX.out, HYK.out] at e; injection e)))
            clear h1
            go_wp2_with fail
            go_ret
            exact ⟨false, rfl, ⟨(fun h => by cases h), fun h => absurd h hNO.out⟩, HBB.out⟩
          have d1 : (n != m) = false := by simp [h1]
          have HE1 := Lib.hid h1
          clear h1
          by_cases h2 : es = fs
          rotate_left
          · have d2 : (es != fs) = true := by simp [h2]
            have hNO : Hid (¬ p = q) := Lib.hid (HNE.out (fun e => h2 (by rw [HX.out, HYK.out] at e; injection e)))
            clear h2
            go_wp2_with fail
            go_ret
            exact ⟨false, rfl, ⟨(fun h => by cases h), fun h => absurd h hNO.out⟩, HBB.out⟩
          have d2 : (es != fs) = false := by simp [h2]
          have HE2 := Lib.hid h2
          have hne := neqOc
          clear h2
          cases h3 : ocNe ⟨o1, o2, o3, o4⟩ ⟨q1, q2, q3, q4⟩
          rotate_left
          · have hNO : Hid (¬ p = q) := Lib.hid (HNE.out (fun e => ocNe_iff.1 h3 (by rw [HX.out, HYK.out] at e; injection e)))
            go_wp2_with fail
            go_ret
            exact ⟨false, rfl, ⟨(fun h => by cases h), fun h => absurd h hNO.out⟩, HBB.out⟩
          have HEQ : Hid (p.rs[k] = q.rs[k]) := Lib.hid (by
            rw [HX.out, HYK.out, HE1.out, HE2.out]
            congr 1
            exact Decidable.byContradiction (fun e => by rw [ocNe_iff.2 e] at h3; cases h3))
          go_wp2_with fail
          go_roundw
          case rel => exact ⟨k + 1, hlt, by go_num, HB27.out, fun j h h' hj => by
            by_cases hjk : j = k
            · subst hjk; exact HEQ.out
            · exact HALL2.out j h h' (by omega)⟩
          case measure => simp [Go.RowKit.intOf]; omega
        · have hkd : k = p.rs.length := by omega
          subst hkd
          have HYES : Hid (p = q) := Lib.hid (Pt.eq_iff.2 ⟨H1.out, HSS.out, List.ext_getElem H3.out (fun j h h' => HALL2.out j h h' h)⟩)
          go_wp2_with fail
          go_ret
          exact ⟨true, rfl, ⟨fun _ => HYES.out, fun _ => rfl⟩, HBB.out⟩
end Go.Proofs.YthebmbhdlkldiaaGreatDoor
