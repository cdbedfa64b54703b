/- SnapshotPuts: what the statement's function does: it answers true. Under the tables that utf8 lays, and the stated premises on sizes. -/
import Derived.Test.YthebmbhdlkldiaaGreatDoorParM
import Derived.Test.YthebmbhdlkldiaaGreatDoorIdxD
import Derived.Test.YthebmbhdlkldiaaGreatDoorDedJ
import Derived.Test.YthebmbhdlkldiaaGreatDoorStaE
import Derived.Test.YthebmbhdlkldiaaGreatDoorNumC
import Derived.Test.YthebmbhdlkldiaaGreatDoorCodA
import Derived.Test.YthebmbhdlkldiaaGreatDoorRecR
import Derived.Test.YthebmbhdlkldiaaGreatDoorCrcA
import Derived.Test.YthebmbhdlkldiaaGreatDoorSnpB
import Derived.Test.YthebmbhdlkldiaaGreatDoorSnpM
import Derived.Test.YthebmbhdlkldiaaGreatDoorParH
/- The law's 'same': are parts the document's? Under the stated premises on sizes. -/
namespace Go.Proofs.YthebmbhdlkldiaaGreatDoor
open Go.RowKit Go.Bl
attribute [local go_sem ↓] Go.wp_at_zero Go.wp_at_succ

theorem Pt.eq_iff {p q : Pt} : p = q ↔ p.ap = q.ap ∧ p.ss = q.ss ∧ p.rs = q.rs := by
  obtain ⟨a, b, c⟩ := p
  obtain ⟨a', b', c'⟩ := q
  simp
theorem Sp.eq_iff {x y : Sp} : x = y ↔ x.name = y.name ∧ x.evs = y.evs ∧ x.pos = y.pos := by
  obtain ⟨a, b, c⟩ := x
  obtain ⟨a', b', c'⟩ := y
  simp
theorem En.eq_iff {x y : Ded.En} : x = y ↔ x.ses = y.ses ∧ x.seq = y.seq ∧ x.o = y.o := by
  obtain ⟨a, b, c⟩ := x
  obtain ⟨a', b', c'⟩ := y
  simp
set_option maxRecDepth 10000 in
set_option maxHeartbeats 4000000 in
theorem sameP_any (w : World) (G G' : Nat → Prop) (p q : Pt) (sv rv sv' rv' : Value) (h : PtAt w G sv rv p) (h' : PtAt w G' sv' rv' q) :
    Calls Tryz.prog 14 #[.agg #[.int .i64 p.ap, sv, rv], .agg #[.int .i64 q.ap, sv', rv']] w fun e w' => ∃ B : Bool, e = .returned (.bool B) ∧ (B = true ↔ p = q) ∧ Below w.heap.size w w' := by
  obtain ⟨S, hS, hSm, hp⟩ := h.ss
  obtain ⟨Z, hZ, hZm, hq⟩ := h'.ss
  have hR := h.rs
  have hY := h'.rs
  obtain ⟨A, c, rfl, hA1, hA2⟩ := hS.shape
  obtain ⟨B, d, rfl, hB1, hB2⟩ := hR.shape
  obtain ⟨A', c', rfl, hA1', hA2'⟩ := hZ.shape
  obtain ⟨B', d', rfl, hB1', hB2'⟩ := hY.shape
  unfold maxLen at hA2 hB2 hA2' hB2'
  have hB0 : Below w.heap.size w ((w.alloc (.cells #[.int .i64 p.ap, .slice A S.length c, .slice B p.rs.length d] 43)).alloc (.cells #[.int .i64 q.ap, .slice A' Z.length c', .slice B' q.rs.length d'] 37)) := ((Below.refl _ w).alloc (Nat.le_refl _) _).alloc (by simp) _
  have hb1 : ((w.alloc (.cells #[.int .i64 p.ap, .slice A S.length c, .slice B p.rs.length d] 43)).alloc (.cells #[.int .i64 q.ap, .slice A' Z.length c', .slice B' q.rs.length d'] 37)).heap[w.heap.size]? = some (.cells #[.int .i64 p.ap, .slice A S.length c, .slice B p.rs.length d] 43 (0, 0)) := (Below.heap_alloc _ _ _ (by simp)).trans (heap_alloc_new w _)
  have hb2 := heap_alloc_new (w.alloc (.cells #[.int .i64 p.ap, .slice A S.length c, .slice B p.rs.length d] 43)) (.cells #[.int .i64 q.ap, .slice A' Z.length c', .slice B' q.rs.length d'] 37)
  rw [World.size_alloc] at hb2
  have HS := Lib.hid hS
  have HR := Lib.hid hR
  have HZ := Lib.hid hZ
  have HY := Lib.hid hY
  have HSm := Lib.hid hSm
  have HZm := Lib.hid hZm
  have HP := Lib.hid hp
  have HQ := Lib.hid hq
  clear hS hR hZ hY hSm hZm hp hq h h'
  go_enter Tryz.func14, Tryz.ntmps14
  go_upto_region 1 with (fail)
  generalize (w.alloc (.cells #[.int .i64 p.ap, .slice A S.length c, .slice B p.rs.length d] 43)).alloc (.cells #[.int .i64 q.ap, .slice A' Z.length c', .slice B' q.rs.length d'] 37) = w1 at hB0 hb1 hb2 ⊢
  obtain ⟨g, hg⟩ : ∃ g, w.heap.size = g := ⟨_, rfl⟩
  have HBB := Lib.hid hB0
  rw [hg] at hb1 hb2 ⊢
  have HG1 := Lib.hid hb1
  have HG2 := Lib.hid hb2
  have x0 : w1.cell? ⟨g, 0, none⟩ = some (.int .i64 p.ap) := cell_of_row w1 g 0 _ _ _ hb1
  have x1 : w1.cell? ⟨g, 1, none⟩ = some (.slice A S.length c) := cell_of_row w1 g 1 _ _ _ hb1
  have x2 : w1.cell? ⟨g, 2, none⟩ = some (.slice B p.rs.length d) := cell_of_row w1 g 2 _ _ _ hb1
  have y0 : w1.cell? ⟨g + 1, 0, none⟩ = some (.int .i64 q.ap) := cell_of_row w1 _ 0 _ _ _ hb2
  have y1 : w1.cell? ⟨g + 1, 1, none⟩ = some (.slice A' Z.length c') := cell_of_row w1 _ 1 _ _ _ hb2
  have y2 : w1.cell? ⟨g + 1, 2, none⟩ = some (.slice B' q.rs.length d') := cell_of_row w1 _ 2 _ _ _ hb2
  clear hb1 hb2 hB0
  by_cases h1 : p.ap = q.ap
  rotate_left
  · have d1 : (p.ap != q.ap) = true := by simp [h1]
    have hNO : Hid (¬ p = q) := Lib.hid (fun e => h1 (by rw [e]))
    clear h1
    go_wp2_with fail
    go_ret
    exact ⟨false, rfl, ⟨(fun h => by cases h), fun h => absurd h hNO.out⟩, HBB.out⟩
  have d1 : (p.ap != q.ap) = false := by simp [h1]
  have H1 := Lib.hid h1
  clear h1
  by_cases h2 : S.length = Z.length
  rotate_left
  · have d2 : ((S.length : Int) != (Z.length : Int)) = true := by simp; omega
    have hNO : Hid (¬ p = q) := Lib.hid (fun e => h2 (by have h3 := HP.out; rw [e, ← HQ.out] at h3; have := congrArg List.length h3; simpa using this))
    clear h2
    go_wp2_with fail
    go_ret
    exact ⟨false, rfl, ⟨(fun h => by cases h), fun h => absurd h hNO.out⟩, HBB.out⟩
  have d2 : ((S.length : Int) != (Z.length : Int)) = false := by simp; omega
  have H2 := Lib.hid h2
  clear h2
  by_cases h3 : p.rs.length = q.rs.length
  rotate_left
  · have d3 : ((p.rs.length : Int) != (q.rs.length : Int)) = true := by simp; omega
    have hNO : Hid (¬ p = q) := Lib.hid (fun e => h3 (by rw [e]))
    clear h3
    go_wp2_with fail
    go_ret
    exact ⟨false, rfl, ⟨(fun h => by cases h), fun h => absurd h hNO.out⟩, HBB.out⟩
  have d3 : ((p.rs.length : Int) != (q.rs.length : Int)) = false := by simp; omega
  have H3 := Lib.hid h3
  clear h3
  go_wp2_with fail
  go_loopw [5, 6, 7] (fun i _ _ wr => ∃ k : Nat, k ≤ S.length ∧ i = .int .i64 k ∧ Below w1.heap.size w1 wr ∧ ∀ j (h : j < S.length) (h' : j < Z.length), j < k → S[j].sp = Z[j].sp) (fun i _ _ _ => S.length - (Go.RowKit.intOf i).toNat)
  case atStart => exact ⟨0, Nat.zero_le _, rfl, Below.refl _ _, fun j h h' hj => absurd hj (by omega)⟩
  case round =>
    obtain ⟨k, hk, rfl, hB, hall⟩ := hrel
    have x1 := (hB.cell (p := ⟨g, 1, none⟩) (lt_of_cellP x1)).trans x1
    have y1 := (hB.cell (p := ⟨g + 1, 1, none⟩) (lt_of_cellP y1)).trans y1
    have x2 := (hB.cell (p := ⟨g, 2, none⟩) (lt_of_cellP x2)).trans x2
    have y2 := (hB.cell (p := ⟨g + 1, 2, none⟩) (lt_of_cellP y2)).trans y2
    have HBB := Lib.hid (HBB.out.trans (hB.mono HBB.out.size))
    have HB1 := Lib.hid hB
    have HALL := Lib.hid hall
    clear hB hall x0 y0 d1 d2 d3
    by_cases hlt : k < S.length
    · have hlt2 : k < Z.length := by have := H2.out; omega
      obtain ⟨b, o, rfl, _, _, hxx⟩ := (HS.out.fresh HBB.out).cell_ hlt
      obtain ⟨b', o', rfl, _, _, hyy⟩ := (HZ.out.fresh HBB.out).cell_ hlt2
      have hs := HSm.out S[k] (List.getElem_mem hlt)
      have hz := HZm.out Z[k] (List.getElem_mem hlt2)
      obtain ⟨x, hx⟩ : ∃ x, S[k] = x := ⟨_, rfl⟩
      obtain ⟨y, hy⟩ : ∃ x, Z[k] = x := ⟨_, rfl⟩
      rw [hx] at hxx hs
      rw [hy] at hyy hz
      obtain ⟨⟨n, es, ps⟩, xev, xpv, xo1, xo2⟩ := x
      obtain ⟨⟨m, fs, qs⟩, yev, ypv, yo1, yo2⟩ := y
      obtain ⟨E, ec, rfl, hE1, hE2⟩ : ∃ A c, xev = .slice A es.length c ∧ es.length ≤ c ∧ c ≤ maxLen := hs.1.shape
      obtain ⟨U, uc, rfl, hU1, hU2⟩ : ∃ A c, xpv = .slice A ps.length c ∧ ps.length ≤ c ∧ c ≤ maxLen := hs.2.shape
      obtain ⟨E', ec', rfl, hE1', hE2'⟩ : ∃ A c, yev = .slice A fs.length c ∧ fs.length ≤ c ∧ c ≤ maxLen := hz.1.shape
      obtain ⟨U', uc', rfl, hU1', hU2'⟩ : ∃ A c, ypv = .slice A qs.length c ∧ qs.length ≤ c ∧ c ≤ maxLen := hz.2.shape
      have u0 : wr.cell? ⟨b, o + k * 3, none⟩ = some (.string n) := hxx 0 _ rfl
      have u1 : wr.cell? ⟨b, o + k * 3 + 1, none⟩ = some (.slice E es.length ec) := hxx 1 _ rfl
      have u2 : wr.cell? ⟨b, o + k * 3 + 2, none⟩ = some (.slice U ps.length uc) := hxx 2 _ rfl
      have v0 : wr.cell? ⟨b', o' + k * 3, none⟩ = some (.string m) := hyy 0 _ rfl
      have v1 : wr.cell? ⟨b', o' + k * 3 + 1, none⟩ = some (.slice E' fs.length ec') := hyy 1 _ rfl
      have v2 : wr.cell? ⟨b', o' + k * 3 + 2, none⟩ = some (.slice U' qs.length uc') := hyy 2 _ rfl
      have HX := Lib.hid (show S[k].sp = ⟨n, es, ps⟩ by rw [hx])
      have HYK := Lib.hid (show Z[k].sp = ⟨m, fs, qs⟩ by rw [hy])
      have HNE : Hid (¬ S[k].sp = Z[k].sp → ¬ p = q) := Lib.hid (fun hne e => hne (by
        have h3 := HP.out
        rw [e, ← HQ.out] at h3
        have := congrArg (fun l => l[k]?) h3
        simp only [List.getElem?_map, List.getElem?_eq_getElem hlt, List.getElem?_eq_getElem hlt2, Option.map_some, Option.some.injEq] at this
        exact this))
      have HE1 := Lib.hid (show Sl w G 2 evc (.slice E es.length ec) es from hs.1)
      have HE2 := Lib.hid (show Sl w G' 2 evc (.slice E' fs.length ec') fs from hz.1)
      have HI1 := Lib.hid (show Sl w G 1 intc (.slice U ps.length uc) ps from hs.2)
      have HI2 := Lib.hid (show Sl w G' 1 intc (.slice U' qs.length uc') qs from hz.2)
      have hkI : ((0 : Int) ≤ (k : Int)) ∧ ((k : Int) < (S.length : Int)) ∧ ((k : Int) < (Z.length : Int)) := by omega
      obtain ⟨hk1, hk2, hk3⟩ := hkI
      clear hxx hyy hs hz hx hy
      go_upto_region 7 with (fail)
      have hB2 : Below wr.heap.size wr (wr.alloc (.cells #[.string n, .slice E es.length ec, .slice U ps.length uc] 90)) := (Below.refl _ wr).alloc (Nat.le_refl _) _
      have hb1 := heap_alloc_new wr (.cells #[.string n, .slice E es.length ec, .slice U ps.length uc] 90)
      generalize wr.alloc (.cells #[.string n, .slice E es.length ec, .slice U ps.length uc] 90) = w6 at hB2 hb1 ⊢
      obtain ⟨a1, ha1⟩ : ∃ z, wr.heap.size = z := ⟨_, rfl⟩
      rw [ha1] at hb1 ⊢
      have y1' := (hB2.cell (p := ⟨g + 1, 1, none⟩) (lt_of_cellP y1)).trans y1
      have v0 := (hB2.cell (p := ⟨b', o' + k * 3, none⟩) (lt_of_cellP v0)).trans v0
      have v1 := (hB2.cell (p := ⟨b', o' + k * 3 + 1, none⟩) (lt_of_cellP v1)).trans v1
      have v2 := (hB2.cell (p := ⟨b', o' + k * 3 + 2, none⟩) (lt_of_cellP v2)).trans v2
      have HB6 := Lib.hid (HBB.out.trans (hB2.mono HBB.out.size))
      have HB16 := Lib.hid (HB1.out.trans (hB2.mono HB1.out.size))
      clear ha1 hB2
      go_upto_region 8 with (fail)
      have hB7 : Below w6.heap.size w6 (w6.alloc (.cells #[.string m, .slice E' fs.length ec', .slice U' qs.length uc'] 107)) := (Below.refl _ w6).alloc (Nat.le_refl _) _
      have hb2 := heap_alloc_new w6 (.cells #[.string m, .slice E' fs.length ec', .slice U' qs.length uc'] 107)
      have hb1 := (Keeps.of_fresh hB7 (fun _ => False)).grownTo hb1 id
      generalize w6.alloc (.cells #[.string m, .slice E' fs.length ec', .slice U' qs.length uc'] 107) = w7 at hB7 hb2 hb1 ⊢
      obtain ⟨a2, ha2⟩ : ∃ z, w6.heap.size = z := ⟨_, rfl⟩
      rw [ha2] at hb2 ⊢
      have HB7 := Lib.hid (HB6.out.trans (hB7.mono HB6.out.size))
      have HB17 := Lib.hid (HB16.out.trans (hB7.mono HB16.out.size))
      have u0 : w7.cell? ⟨a1, 0, none⟩ = some (.string n) := cell_of_row w7 a1 0 _ _ _ hb1
      have u1 : w7.cell? ⟨a1, 1, none⟩ = some (.slice E es.length ec) := cell_of_row w7 a1 1 _ _ _ hb1
      have u2 : w7.cell? ⟨a1, 2, none⟩ = some (.slice U ps.length uc) := cell_of_row w7 a1 2 _ _ _ hb1
      have v0 : w7.cell? ⟨a2, 0, none⟩ = some (.string m) := cell_of_row w7 a2 0 _ _ _ hb2
      have v1 : w7.cell? ⟨a2, 1, none⟩ = some (.slice E' fs.length ec') := cell_of_row w7 a2 1 _ _ _ hb2
      have v2 : w7.cell? ⟨a2, 2, none⟩ = some (.slice U' qs.length uc') := cell_of_row w7 a2 2 _ _ _ hb2
      clear hb1 hb2 ha2 hB7 y1'
      by_cases h1 : n = m
      rotate_left
      · have e1 : ¬ n.toList = m.toList := fun e => h1 (by rw [Idx.bytes_inj] at e; exact e)
        have e2 : (n.toList == m.toList) = false := by rw [beq_eq_false_iff_ne]; exact e1
        have hNO : Hid (¬ p = q) := Lib.hid (HNE.out (fun e => h1 (by rw [HX.out, HYK.out] at e; injection e)))
        have HBB := HB7
        clear h1
        go_wp2_with fail
        go_ret
        exact ⟨false, rfl, ⟨(fun h => by cases h), fun h => absurd h hNO.out⟩, HBB.out⟩
      have HE := Lib.hid h1
      subst h1
      have HSE := Lib.hid (Idx.same_any w7 G G' _ _ es fs (HE1.out.fresh HB7.out) (HE2.out.fresh HB7.out))
      go_wp2_with fail
      refine HSE.out.mono ?_
      rintro e w8 ⟨rfl, nq, rfl⟩
      have HB8 : Hid (Below w.heap.size w (w7.drewN nq)) := Lib.hid (HB7.out.trans ⟨rfl, rfl, rfl, Nat.le_refl _, fun _ _ => rfl⟩)
      have HB18 : Hid (Below w1.heap.size w1 (w7.drewN nq)) := Lib.hid (HB17.out.trans ⟨rfl, rfl, rfl, Nat.le_refl _, fun _ _ => rfl⟩)
      by_cases h2 : es = fs
      rotate_left
      · have d2 : decide (es = fs) = false := decide_eq_false h2
        have hNO : Hid (¬ p = q) := Lib.hid (HNE.out (fun e => h2 (by rw [HX.out, HYK.out] at e; injection e)))
        have HBB := HB8
        clear h2
        go_wp2_with fail
        go_ret
        exact ⟨false, rfl, ⟨(fun h => by cases h), fun h => absurd h hNO.out⟩, HBB.out⟩
      have d2 : decide (es = fs) = true := decide_eq_true h2
      have H22 := Lib.hid h2
      clear h2
      have HSI := Lib.hid (Ded.sameInts_any (w7.drewN nq) G G' _ _ ps qs (HI1.out.fresh HB8.out) (HI2.out.fresh HB8.out))
      go_wp2_with fail
      refine HSI.out.mono ?_
      rintro e w9 ⟨rfl, nr, rfl⟩
      have HB9 : Hid (Below w.heap.size w (w7.drewN (nq + nr))) := Lib.hid (HB7.out.trans ⟨rfl, rfl, rfl, Nat.le_refl _, fun _ _ => rfl⟩)
      have HB19 : Hid (Below w1.heap.size w1 (w7.drewN (nq + nr))) := Lib.hid (HB17.out.trans ⟨rfl, rfl, rfl, Nat.le_refl _, fun _ _ => rfl⟩)
      by_cases h3 : ps = qs
      rotate_left
      · have d3 : decide (ps = qs) = false := decide_eq_false h3
        have hNO : Hid (¬ p = q) := Lib.hid (HNE.out (fun e => h3 (by rw [HX.out, HYK.out] at e; injection e)))
        have HBB := HB9
        clear h3
        go_wp2_with fail
        go_ret
        exact ⟨false, rfl, ⟨(fun h => by cases h), fun h => absurd h hNO.out⟩, HBB.out⟩
      have d3 : decide (ps = qs) = true := decide_eq_true h3
      have HEQ : Hid (S[k].sp = Z[k].sp) := Lib.hid (by rw [HX.out, HYK.out, H22.out, h3])
      clear h3
      go_wp2_with fail
      go_roundw
      case rel => exact ⟨k + 1, hlt, by go_num, HB19.out, fun j h h' hj => by
        by_cases hjk : j = k
        · subst hjk; exact HEQ.out
        · exact HALL.out j h h' (by omega)⟩
      case measure => simp [Go.RowKit.intOf]; omega
    · have hkd : k = S.length := by omega
      subst hkd
      have HSS : Hid (p.ss = q.ss) := Lib.hid (by
        rw [← HP.out, ← HQ.out]
        refine List.ext_getElem (by simp only [List.length_map]; exact H2.out) (fun j h h' => ?_)
        simp only [List.length_map] at h h'
        simp only [List.getElem_map]
        exact HALL.out j h h' h)
      have HBm := HBB
      have HB1m := HB1
      obtain ⟨w2, rfl⟩ : ∃ z, z = wr := ⟨_, rfl⟩
      go_wp2_with fail
      go_loopw [8, 9, 10] (fun i _ _ wr => ∃ k : Nat, k ≤ p.rs.length ∧ i = .int .i64 k ∧ Below w2.heap.size w2 wr ∧ ∀ j (h : j < p.rs.length) (h' : j < q.rs.length), j < k → p.rs[j] = q.rs[j]) (fun i _ _ _ => p.rs.length - (Go.RowKit.intOf i).toNat)
      case atStart => exact ⟨0, Nat.zero_le _, rfl, Below.refl _ _, fun j h h' hj => absurd hj (by omega)⟩
      case round =>
        obtain ⟨k, hk, rfl, hB, hall⟩ := hrel
        have x1 := (hB.cell (p := ⟨g, 2, none⟩) (lt_of_cellP x2)).trans x2
        have y1 := (hB.cell (p := ⟨g + 1, 2, none⟩) (lt_of_cellP y2)).trans y2
        have HBB := Lib.hid (HBm.out.trans (hB.mono HBm.out.size))
        have HB2 := Lib.hid hB
        have HALL2 := Lib.hid hall
        clear hB hall
        by_cases hlt : k < p.rs.length
        · have hlt2 : k < q.rs.length := by have := H3.out; omega
          obtain ⟨b, o, rfl, _, _, hxx⟩ := (HR.out.fresh HBB.out).cell_ hlt
          obtain ⟨b', o', rfl, _, _, hyy⟩ := (HY.out.fresh HBB.out).cell_ hlt2
          obtain ⟨x, hx⟩ : ∃ x, p.rs[k] = x := ⟨_, rfl⟩
          obtain ⟨y, hy⟩ : ∃ x, q.rs[k] = x := ⟨_, rfl⟩
          rw [hx] at hxx
          rw [hy] at hyy
          obtain ⟨n, es, ps⟩ := x
          obtain ⟨m, fs, qs⟩ := y
          obtain ⟨o1, o2, o3, o4⟩ := ps
          obtain ⟨q1, q2, q3, q4⟩ := qs
          have u0 : wr.cell? ⟨b, o + k * 6, none⟩ = some (.int .i64 n) := hxx 0 _ rfl
          have u1 : wr.cell? ⟨b, o + k * 6 + 1, none⟩ = some (.int .i64 es) := hxx 1 _ rfl
          have u2 : wr.cell? ⟨b, o + k * 6 + 2, none⟩ = some (.int .i64 o1) := hxx 2 _ rfl
          have u3 : wr.cell? ⟨b, o + k * 6 + 3, none⟩ = some (.int .i64 o2) := hxx 3 _ rfl
          have u4 : wr.cell? ⟨b, o + k * 6 + 4, none⟩ = some (.int .i64 o3) := hxx 4 _ rfl
          have u5 : wr.cell? ⟨b, o + k * 6 + 5, none⟩ = some (.int .i64 o4) := hxx 5 _ rfl
          have v0 : wr.cell? ⟨b', o' + k * 6, none⟩ = some (.int .i64 m) := hyy 0 _ rfl
          have v1 : wr.cell? ⟨b', o' + k * 6 + 1, none⟩ = some (.int .i64 fs) := hyy 1 _ rfl
          have v2 : wr.cell? ⟨b', o' + k * 6 + 2, none⟩ = some (.int .i64 q1) := hyy 2 _ rfl
          have v3 : wr.cell? ⟨b', o' + k * 6 + 3, none⟩ = some (.int .i64 q2) := hyy 3 _ rfl
          have v4 : wr.cell? ⟨b', o' + k * 6 + 4, none⟩ = some (.int .i64 q3) := hyy 4 _ rfl
          have v5 : wr.cell? ⟨b', o' + k * 6 + 5, none⟩ = some (.int .i64 q4) := hyy 5 _ rfl
          have HX := Lib.hid hx
          have HYK := Lib.hid hy
          have HNE : Hid (¬ p.rs[k] = q.rs[k] → ¬ p = q) := Lib.hid (fun hne e => hne (by simp only [e]))
          have hkI : ((0 : Int) ≤ (k : Int)) ∧ ((k : Int) < (p.rs.length : Int)) ∧ ((k : Int) < (q.rs.length : Int)) := by omega
          obtain ⟨hk1, hk2, hk3⟩ := hkI
          clear hxx hyy hx hy
          go_upto_region 14 with (fail)
          have hB2 : Below wr.heap.size wr (wr.alloc (.cells #[.int .i64 n, .int .i64 es, .int .i64 o1, .int .i64 o2, .int .i64 o3, .int .i64 o4] 94)) := (Below.refl _ wr).alloc (Nat.le_refl _) _
          have hb1 := heap_alloc_new wr (.cells #[.int .i64 n, .int .i64 es, .int .i64 o1, .int .i64 o2, .int .i64 o3, .int .i64 o4] 94)
          generalize wr.alloc (.cells #[.int .i64 n, .int .i64 es, .int .i64 o1, .int .i64 o2, .int .i64 o3, .int .i64 o4] 94) = w6 at hB2 hb1 ⊢
          obtain ⟨a1, ha1⟩ : ∃ z, wr.heap.size = z := ⟨_, rfl⟩
          rw [ha1] at hb1 ⊢
          have y1' := (hB2.cell (p := ⟨g + 1, 2, none⟩) (lt_of_cellP y1)).trans y1
          have v0 := (hB2.cell (p := ⟨b', o' + k * 6, none⟩) (lt_of_cellP v0)).trans v0
          have v1 := (hB2.cell (p := ⟨b', o' + k * 6 + 1, none⟩) (lt_of_cellP v1)).trans v1
          have v2 := (hB2.cell (p := ⟨b', o' + k * 6 + 2, none⟩) (lt_of_cellP v2)).trans v2
          have v3 := (hB2.cell (p := ⟨b', o' + k * 6 + 3, none⟩) (lt_of_cellP v3)).trans v3
          have v4 := (hB2.cell (p := ⟨b', o' + k * 6 + 4, none⟩) (lt_of_cellP v4)).trans v4
          have v5 := (hB2.cell (p := ⟨b', o' + k * 6 + 5, none⟩) (lt_of_cellP v5)).trans v5
          have HB6 := Lib.hid (HBB.out.trans (hB2.mono HBB.out.size))
          have HB26 := Lib.hid (HB2.out.trans (hB2.mono HB2.out.size))
          clear ha1 hB2
          go_upto_region 15 with (fail)
          have hB7 : Below w6.heap.size w6 (w6.alloc (.cells #[.int .i64 m, .int .i64 fs, .int .i64 q1, .int .i64 q2, .int .i64 q3, .int .i64 q4] 108)) := (Below.refl _ w6).alloc (Nat.le_refl _) _
          have hb2 := heap_alloc_new w6 (.cells #[.int .i64 m, .int .i64 fs, .int .i64 q1, .int .i64 q2, .int .i64 q3, .int .i64 q4] 108)
          have hb1 := (Keeps.of_fresh hB7 (fun _ => False)).grownTo hb1 id
          generalize w6.alloc (.cells #[.int .i64 m, .int .i64 fs, .int .i64 q1, .int .i64 q2, .int .i64 q3, .int .i64 q4] 108) = w7 at hB7 hb2 hb1 ⊢
          obtain ⟨a2, ha2⟩ : ∃ z, w6.heap.size = z := ⟨_, rfl⟩
          rw [ha2] at hb2 ⊢
          have HBB := Lib.hid (HB6.out.trans (hB7.mono HB6.out.size))
          have HB27 := Lib.hid (HB26.out.trans (hB7.mono HB26.out.size))
          have u0 : w7.cell? ⟨a1, 0, none⟩ = some (.int .i64 n) := cell_of_row w7 a1 0 _ _ _ hb1
          have u1 : w7.cell? ⟨a1, 1, none⟩ = some (.int .i64 es) := cell_of_row w7 a1 1 _ _ _ hb1
          have u2 : w7.cell? ⟨a1, 2, none⟩ = some (.int .i64 o1) := cell_of_row w7 a1 2 _ _ _ hb1
          have u3 : w7.cell? ⟨a1, 3, none⟩ = some (.int .i64 o2) := cell_of_row w7 a1 3 _ _ _ hb1
          have u4 : w7.cell? ⟨a1, 4, none⟩ = some (.int .i64 o3) := cell_of_row w7 a1 4 _ _ _ hb1
          have u5 : w7.cell? ⟨a1, 5, none⟩ = some (.int .i64 o4) := cell_of_row w7 a1 5 _ _ _ hb1
          have v0 : w7.cell? ⟨a2, 0, none⟩ = some (.int .i64 m) := cell_of_row w7 a2 0 _ _ _ hb2
          have v1 : w7.cell? ⟨a2, 1, none⟩ = some (.int .i64 fs) := cell_of_row w7 a2 1 _ _ _ hb2
          have v2 : w7.cell? ⟨a2, 2, none⟩ = some (.int .i64 q1) := cell_of_row w7 a2 2 _ _ _ hb2
          have v3 : w7.cell? ⟨a2, 3, none⟩ = some (.int .i64 q2) := cell_of_row w7 a2 3 _ _ _ hb2
          have v4 : w7.cell? ⟨a2, 4, none⟩ = some (.int .i64 q3) := cell_of_row w7 a2 4 _ _ _ hb2
          have v5 : w7.cell? ⟨a2, 5, none⟩ = some (.int .i64 q4) := cell_of_row w7 a2 5 _ _ _ hb2
          clear hb1 hb2 ha2 hB7 y1'
          by_cases h1 : n = m
          rotate_left
          · have d1 : (n != m) = true := by simp [h1]
            have hNO : Hid (¬ p = q) := Lib.hid (HNE.out (fun e => h1 (by rw [HX.out, HYK.out] at e; injection e)))
            clear h1
            go_wp2_with fail
            go_ret
            exact ⟨false, rfl, ⟨(fun h => by cases h), fun h => absurd h hNO.out⟩, HBB.out⟩
          have d1 : (n != m) = false := by simp [h1]
          have HE1 := Lib.hid h1
          clear h1
          by_cases h2 : es = fs
          rotate_left
          · have d2 : (es != fs) = true := by simp [h2]
            have hNO : Hid (¬ p = q) := Lib.hid (HNE.out (fun e => h2 (by rw [HX.out, HYK.out] at e; injection e)))
            clear h2
            go_wp2_with fail
            go_ret
            exact ⟨false, rfl, ⟨(fun h => by cases h), fun h => absurd h hNO.out⟩, HBB.out⟩
          have d2 : (es != fs) = false := by simp [h2]
          have HE2 := Lib.hid h2
          have hne := neqOc
          clear h2
          cases h3 : ocNe ⟨o1, o2, o3, o4⟩ ⟨q1, q2, q3, q4⟩
          rotate_left
          · have hNO : Hid (¬ p = q) := Lib.hid (HNE.out (fun e => ocNe_iff.1 h3 (by rw [HX.out, HYK.out] at e; injection e)))
            go_wp2_with fail
            go_ret
            exact ⟨false, rfl, ⟨(fun h => by cases h), fun h => absurd h hNO.out⟩, HBB.out⟩
          have HEQ : Hid (p.rs[k] = q.rs[k]) := Lib.hid (by
            rw [HX.out, HYK.out, HE1.out, HE2.out]
            congr 1
            exact Decidable.byContradiction (fun e => by rw [ocNe_iff.2 e] at h3; cases h3))
          go_wp2_with fail
          go_roundw
          case rel => exact ⟨k + 1, hlt, by go_num, HB27.out, fun j h h' hj => by
            by_cases hjk : j = k
            · subst hjk; exact HEQ.out
            · exact HALL2.out j h h' (by omega)⟩
          case measure => simp [Go.RowKit.intOf]; omega
        · have hkd : k = p.rs.length := by omega
          subst hkd
          have HYES : Hid (p = q) := Lib.hid (Pt.eq_iff.2 ⟨H1.out, HSS.out, List.ext_getElem H3.out (fun j h h' => HALL2.out j h h' h)⟩)
          go_wp2_with fail
          go_ret
          exact ⟨true, rfl, ⟨fun _ => HYES.out, fun _ => rfl⟩, HBB.out⟩
end Go.Proofs.YthebmbhdlkldiaaGreatDoor

/- The document's bytes of parts (bucketlineref16). Under the stated premises on sizes. -/
/- The document's numbers as bytes (bucketlineref2): Put, Take, Fixed, TakeFixed. Under the stated premises on sizes. -/
namespace Go.Proofs.YthebmbhdlkldiaaGreatDoor
open Go.RowKit Go.Bl
attribute [local go_sem ↓] Go.wp_at_zero Go.wp_at_succ

set_option maxRecDepth 8000 in
set_option maxHeartbeats 2000000 in
theorem rput_any (w : World) (n : Int) (N : Nat) (hN : gmax 0 (gmin n 1099511627776) = (N : Int)) : Calls Tryz.prog 46 #[.int .i64 n] w fun e w' => e = .returned (.string (putB N)) ∧ Below w.heap.size w w' := by
  have hNb : N ≤ 1099511627776 := by unfold gmax gmin at hN; omega
  have hmx := @run_gmax Tryz.prog
  have hmn := @run_gmin Tryz.prog
  have HP := Lib.hid (putL_len 5 N (by omega))
  go_enter Tryz.func46, Tryz.ntmps46
  go_wp2_with fail
  go_loopw [0, 3] (fun n v wr => ∃ (k : Nat) (done : List Nat), Hid (putL N = done ++ putL k) ∧ k ≤ 1099511627776 ∧ done.length ≤ 6 ∧ n = .int .i64 k ∧ Go.Bl.Own wr w.heap.size 5 1 u8c v done ∧ Below w.heap.size w wr) (fun n _ _ => (intOf n).toNat)
  case atStart => exact ⟨N, [], Lib.hid rfl, hNb, Nat.zero_le _, rfl, Go.Bl.Own.nil_ _ _ _ _ _, Below.refl _ _⟩
  case round =>
    obtain ⟨k, done, hp, hkb, hdl, rfl, hO, hB⟩ := hrel
    by_cases h128 : k < 128
    · have d1 : decide ((128 : Int) ≤ (k : Int)) = false := by simp; omega
      have hpk : Hid (putL N = done ++ [k]) := Lib.hid (by rw [hp.out, putL_small h128])
      go_wp2_with (at_builtin; refine elU8.append _ (by rfl) _ _ rfl w.heap.size _ _ rfl (hO.fresh ((Below.refl _ _).alloc (Nat.le_refl _) _)) _ _ [k] rfl (Sl.single (heap_alloc_new _ _) rfl) ?_ ?_ ?_; (simp; omega); (have := hB.size; simp; omega); intro v' w4 hown' hgrow hat; have HO := Lib.hid hown'; clear hown'; go_loud (have hstr := Sl.str (HO.out.sl elU8.len) (by simp) (fun x hx => putL_lt (N + 1) N (by omega) x (by rw [hpk.out]; exact hx))))
      go_ret
      rw [← hpk.out] at *
      exact ⟨rfl, (hB.alloc hB.size _).grown hgrow (by have := hB.size; simp; omega) (fun q e => (hO.lt q e).1)⟩
    · have d1 : decide ((128 : Int) ≤ (k : Int)) = true := by simp; omega
      obtain ⟨x, hx⟩ : ∃ x, x = k % 128 + 128 := ⟨_, rfl⟩
      have hxx : (k : Int) % 128 + 128 = (x : Int) := by omega
      have hx2 : x < 256 := by omega
      have HX := Lib.hid hx
      clear hx
      go_wp2_with (at_builtin; refine elU8.append _ (by rfl) _ _ rfl w.heap.size _ _ rfl (hO.fresh ((Below.refl _ _).alloc (Nat.le_refl _) _)) _ _ [x] rfl (Sl.single (heap_alloc_new _ _) rfl) ?_ ?_ ?_; (simp; omega); (have := hB.size; simp; omega); intro v' w4 hown' hgrow hat; have HO := Lib.hid hown'; clear hown')
      go_roundw
      case rel => exact ⟨k / 128, done ++ [x], Lib.hid (by rw [hp.out, putL_big h128, HX.out]; simp), by omega, by have := HP.out; rw [hp.out, putL_big h128] at this; simp at this ⊢; omega, rfl, HO.out, (hB.alloc hB.size _).grown hgrow (by have := hB.size; simp; omega) (fun q e => (hO.lt q e).1)⟩
      case measure => simp [intOf]; omega
set_option maxRecDepth 8000 in
set_option maxHeartbeats 2000000 in
theorem rfixed_any (w : World) (n : Nat) (hn : n < 4294967296) : Calls Tryz.prog 49 #[.int .u32 n] w fun e w' => e = .returned (.string (Bl (fixL n))) ∧ Below w.heap.size w w' := by
  have hf := fixL_toNat n hn
  obtain ⟨x0, h0⟩ : ∃ x, x = n / 16777216 := ⟨_, rfl⟩
  obtain ⟨x1, h1⟩ : ∃ x, x = n / 65536 % 256 := ⟨_, rfl⟩
  obtain ⟨x2, h2⟩ : ∃ x, x = n / 256 % 256 := ⟨_, rfl⟩
  obtain ⟨x3, h3⟩ : ∃ x, x = n % 256 := ⟨_, rfl⟩
  have e0 : (n : Int) / 16777216 = (x0 : Int) := by omega
  have e1 : (n : Int) / 65536 % 256 = (x1 : Int) := by omega
  have e2 : (n : Int) / 256 % 256 = (x2 : Int) := by omega
  have e3 : (n : Int) % 256 = (x3 : Int) := by omega
  rw [← h0, ← h1, ← h2, ← h3] at hf
  have hconv := from_bytes (P := Tryz.prog) Tryz.underlying80 Tryz.underlying5 Tryz.underlying9 (w.alloc (.cells #[.int .u8 x0, .int .u8 x1, .int .u8 x2, .int .u8 x3] 5)) w.heap.size 0 4 4 (Bl (fixL n)) rfl (fun j u hu => by
    have hu' : (fixL n)[j]? = some u := by
      have : (Bl (fixL n)).data[j]? = (fixL n)[j]? := by unfold Bl; simp
      rw [← this]; exact hu
    have hm : ((fixL n).map UInt8.toNat)[j]? = some u.toNat := by rw [List.getElem?_map, hu']; rfl
    rw [hf] at hm
    rw [cell_of_row _ w.heap.size (0 + j) _ _ _ (heap_alloc_new w (.cells #[.int .u8 x0, .int .u8 x1, .int .u8 x2, .int .u8 x3] 5)), Nat.zero_add]
    match j, hm with
    | 0, hm => simp at hm; simp [hm]
    | 1, hm => simp at hm; simp [hm]
    | 2, hm => simp at hm; simp [hm]
    | 3, hm => simp at hm; simp [hm]
    | j + 4, hm => simp at hm)
  clear hf h0 h1 h2 h3
  go_enter Tryz.func49, Tryz.ntmps49
  go_wp2_with fail
  go_ret
  exact ⟨rfl, (Below.refl _ _).alloc (Nat.le_refl _) _⟩
end Go.Proofs.YthebmbhdlkldiaaGreatDoor

/- The document's bytes of texts, numbers, events, batches (bucketlineref2, bucketlineref5). Under the stated premises on sizes. -/
namespace Go.Proofs.YthebmbhdlkldiaaGreatDoor
open Go.RowKit Go.Bl
attribute [local go_sem ↓] Go.wp_at_zero Go.wp_at_succ

theorem dput_in (w : World) (n : Int) (h0 : 0 ≤ n) (h1 : n ≤ 1099511627776) : Calls Tryz.prog 46 #[.int .i64 n] w fun e w' => e = .returned (.string (Bl (numL n.toNat))) ∧ Below w.heap.size w w' :=
  rput_any w n n.toNat (by unfold gmax gmin; omega)
theorem dputText_any (w : World) (s : ByteArray) (hs : s.size ≤ 1000000000) : Calls Tryz.prog 47 #[.string s] w fun e w' => e = .returned (.string (Bl (txtL (Lb s)))) ∧ Below w.heap.size w w' := by
  have hl := numL_len (n := s.size) (by omega)
  have hc := dput_in w (s.size : Int) (by omega) (by omega)
  rw [show ((s.size : Int).toNat) = s.size by omega] at hc
  have hnov : ¬ 9223372036854775807 < (Bl (numL s.size)).size + s.size := by rw [Bl_size]; omega
  have HC := Lib.hid hc
  clear hc hl
  go_enter Tryz.func47, Tryz.ntmps47
  go_wp2_with fail
  refine HC.out.mono ?_
  rintro e w1 ⟨rfl, hB⟩
  go_wp2_with fail
  go_ret
  refine ⟨?_, hB⟩
  unfold txtL
  rw [Bl_append]
  rfl
set_option maxRecDepth 8000 in
set_option maxHeartbeats 1000000 in
theorem debytes_any (w : World) (e : Ev) (h1 : e.kind.size ≤ 100000) (h2 : e.data.size ≤ 100000) : Calls Tryz.prog 101 #[.agg #[.string e.kind, .string e.data]] w fun x w' => x = .returned (.string (Bl (evbL e))) ∧ Below w.heap.size w w' := by
  have hB0 : Below w.heap.size w (w.alloc (.cells #[.string e.kind, .string e.data] 77)) := (Below.refl _ w).alloc (Nat.le_refl _) _
  have hblk := heap_alloc_new w (.cells #[.string e.kind, .string e.data] 77)
  have hl1 := txtL_len (l := Lb e.kind) (by rw [Lb_len]; omega)
  have hl2 := txtL_len (l := Lb e.data) (by rw [Lb_len]; omega)
  rw [Lb_len] at hl1 hl2
  have C1 := Lib.hid (fun W => dputText_any W e.kind (by omega))
  have C2 := Lib.hid (fun W => dputText_any W e.data (by omega))
  have hE : Bl (evbL e) = Bl (txtL (Lb e.kind)) ++ Bl (txtL (Lb e.data)) := by unfold evbL; rw [Bl_append]
  rw [hE]
  obtain ⟨x, hx⟩ : ∃ x, Bl (txtL (Lb e.kind)) = x := ⟨_, rfl⟩
  obtain ⟨y, hy⟩ : ∃ y, Bl (txtL (Lb e.data)) = y := ⟨_, rfl⟩
  have hnov : ¬ 9223372036854775807 < x.size + y.size := by rw [← hx, ← hy, Bl_size, Bl_size]; omega
  rw [hx] at C1 ⊢
  rw [hy] at C2 ⊢
  have HB := Lib.hid hB0
  clear hE hx hy hl1 hl2 hB0
  go_enter Tryz.func101, Tryz.ntmps101
  go_upto_region 1 with (fail)
  obtain ⟨b, hb⟩ : ∃ b, w.heap.size = b := ⟨_, rfl⟩
  rw [hb] at HB hblk ⊢
  generalize w.alloc (.cells #[.string e.kind, .string e.data] 77) = w1 at HB hblk ⊢
  have c0 : w1.cell? ⟨b, 0, none⟩ = some (.string e.kind) := cell_of_row w1 b 0 _ _ _ hblk
  have c1 : w1.cell? ⟨b, 1, none⟩ = some (.string e.data) := cell_of_row w1 b 1 _ _ _ hblk
  have HA := Lib.hid (show Below w1.heap.size w1 w1.drew from ⟨rfl, rfl, rfl, Nat.le_refl _, fun _ _ => rfl⟩)
  clear hblk
  go_region_held3 (fun x => x.cell? ⟨b, 0, none⟩ = some (.string e.kind) ∧ x.cell? ⟨b, 1, none⟩ = some (.string e.data))
    (first | exact ⟨by assumption, by assumption⟩ | go_keep)
    (first
      | (go_at_call 47
         with_reducible refine (C1.out _).mono ?_
         rintro e w2 ⟨rfl, hB2⟩
         have c0 := (hB2.cell (p := ⟨b, 0, none⟩) (World.block_lt_of_cell? _ _ c0)).trans c0
         have c1 := (hB2.cell (p := ⟨b, 1, none⟩) (World.block_lt_of_cell? _ _ c1)).trans c1
         have HA := Lib.hid (HA.out.trans (hB2.mono HA.out.size))
         clear hB2
        )
      | (go_at_call 47
         with_reducible refine (C2.out _).mono ?_
         rintro e w2 ⟨rfl, hB2⟩
         have c0 := (hB2.cell (p := ⟨b, 0, none⟩) (World.block_lt_of_cell? _ _ c0)).trans c0
         have c1 := (hB2.cell (p := ⟨b, 1, none⟩) (World.block_lt_of_cell? _ _ c1)).trans c1
         have HA := Lib.hid (HA.out.trans (hB2.mono HA.out.size))
         clear hB2
        ))
  go_wp2_with fail
  go_ret
  exact ⟨rfl, by rw [hb]; exact HB.out.trans (HA.out.mono (by have := HB.out.size; omega))⟩

end Go.Proofs.YthebmbhdlkldiaaGreatDoor

/- The document's sum (bucketlineref3): bit by bit, the same as by the table. Under the stated premises on sizes. -/
namespace Go.Proofs.YthebmbhdlkldiaaGreatDoor
open Go.RowKit Go.Bl
attribute [local go_sem ↓] Go.wp_at_zero Go.wp_at_succ

set_option maxRecDepth 8000 in
set_option maxHeartbeats 2000000 in
theorem rupdate_any (w : World) (n : Nat) (hn : n < 4294967296) (s : ByteArray) (hs : s.size ≤ 1000000000000) : Calls Tryz.prog 102 #[.int .u32 n, .string s] w fun e w' => e = .returned (.int .u32 (crcU n (Lb s))) ∧ w = w' := by
  have hn0 := not32 n hn
  obtain ⟨r0, hr0⟩ : ∃ r, r = 4294967295 - n := ⟨_, rfl⟩
  rw [← hr0] at hn0
  have hr0b : r0 < 4294967296 := by omega
  have HR0 := Lib.hid hr0
  clear hr0
  go_enter Tryz.func102, Tryz.ntmps102
  go_wp2_with fail
  go_loopw [5, 6] (fun r i wr => ∃ (k a : Nat), k ≤ s.size ∧ a < 4294967296 ∧ r = .int .u32 a ∧ i = .int .i64 k ∧ wr = w ∧ Hid (a = ((Lb s).take k).foldl (fun r c => crcS r c.toNat) r0)) (fun _ i _ => s.size - (intOf i).toNat)
  case atStart => exact ⟨0, r0, Nat.zero_le _, hr0b, rfl, rfl, rfl, Lib.hid rfl⟩
  case round =>
    obtain ⟨k, a, hks, ha, rfl, rfl, rfl, hA⟩ := hrel
    by_cases hlt : k < s.size
    · have d0 : decide ((k : Int) < (s.size : Int)) = true := by simp; omega
      have hkl : k < (Lb s).length := by rw [Lb_len]; omega
      obtain ⟨c, hc⟩ : ∃ c, c = (s[k]'hlt).toNat := ⟨_, rfl⟩
      have hcs : ((s[k]'hlt).toNat : Int) = (c : Int) := by rw [hc]
      have hc256 : c < 256 := by rw [hc]; exact UInt8.toNat_lt _
      have HA2 : Hid (crcS a c = ((Lb s).take (k + 1)).foldl (fun r c => crcS r c.toNat) r0) := Lib.hid (by
        rw [List.take_succ_eq_append_getElem hkl, List.foldl_append, ← hA.out, hc]
        rfl)
      obtain ⟨y, hy⟩ : ∃ y, y = a ^^^ c := ⟨_, rfl⟩
      have hyb : y < 4294967296 := by rw [hy]; exact Nat.xor_lt_two_pow (n := 32) ha (by omega)
      have hxor : bits .xor .u32 (a : Int) (c : Int) = (y : Int) := by rw [hy]; exact Go.u32_xor_nat a c ha (by omega)
      have HS : Hid (crcS a c = bitN 8 y) := Lib.hid (by rw [crcS_doc a c hc256, ← hy]; rfl)
      clear hc hy hA
      go_wp2_with fail
      go_loopw [5, 7] (fun r i wr2 => ∃ m b : Nat, m ≤ 8 ∧ b < 4294967296 ∧ r = .int .u32 b ∧ i = .int .i64 m ∧ wr2 = wr ∧ Hid (b = bitN m y)) (fun _ i _ => 8 - (intOf i).toNat)
      case atStart => exact ⟨0, y, by omega, hyb, rfl, rfl, rfl, Lib.hid rfl⟩
      case round =>
        obtain ⟨m, b, hm, hb, rfl, rfl, rfl, hB⟩ := hrel
        by_cases hlm : m < 8
        · have d1 : decide ((m : Int) < 8) = true := by simp; omega
          have h1 := and32 b hb
          have hbb := bit1_lt hb
          rcases Nat.mod_two_eq_zero_or_one b with e | e
          · rw [e] at h1
            have hA2 : Hid (b / 2 = bitN (m + 1) y) := Lib.hid (by show _ = bit1 _; rw [← hB.out]; unfold bit1; rw [if_neg (by omega)])
            have HE := Lib.hid e
            clear hbb e
            go_wp2_with fail
            go_roundw
            case rel => exact ⟨m + 1, b / 2, by omega, by omega, rfl, by go_num, trivial, hA2⟩
            case measure => simp [intOf]; omega
          · rw [e] at h1
            have hA2 : Hid (b / 2 ^^^ 3988292384 = bitN (m + 1) y) := Lib.hid (by show _ = bit1 _; rw [← hB.out]; unfold bit1; rw [if_pos e])
            have hx := xorP b hb
            unfold bit1 at hbb
            rw [if_pos e] at hbb
            obtain ⟨z, hz⟩ : ∃ z, z = b / 2 ^^^ 3988292384 := ⟨_, rfl⟩
            rw [← hz] at hx hA2 hbb
            have HE := Lib.hid e
            clear e hz
            go_wp2_with fail
            go_roundw
            case rel => exact ⟨m + 1, z, by omega, hbb, rfl, by go_num, trivial, hA2⟩
            case measure => simp [intOf]; omega
        · obtain rfl : m = 8 := by omega
          go_wp2_with fail
          go_roundw
          case rel => exact ⟨k + 1, b, by omega, hb, rfl, by go_num, trivial, Lib.hid (by rw [hB.out, ← HS.out, HA2.out])⟩
          case measure => simp [intOf]; omega
    · have d0 : decide ((k : Int) < (s.size : Int)) = false := by simp; omega
      have hn1 := not32 a ha
      have HR : Hid (crcU n (Lb s) = 4294967295 - a) := Lib.hid (by unfold crcU; rw [← HR0.out, hA.out, List.take_of_length_le (by rw [Lb_len]; omega)])
      rw [← HR.out] at hn1
      go_wp2_with fail
      go_ret
      exact ⟨rfl, rfl⟩
set_option maxHeartbeats 2000000 in
theorem rsum_any (w : World) (s : ByteArray) (hs : s.size ≤ 1000000000000) : Calls Tryz.prog 50 #[.string s] w fun e w' => e = .returned (.int .u32 (crcU 0 (Lb s))) ∧ w = w' := by
  have hu := rupdate_any w 0 (by decide) s hs
  have HU := Lib.hid hu
  clear hu
  go_enter Tryz.func50, Tryz.ntmps50
  go_wp2_with fail
  refine HU.out.mono ?_
  rintro e w1 ⟨rfl, rfl⟩
  go_wp2_with fail
  go_ret
  exact ⟨rfl, rfl⟩
end Go.Proofs.YthebmbhdlkldiaaGreatDoor

namespace Go.Proofs.YthebmbhdlkldiaaGreatDoor
open Go.RowKit Go.Bl
attribute [local go_sem ↓] Go.wp_at_zero Go.wp_at_succ

theorem r5put_ok (w : World) (e : Ev) (he : rightE e = true) :
    Calls Tryz.prog 48 #[.agg #[.string e.kind, .string e.data]] w fun x w' => x = .returned (.string (Bl (evbL e))) ∧ Below w.heap.size w w' := by
  obtain ⟨h1, h2⟩ := rightE_sizes he
  have hB0 : Below w.heap.size w (w.alloc (.cells #[.string e.kind, .string e.data] 77)) := (Below.refl _ w).alloc (Nat.le_refl _) _
  have hblk := heap_alloc_new w (.cells #[.string e.kind, .string e.data] 77)
  have HE := Lib.hid he
  clear he
  go_enter Tryz.func48, Tryz.ntmps48
  go_upto_region 1 with (fail)
  generalize w.alloc (.cells #[.string e.kind, .string e.data] 77) = w1 at hB0 hblk ⊢
  have x0 : w1.cell? ⟨w.heap.size, 0, none⟩ = some (.string e.kind) := cell_of_row w1 _ 0 _ _ _ hblk
  have x1 : w1.cell? ⟨w.heap.size, 1, none⟩ = some (.string e.data) := cell_of_row w1 _ 1 _ _ _ hblk
  have hc := reright_any w1 e ⟨by omega, by omega⟩
  rw [HE.out] at hc
  have HC := Lib.hid hc
  have HB0 := Lib.hid hB0
  have HBK := Lib.hid hblk
  clear hc hB0 hblk
  go_wp2_with fail
  refine HC.out.mono ?_
  rintro x w2 ⟨rfl, hB2⟩
  have hb2 := (Keeps.of_fresh hB2 (fun _ => False)).grownTo HBK.out id
  have x0 : w2.cell? ⟨w.heap.size, 0, none⟩ = some (.string e.kind) := cell_of_row w2 _ 0 _ _ _ hb2
  have x1 : w2.cell? ⟨w.heap.size, 1, none⟩ = some (.string e.data) := cell_of_row w2 _ 1 _ _ _ hb2
  have HB2 := Lib.hid (HB0.out.trans (hB2.mono HB0.out.size))
  clear hB2 hb2
  go_wp2_with fail
  refine (debytes_any w2 e (by omega) (by omega)).mono ?_
  rintro x w3 ⟨rfl, hB3⟩
  have HB3 := Lib.hid (HB2.out.trans (hB3.mono HB2.out.size))
  clear hB3
  go_wp2_with fail
  go_ret
  exact ⟨rfl, HB3.out⟩
theorem drewB (w : World) : Below w.heap.size w w.drew := ⟨rfl, rfl, rfl, Nat.le_refl _, fun _ _ => rfl⟩
set_option maxRecDepth 20000 in
set_option maxHeartbeats 8000000 in
theorem r16put_any (w : World) (G : Nat → Prop) (pt : Pt) (sv rv : Value) (h : PtAt w G sv rv pt) (hp : PtSm pt) :
    Calls Tryz.prog 12 #[.agg #[.int .i64 pt.ap, sv, rv]] w fun e w' => e = .returned (.string (Bl (snpB pt))) ∧ Below w.heap.size w w' := by
  obtain ⟨A, c, rfl, hA1, hA2⟩ := h.ss.shape
  obtain ⟨A', c', rfl, hA1', hA2'⟩ := h.rs.shape
  unfold maxLen at hA2 hA2'
  have hss := hp.ss
  have hrs := hp.rs
  have hap := hp.ok.ap
  have HSM := Lib.hid hp
  have hlen := hp.len
  have hflat : (numL pt.ap.toNat).length + (numL pt.ss.length).length + (pt.ss.flatMap strmL).length + (numL pt.rs.length).length + (pt.rs.flatMap rqsL).length ≤ 500000 := by
    unfold snpL at hlen
    simp only [List.length_append] at hlen
    omega
  have hB1 : Below w.heap.size w (w.alloc (.cells #[.int .i64 pt.ap, .slice A pt.ss.length c, .slice A' pt.rs.length c'] 37)) := (Below.refl _ w).alloc (Nat.le_refl _) _
  have hg1 := heap_alloc_new w (.cells #[.int .i64 pt.ap, .slice A pt.ss.length c, .slice A' pt.rs.length c'] 37)
  have hP1 := h.fresh hB1
  obtain ⟨ap, hape⟩ : ∃ ap, pt.ap = ap := ⟨_, rfl⟩
  have HAP := Lib.hid hape
  rw [hape] at hB1 hg1 hP1 hap hflat ⊢
  clear h hp hlen hape
  go_enter Tryz.func12, Tryz.ntmps12
  go_upto_region 1 with (fail)
  generalize w.alloc (.cells #[.int .i64 ap, .slice A pt.ss.length c, .slice A' pt.rs.length c'] 37) = w1 at hB1 hg1 hP1 ⊢
  obtain ⟨g, hg⟩ : ∃ g, w.heap.size = g := ⟨_, rfl⟩
  rw [hg] at hg1 ⊢
  have HB1 := Lib.hid hB1
  have HGE := Lib.hid hg
  have x0 := cell_of_row w1 g 0 _ _ _ hg1
  have x1 := cell_of_row w1 g 1 _ _ _ hg1
  obtain ⟨S, hS, hSm, hSe⟩ := hP1.ss
  have HSS := Lib.hid (show Sl w1 G 3 smc (.slice A pt.ss.length c) S ∧ (∀ x ∈ S, SmAt w1 G x) ∧ S.map SmS.sp = pt.ss from ⟨hS, hSm, hSe⟩)
  have HRS := Lib.hid hP1.rs
  have HG1 := Lib.hid hg1
  have C1 := Lib.hid (fun W => dput_in W ap hap.1 (by omega))
  have C2 := Lib.hid (fun W => by
    have := dput_in W (pt.ss.length : Int) (by omega) (by omega)
    rw [Int.toNat_natCast] at this
    exact this)
  obtain ⟨t1, ht1⟩ : ∃ t, Bl (numL ap.toNat) = t := ⟨_, rfl⟩
  obtain ⟨t2, ht2⟩ : ∃ t, Bl (numL pt.ss.length) = t := ⟨_, rfl⟩
  have hnov : ¬ 9223372036854775807 < t1.size + t2.size := by rw [← ht1, ← ht2, Bl_size, Bl_size]; omega
  rw [ht1] at C1
  rw [ht2] at C2
  have x0 : w1.cell? ⟨g, 0, none⟩ = some (.int .i64 ap) := x0
  have x1 : w1.cell? ⟨g, 1, none⟩ = some (.slice A pt.ss.length c) := x1
  have HA := Lib.hid (drewB w1)
  clear hB1 hg1 hP1 hS hSm hSe hg
  go_region_held3 (fun x => x.cell? ⟨g, 0, none⟩ = some (.int .i64 ap) ∧ x.cell? ⟨g, 1, none⟩ = some (.slice A pt.ss.length c))
    (first | exact ⟨by assumption, by assumption⟩ | go_keep)
    (first
      | (go_at_call 46
         with_reducible refine (C1.out _).mono ?_
         rintro e w2 ⟨rfl, hBz⟩
         have x0 := (hBz.cell (p := ⟨g, 0, none⟩) (World.block_lt_of_cell? _ _ x0)).trans x0; have x1 := (hBz.cell (p := ⟨g, 1, none⟩) (World.block_lt_of_cell? _ _ x1)).trans x1
         have HA := Lib.hid (HA.out.trans (hBz.mono HA.out.size))
         clear hBz
        )
      | (go_at_call 46
         with_reducible refine (C2.out _).mono ?_
         rintro e w3 ⟨rfl, hBz⟩
         have x0 := (hBz.cell (p := ⟨g, 0, none⟩) (World.block_lt_of_cell? _ _ x0)).trans x0; have x1 := (hBz.cell (p := ⟨g, 1, none⟩) (World.block_lt_of_cell? _ _ x1)).trans x1
         have HA := Lib.hid (HA.out.trans (hBz.mono HA.out.size))
         clear hBz
        ))
  obtain ⟨hd, hhd⟩ : ∃ hd, numL ap.toNat ++ numL pt.ss.length = hd := ⟨_, rfl⟩
  have htt : t1 ++ t2 = Bl hd := by rw [← hhd, Bl_append, ht1, ht2]
  have hhdl : hd.length + (pt.ss.flatMap strmL).length + (numL pt.rs.length).length + (pt.rs.flatMap rqsL).length ≤ 500000 := by rw [← hhd, List.length_append]; omega
  have HHD := Lib.hid hhd
  have HA3 := HA
  rw [htt]
  clear C1 C2 x0 x1 hnov ht1 ht2 hhd htt HA
  go_wp2_with fail
  go_loopw [3, 4, 5, 6] (fun s i _ _ wr => ∃ k : Nat, k ≤ pt.ss.length ∧ i = .int .i64 k ∧ s = .string (Bl (hd ++ (pt.ss.take k).flatMap strmL)) ∧ wr.heap[g]? = some (.cells #[.int .i64 ap, .slice A pt.ss.length c, .slice A' pt.rs.length c'] 37 (0, 0)) ∧ Below w1.heap.size w1 wr) (fun _ i _ _ _ => pt.ss.length - (Go.RowKit.intOf i).toNat)
  case atStart => exact ⟨0, Nat.zero_le _, rfl, by rw [List.take_zero, List.flatMap_nil, List.append_nil], (Keeps.of_fresh HA3.out (fun _ => False)).grownTo HG1.out id, HA3.out⟩
  case round =>
    obtain ⟨k, hk, rfl, rfl, hgk, hBk⟩ := hrel
    have x1 := cell_of_row wr g 1 _ _ _ hgk
    have HBK := Lib.hid hBk
    have HGK := Lib.hid hgk
    clear hBk hgk HA3
    by_cases hlt : k < pt.ss.length
    · have d0 : decide ((k : Int) < (pt.ss.length : Int)) = true := decide_eq_true (by omega)
      have hkl : k < S.length := by have := congrArg List.length HSS.out.2.2; rw [List.length_map] at this; omega
      have hsx : S[k].sp = pt.ss[k] := by
        have := HSS.out.2.2
        rw [List.getElem_of_eq this.symm hlt, List.getElem_map]
      obtain ⟨ab, ao, rfl, _, _, hxx⟩ := (HSS.out.1.fresh HBK.out).cell_ hkl
      have hsm := HSS.out.2.1 S[k] (List.getElem_mem hkl)
      have hmem : S[k].sp ∈ pt.ss := hsx ▸ List.getElem_mem hlt
      have hsp := HSM.out.ok.sp hmem
      have hev := HSM.out.ev _ hmem
      have hfl := flat_take_le strmL pt.ss (k + 1)
      rw [flat_take_succ strmL hlt, ← hsx, List.length_append] at hfl
      obtain ⟨⟨⟨xn, xe, xp⟩, ev, pv, o1, o2⟩, hX⟩ : ∃ x, x = S[k] := ⟨_, rfl⟩
      rw [← hX] at hxx hsm hsp hev hfl
      have hsx' := hsx
      rw [← hX] at hsx'
      obtain ⟨E, ec, hE, _, _⟩ := hsm.1.shape
      obtain ⟨U, uc, hU, _, _⟩ := hsm.2.shape
      change xn.size ≤ 128 ∧ xe.length = xp.length ∧ (∀ q ∈ xp.zip xe, 1 ≤ q.1 ∧ q.1 ≤ 274877906944 ∧ rightE q.2 = true) at hsp
      change xe.length ≤ 1000 at hev
      change ev = .slice E xe.length ec at hE
      change pv = .slice U xp.length uc at hU
      subst hE hU
      have x0 : wr.cell? ⟨ab, ao + k * 3, none⟩ = some (.string xn) := hxx 0 _ rfl
      have x2 : wr.cell? ⟨ab, ao + k * 3 + 1, none⟩ = some (.slice E xe.length ec) := hxx 1 _ rfl
      have x3 : wr.cell? ⟨ab, ao + k * 3 + 2, none⟩ = some (.slice U xp.length uc) := hxx 2 _ rfl
      have hB5 : Below wr.heap.size wr (wr.alloc (.cells #[.string xn, .slice E xe.length ec, .slice U xp.length uc] 107)) := (Below.refl _ wr).alloc (Nat.le_refl _) _
      have hx5 := heap_alloc_new wr (.cells #[.string xn, .slice E xe.length ec, .slice U xp.length uc] 107)
      have HSX := Lib.hid hsm
      have HSP := Lib.hid hsp.2.2
      have hxnl := hsp.1
      have HXL := Lib.hid hsp.2.1
      have hSX : strmL ⟨xn, xe, xp⟩ = txtL (Lb xn) ++ (numL xe.length ++ (xp.zip xe).flatMap oneL) := rfl
      change _ + (strmL ⟨xn, xe, xp⟩).length ≤ _ at hfl
      rw [hSX, List.length_append, List.length_append] at hfl
      have HSXX := Lib.hid hsx'
      clear hxx hsm hsp hmem hsx hsx' hX hSX
      go_upto_region 6 with (fail)
      generalize wr.alloc (.cells #[.string xn, .slice E xe.length ec, .slice U xp.length uc] 107) = w5 at hB5 hx5 ⊢
      obtain ⟨xb, hxb⟩ : ∃ xb, wr.heap.size = xb := ⟨_, rfl⟩
      have HG5 := Lib.hid ((Keeps.of_fresh hB5 (fun _ => False)).grownTo HGK.out id)
      have HB5 := Lib.hid (HBK.out.trans (hB5.mono HBK.out.size))
      rw [hxb] at hx5 ⊢
      have HX5 := Lib.hid hx5
      have b0 : w5.cell? ⟨xb, 0, none⟩ = some (.string xn) := cell_of_row w5 xb 0 _ _ _ hx5
      have b1 : w5.cell? ⟨xb, 1, none⟩ = some (.slice E xe.length ec) := cell_of_row w5 xb 1 _ _ _ hx5
      have C1 := Lib.hid (fun W => dputText_any W xn (by omega))
      have C2 := Lib.hid (fun W => by
        have := dput_in W (xe.length : Int) (by omega) (by omega)
        rw [Int.toNat_natCast] at this
        exact this)
      obtain ⟨u0, hu0⟩ : ∃ u, Bl (hd ++ (pt.ss.take k).flatMap strmL) = u := ⟨_, rfl⟩
      obtain ⟨t1, ht1⟩ : ∃ t, Bl (txtL (Lb xn)) = t := ⟨_, rfl⟩
      obtain ⟨t2, ht2⟩ : ∃ t, Bl (numL xe.length) = t := ⟨_, rfl⟩
      have hsz1 : u0.size + t1.size ≤ 600000 ∧ t2.size ≤ 600000 := by
        rw [← hu0, ← ht1, ← ht2, Bl_size, Bl_size, Bl_size, List.length_append]; omega
      have hnov1 : ¬ 9223372036854775807 < u0.size + t1.size := by omega
      have hnov2 : ¬ 9223372036854775807 < (u0 ++ t1).size + t2.size := by rw [ByteArray.size_append]; omega
      have hnov3 : ¬ 9223372036854775807 < u0.size + t1.size + t2.size := by omega
      rw [ht1] at C1
      rw [ht2] at C2
      rw [hu0]
      have HA := Lib.hid (drewB w5)
      clear hB5 hx5 hxb x0 x1 x2 x3
      go_region_held3 (fun x => x.cell? ⟨xb, 0, none⟩ = some (.string xn) ∧ x.cell? ⟨xb, 1, none⟩ = some (.slice E xe.length ec))
        (first | exact ⟨by assumption, by assumption⟩ | go_keep)
        (first
          | (go_at_call 47
             with_reducible refine (C1.out _).mono ?_
             rintro e w6 ⟨rfl, hBz⟩
             have b0 := (hBz.cell (p := ⟨xb, 0, none⟩) (World.block_lt_of_cell? _ _ b0)).trans b0; have b1 := (hBz.cell (p := ⟨xb, 1, none⟩) (World.block_lt_of_cell? _ _ b1)).trans b1
             have HA := Lib.hid (HA.out.trans (hBz.mono HA.out.size))
             clear hBz
            )
          | (go_at_call 46
             with_reducible refine (C2.out _).mono ?_
             rintro e w7 ⟨rfl, hBz⟩
             have b0 := (hBz.cell (p := ⟨xb, 0, none⟩) (World.block_lt_of_cell? _ _ b0)).trans b0; have b1 := (hBz.cell (p := ⟨xb, 1, none⟩) (World.block_lt_of_cell? _ _ b1)).trans b1
             have HA := Lib.hid (HA.out.trans (hBz.mono HA.out.size))
             clear hBz
            ))
      obtain ⟨pre, hpre⟩ : ∃ pre, hd ++ (pt.ss.take k).flatMap strmL ++ txtL (Lb xn) ++ numL xe.length = pre := ⟨_, rfl⟩
      have htt : u0 ++ t1 ++ t2 = Bl pre := by rw [← hpre, Bl_append, Bl_append, hu0, ht1, ht2]
      have hprel : pre.length + ((xp.zip xe).flatMap oneL).length ≤ 500000 := by
        rw [← hpre, List.length_append, List.length_append, List.length_append]
        omega
      have HPRE := Lib.hid hpre
      have HA7 := HA
      rw [htt]
      clear hpre htt hu0 ht1 ht2 hsz1 hnov1 hnov2 C1 C2 b0 b1 HA
      go_wp2_with fail
      go_loopw [3, 6] (fun s i wr => ∃ j : Nat, j ≤ xe.length ∧ i = .int .i64 j ∧ s = .string (Bl (pre ++ ((xp.zip xe).take j).flatMap oneL)) ∧ Below w5.heap.size w5 wr) (fun _ i _ => xe.length - (Go.RowKit.intOf i).toNat)
      case atStart => exact ⟨0, Nat.zero_le _, rfl, by rw [List.take_zero, List.flatMap_nil, List.append_nil], HA7.out⟩
      case round =>
        obtain ⟨j, hj, rfl, rfl, hBj⟩ := hrel
        have HBJ := Lib.hid hBj
        have hxj := (Keeps.of_fresh hBj (fun _ => False)).grownTo HX5.out id
        have b1 : wr.cell? ⟨xb, 1, none⟩ = some (.slice E xe.length ec) := cell_of_row wr xb 1 _ _ _ hxj
        have b2 : wr.cell? ⟨xb, 2, none⟩ = some (.slice U xp.length uc) := cell_of_row wr xb 2 _ _ _ hxj
        have HBW := Lib.hid (HB5.out.trans (hBj.mono HB5.out.size))
        clear hBj hxj HA7
        by_cases hjl : j < xe.length
        · have d0 : decide ((j : Int) < (xe.length : Int)) = true := decide_eq_true (by omega)
          have hjp : j < xp.length := by have := HXL.out; omega
          have hzl : j < (xp.zip xe).length := by have := HXL.out; rw [List.length_zip]; omega
          have hq : (xp.zip xe)[j] = (xp[j], xe[j]) := List.getElem_zip ..
          have hqq := HSP.out _ (List.getElem_mem hzl)
          have hfz := flat_take_le oneL (xp.zip xe) (j + 1)
          rw [flat_take_succ oneL hzl, List.length_append] at hfz
          have HTS := Lib.hid (flat_take_succ oneL hzl)
          rw [hq] at hqq hfz HTS
          obtain ⟨eb, eo, rfl, _, _, hee⟩ := (HSX.out.1.fresh HBW.out).cell_ hjl
          obtain ⟨ub, uo, rfl, _, _, huu⟩ := (HSX.out.2.fresh HBW.out).cell_ hjp
          have y0 := hee 0 _ rfl
          have y1 := hee 1 _ rfl
          have u0 := huu 0 _ rfl
          obtain ⟨e, he⟩ : ∃ e, e = xe[j] := ⟨_, rfl⟩
          obtain ⟨n, hn⟩ : ∃ n, n = xp[j] := ⟨_, rfl⟩
          change _ = some (Value.string xe[j].kind) at y0
          change _ = some (Value.string xe[j].data) at y1
          change _ = some (Value.int .i64 xp[j]) at u0
          rw [← he] at y0 y1 hqq hfz HTS
          rw [← hn] at u0 hqq hfz HTS
          rw [Nat.add_zero] at y0
          rw [Nat.mul_one, Nat.add_zero] at u0
          change 1 ≤ n ∧ n ≤ 274877906944 ∧ rightE e = true at hqq
          have hn1 := hqq.1
          have hn2 := hqq.2.1
          have HER := Lib.hid hqq.2.2
          have hone : (oneL (n, e)).length = (numL n.toNat).length + (evbL e).length := by unfold oneL; rw [List.length_append]
          have C1 := Lib.hid (fun W => dput_in W n (by omega) (by omega))
          have C2 := Lib.hid (fun W => r5put_ok W e HER.out)
          obtain ⟨v0, hv0⟩ : ∃ u, Bl (pre ++ ((xp.zip xe).take j).flatMap oneL) = u := ⟨_, rfl⟩
          obtain ⟨t1, ht1⟩ : ∃ t, Bl (numL n.toNat) = t := ⟨_, rfl⟩
          obtain ⟨t2, ht2⟩ : ∃ t, Bl (evbL e) = t := ⟨_, rfl⟩
          have hsz1 : v0.size + t1.size ≤ 1600000 ∧ t2.size ≤ 1600000 := by
            rw [← hv0, ← ht1, ← ht2, Bl_size, Bl_size, Bl_size, List.length_append]; omega
          have hnov1 : ¬ 9223372036854775807 < v0.size + t1.size := by omega
          have hnov2 : ¬ 9223372036854775807 < (v0 ++ t1).size + t2.size := by rw [ByteArray.size_append]; omega
          have hnov3 : ¬ 9223372036854775807 < v0.size + t1.size + t2.size := by omega
          rw [ht1] at C1
          rw [ht2] at C2
          rw [hv0]
          have HTT := Lib.hid (show v0 ++ t1 ++ t2 = Bl (pre ++ ((xp.zip xe).take (j + 1)).flatMap oneL) by
            rw [HTS.out, ← List.append_assoc, Bl_append (pre ++ _), hv0, ← ht1, ← ht2, ByteArray.append_assoc, ← Bl_append]
            rfl)
          have hI0 : (0 : Int) ≤ (j : Int) := by omega
          have hI1 : (j : Int) < (xe.length : Int) := by omega
          have hI2 : (j : Int) < (xp.length : Int) := by omega
          have HA := Lib.hid (drewB wr)
          clear hee huu he hn hqq hzl hq hfz hone hsz1 hv0 ht1 ht2
          go_wp2_with fail
          go_region_held3 (fun x => x.cell? ⟨xb, 1, none⟩ = some (.slice (some ⟨eb, eo, none⟩) xe.length ec) ∧ x.cell? ⟨xb, 2, none⟩ = some (.slice (some ⟨ub, uo, none⟩) xp.length uc) ∧ x.cell? ⟨eb, eo + j * 2, none⟩ = some (.string e.kind) ∧ x.cell? ⟨eb, eo + j * 2 + 1, none⟩ = some (.string e.data) ∧ x.cell? ⟨ub, uo + j, none⟩ = some (.int .i64 n))
            (first | exact ⟨by assumption, by assumption, by assumption, by assumption, by assumption⟩ | go_keep)
            (first
              | (go_at_call 46
                 with_reducible refine (C1.out _).mono ?_
                 rintro e w8 ⟨rfl, hBz⟩
                 have b1 := (hBz.cell (p := ⟨xb, 1, none⟩) (World.block_lt_of_cell? _ _ b1)).trans b1
                 have b2 := (hBz.cell (p := ⟨xb, 2, none⟩) (World.block_lt_of_cell? _ _ b2)).trans b2
                 have y0 := (hBz.cell (p := ⟨eb, eo + j * 2, none⟩) (World.block_lt_of_cell? _ _ y0)).trans y0
                 have y1 := (hBz.cell (p := ⟨eb, eo + j * 2 + 1, none⟩) (World.block_lt_of_cell? _ _ y1)).trans y1
                 have u0 := (hBz.cell (p := ⟨ub, uo + j, none⟩) (World.block_lt_of_cell? _ _ u0)).trans u0
                 have HA := Lib.hid (HA.out.trans (hBz.mono HA.out.size))
                 clear hBz
                )
              | (go_at_call 48
                 with_reducible refine (C2.out _).mono ?_
                 rintro e w9 ⟨rfl, hBz⟩
                 have b1 := (hBz.cell (p := ⟨xb, 1, none⟩) (World.block_lt_of_cell? _ _ b1)).trans b1
                 have b2 := (hBz.cell (p := ⟨xb, 2, none⟩) (World.block_lt_of_cell? _ _ b2)).trans b2
                 have y0 := (hBz.cell (p := ⟨eb, eo + j * 2, none⟩) (World.block_lt_of_cell? _ _ y0)).trans y0
                 have y1 := (hBz.cell (p := ⟨eb, eo + j * 2 + 1, none⟩) (World.block_lt_of_cell? _ _ y1)).trans y1
                 have u0 := (hBz.cell (p := ⟨ub, uo + j, none⟩) (World.block_lt_of_cell? _ _ u0)).trans u0
                 have HA := Lib.hid (HA.out.trans (hBz.mono HA.out.size))
                 clear hBz
                ))
          rw [HTT.out]
          have HA9 := HA
          clear b1 b2 y0 y1 u0 HA
          go_wp2_with fail
          go_roundw
          case rel => exact ⟨j + 1, hjl, by go_num, rfl, HBJ.out.trans (HA9.out.mono HBJ.out.size)⟩
          case measure => simp [Go.RowKit.intOf]; omega
        · have hjk : j = xe.length := by omega
          subst hjk
          have d0' : decide ((xe.length : Int) < (xe.length : Int)) = false := by simp
          have HPN := Lib.hid (show Bl (pre ++ ((xp.zip xe).take xe.length).flatMap oneL) = Bl (hd ++ (pt.ss.take (k + 1)).flatMap strmL) by
            rw [List.take_of_length_le (by have := HXL.out; rw [List.length_zip]; omega), ← HPRE.out]
            rw [flat_take_succ strmL hlt, ← HSXX.out, show strmL ⟨xn, xe, xp⟩ = txtL (Lb xn) ++ (numL xe.length ++ (xp.zip xe).flatMap oneL) from rfl]
            simp only [List.append_assoc])
          rw [HPN.out]
          go_wp2_with fail
          go_roundw
          case rel => exact ⟨k + 1, hlt, by go_num, rfl, (Keeps.of_fresh HBJ.out (fun _ => False)).grownTo HG5.out id, HBW.out⟩
          case measure => simp [Go.RowKit.intOf]; omega
    · have hkd : k = pt.ss.length := by omega
      subst hkd
      have d0 : decide ((pt.ss.length : Int) < (pt.ss.length : Int)) = false := by simp
      have x2 := cell_of_row wr g 2 _ _ _ HGK.out
      rw [List.take_length]
      have C1 := Lib.hid (by
        have := dput_in wr (pt.rs.length : Int) (by omega) (by omega)
        rw [Int.toNat_natCast] at this
        exact this)
      obtain ⟨u0, hu0⟩ : ∃ u, Bl (hd ++ pt.ss.flatMap strmL) = u := ⟨_, rfl⟩
      obtain ⟨t1, ht1⟩ : ∃ t, Bl (numL pt.rs.length) = t := ⟨_, rfl⟩
      have hnov1 : ¬ 9223372036854775807 < u0.size + t1.size := by rw [← hu0, ← ht1, Bl_size, Bl_size, List.length_append]; omega
      rw [ht1] at C1
      rw [hu0]
      go_wp2_with fail
      refine C1.out.mono ?_
      rintro e w8 ⟨rfl, hB8⟩
      obtain ⟨pre, hpre⟩ : ∃ pre, hd ++ pt.ss.flatMap strmL ++ numL pt.rs.length = pre := ⟨_, rfl⟩
      have HTT := Lib.hid (show u0 ++ t1 = Bl pre by rw [← hpre, Bl_append, hu0, ht1])
      have hprel : pre.length + (pt.rs.flatMap rqsL).length ≤ 500000 := by
        rw [← hpre, List.length_append, List.length_append]
        omega
      have HPRE := Lib.hid hpre
      have HG8 := Lib.hid ((Keeps.of_fresh hB8 (fun _ => False)).grownTo HGK.out id)
      have HB8 := Lib.hid (HBK.out.trans (hB8.mono HBK.out.size))
      clear hpre hu0 ht1 C1 x1 x2 hB8
      go_wp2_with fail
      rw [HTT.out]
      go_loopw [3, 7, 8, 9, 10] (fun s i _ _ _ wr => ∃ k : Nat, k ≤ pt.rs.length ∧ i = .int .i64 k ∧ s = .string (Bl (pre ++ (pt.rs.take k).flatMap rqsL)) ∧ wr.heap[g]? = some (.cells #[.int .i64 ap, .slice A pt.ss.length c, .slice A' pt.rs.length c'] 37 (0, 0)) ∧ Below w1.heap.size w1 wr) (fun _ i _ _ _ _ => pt.rs.length - (Go.RowKit.intOf i).toNat)
      case atStart => exact ⟨0, Nat.zero_le _, rfl, by rw [List.take_zero, List.flatMap_nil, List.append_nil], HG8.out, HB8.out⟩
      case round =>
        obtain ⟨k, hk, rfl, rfl, hgk, hBk⟩ := hrel
        have x2 := cell_of_row wr g 2 _ _ _ hgk
        have HBK := Lib.hid hBk
        have HGK := Lib.hid hgk
        clear hBk hgk HG8 HB8 hnov1
        by_cases hlt : k < pt.rs.length
        · have d0 : decide ((k : Int) < (pt.rs.length : Int)) = true := decide_eq_true (by omega)
          obtain ⟨ab, ao, rfl, _, _, hxx⟩ := (HRS.out.fresh HBK.out).cell_ hlt
          have hrq := HSM.out.ok.rq (List.getElem_mem hlt)
          have hfl := flat_take_le rqsL pt.rs (k + 1)
          rw [flat_take_succ rqsL hlt, List.length_append] at hfl
          have HTS := Lib.hid (flat_take_succ rqsL hlt)
          obtain ⟨⟨r1, r2, ⟨r3, r4, r5, r6⟩⟩, hr⟩ : ∃ r, r = pt.rs[k] := ⟨_, rfl⟩
          rw [← hr] at hxx hrq hfl HTS
          have x0 : wr.cell? ⟨ab, ao + k * 6, none⟩ = some (.int .i64 r1) := hxx 0 _ rfl
          have x1 : wr.cell? ⟨ab, ao + k * 6 + 1, none⟩ = some (.int .i64 r2) := hxx 1 _ rfl
          have x3 : wr.cell? ⟨ab, ao + k * 6 + 2, none⟩ = some (.int .i64 r3) := hxx 2 _ rfl
          have x4 : wr.cell? ⟨ab, ao + k * 6 + 3, none⟩ = some (.int .i64 r4) := hxx 3 _ rfl
          have x5 : wr.cell? ⟨ab, ao + k * 6 + 4, none⟩ = some (.int .i64 r5) := hxx 4 _ rfl
          have x6 : wr.cell? ⟨ab, ao + k * 6 + 5, none⟩ = some (.int .i64 r6) := hxx 5 _ rfl
          have hBd : Below wr.heap.size wr (wr.alloc (.cells #[.int .i64 r1, .int .i64 r2, .int .i64 r3, .int .i64 r4, .int .i64 r5, .int .i64 r6] 108)) := (Below.refl _ wr).alloc (Nat.le_refl _) _
          have hvb := heap_alloc_new wr (.cells #[.int .i64 r1, .int .i64 r2, .int .i64 r3, .int .i64 r4, .int .i64 r5, .int .i64 r6] 108)
          have HRQ := Lib.hid (show ∀ n ∈ [r1, r2, r3, r4, r5, r6], 0 ≤ n ∧ n ≤ 274877906944 from hrq)
          clear hxx hr hrq
          go_upto_region 16 with (fail)
          generalize wr.alloc (.cells #[.int .i64 r1, .int .i64 r2, .int .i64 r3, .int .i64 r4, .int .i64 r5, .int .i64 r6] 108) = wd at hBd hvb ⊢
          obtain ⟨vb, hvbe⟩ : ∃ vb, wr.heap.size = vb := ⟨_, rfl⟩
          rw [hvbe] at hvb ⊢
          have z0 := cell_of_row wd vb 0 _ _ _ hvb
          have z1 := cell_of_row wd vb 1 _ _ _ hvb
          have z2 := cell_of_row wd vb 2 _ _ _ hvb
          have z3 := cell_of_row wd vb 3 _ _ _ hvb
          have z4 := cell_of_row wd vb 4 _ _ _ hvb
          have z5 := cell_of_row wd vb 5 _ _ _ hvb
          have hal := (Below.refl wd.heap.size wd).alloc (Nat.le_refl _) (.cells #[.int .i64 r1, .int .i64 r2, .int .i64 r3, .int .i64 r4, .int .i64 r5, .int .i64 r6] 3)
          have hnb := heap_alloc_new wd (.cells #[.int .i64 r1, .int .i64 r2, .int .i64 r3, .int .i64 r4, .int .i64 r5, .int .i64 r6] 3)
          clear hvbe x0 x1 x2 x3 x4 x5 x6
          go_upto_region 17 with (fail)
          generalize wd.alloc (.cells #[.int .i64 r1, .int .i64 r2, .int .i64 r3, .int .i64 r4, .int .i64 r5, .int .i64 r6] 3) = we at hal hnb ⊢
          obtain ⟨nb, hnbe⟩ : ∃ nb, wd.heap.size = nb := ⟨_, rfl⟩
          rw [hnbe] at hnb ⊢
          have HNB := Lib.hid hnb
          have HBE := Lib.hid ((HBK.out.trans (hBd.mono HBK.out.size)).trans (hal.mono (by have := HBK.out.size; have := hBd.size; omega)))
          have HGE2 := Lib.hid ((Keeps.of_fresh hal (fun _ => False)).grownTo ((Keeps.of_fresh hBd (fun _ => False)).grownTo HGK.out id) id)
          obtain ⟨ns, hns⟩ : ∃ ns, [r1, r2, r3, r4, r5, r6] = ns := ⟨_, rfl⟩
          have hnl : ns.length = 6 := by rw [← hns]; rfl
          have HCS := Lib.hid (show ∀ j (h : j < ns.length), (#[.int .i64 r1, .int .i64 r2, .int .i64 r3, .int .i64 r4, .int .i64 r5, .int .i64 r6] : Array Value)[j]? = some (.int .i64 ns[j]) by
            subst hns
            intro j h
            match j, h with
            | 0, _ => rfl
            | 1, _ => rfl
            | 2, _ => rfl
            | 3, _ => rfl
            | 4, _ => rfl
            | 5, _ => rfl)
          have HNS := Lib.hid (show rqsL ⟨r1, r2, ⟨r3, r4, r5, r6⟩⟩ = numsL ns by rw [← hns]; rfl)
          rw [hns] at HRQ
          have HNL := Lib.hid hnl
          obtain ⟨P, hP⟩ : ∃ P, pre ++ (pt.rs.take k).flatMap rqsL = P := ⟨_, rfl⟩
          have hPl : P.length ≤ 500000 := by rw [← hP, List.length_append]; omega
          have HPP := Lib.hid hP
          rw [hP]
          clear hBd hvb hal hnb hnbe z0 z1 z2 z3 z4 z5 hns hnl hP
          go_wp2_with fail
          go_loopw [3, 10] (fun s i wr => ∃ j : Nat, j ≤ 6 ∧ i = .int .i64 j ∧ s = .string (Bl (P ++ numsL (ns.take j))) ∧ Below we.heap.size we wr) (fun _ i _ => 6 - (Go.RowKit.intOf i).toNat)
          case atStart => exact ⟨0, Nat.zero_le _, rfl, by rw [List.take_zero]; unfold numsL; rw [List.flatMap_nil, List.append_nil], Below.refl _ _⟩
          case round =>
            obtain ⟨j, hj, rfl, rfl, hBj⟩ := hrel
            have HBJ := Lib.hid hBj
            by_cases hjl : j < 6
            · have hjn : j < ns.length := by have := HNL.out; omega
              have d0 : decide ((j : Int) < 6) = true := decide_eq_true (by omega)
              have d1 : decide (j < 6) = true := decide_eq_true hjl
              have hnj := (Keeps.of_fresh hBj (fun _ => False)).grownTo HNB.out id
              have x0 : wr.cell? ⟨nb, j, none⟩ = some (.int .i64 ns[j]) := (cell_of_row wr nb j _ _ _ hnj).trans (HCS.out j hjn)
              have hb := HRQ.out ns[j] (List.getElem_mem hjn)
              have hnl6 := numL_len (n := ns[j].toNat) (by omega)
              have htl : (numsL (ns.take j)).length ≤ 36 := by
                have := numsL_len (l := ns.take j) (fun n hn => HRQ.out n (List.mem_of_mem_take hn))
                rw [List.length_take] at this
                have := HNL.out
                omega
              have HTK := Lib.hid (show numsL (ns.take (j + 1)) = numsL (ns.take j) ++ numL ns[j].toNat by
                rw [List.take_succ_eq_append_getElem hjn]
                unfold numsL
                rw [List.flatMap_append, List.flatMap_cons, List.flatMap_nil, List.append_nil])
              obtain ⟨x, hx⟩ : ∃ x, x = ns[j] := ⟨_, rfl⟩
              rw [← hx] at x0 hb hnl6 HTK
              have C1 := Lib.hid (dput_in wr x hb.1 (by omega))
              obtain ⟨u0, hu0⟩ : ∃ u, Bl (P ++ numsL (ns.take j)) = u := ⟨_, rfl⟩
              obtain ⟨t1, ht1⟩ : ∃ t, Bl (numL x.toNat) = t := ⟨_, rfl⟩
              have hnov1 : ¬ 9223372036854775807 < u0.size + t1.size := by rw [← hu0, ← ht1, Bl_size, Bl_size, List.length_append]; omega
              have HTT := Lib.hid (show u0 ++ t1 = Bl (P ++ numsL (ns.take (j + 1))) by rw [HTK.out, ← List.append_assoc, Bl_append (P ++ _), hu0, ht1])
              rw [ht1] at C1
              rw [hu0]
              clear hBj hnj hx hu0 ht1
              go_wp2_with fail
              refine C1.out.mono ?_
              rintro e w9 ⟨rfl, hB9⟩
              have HB9 := Lib.hid (HBJ.out.trans (hB9.mono HBJ.out.size))
              clear hB9 C1 x0
              go_wp2_with fail
              rw [HTT.out]
              go_roundw
              case rel => exact ⟨j + 1, hjl, by go_num, rfl, HB9.out⟩
              case measure => simp [Go.RowKit.intOf]; omega
            · have hj6 : j = 6 := by omega
              subst hj6
              have HPN := Lib.hid (show Bl (P ++ numsL (ns.take 6)) = Bl (pre ++ (pt.rs.take (k + 1)).flatMap rqsL) by
                rw [List.take_of_length_le (by have := HNL.out; omega), ← HPP.out, HTS.out, HNS.out, List.append_assoc])
              rw [HPN.out]
              clear hBj
              go_wp2_with fail
              go_roundw
              case rel => exact ⟨k + 1, hlt, by go_num, rfl, (Keeps.of_fresh HBJ.out (fun _ => False)).grownTo HGE2.out id, HBE.out.trans (HBJ.out.mono HBE.out.size)⟩
              case measure => simp [Go.RowKit.intOf]; omega
        · have hkd : k = pt.rs.length := by omega
          subst hkd
          have d0 : decide ((pt.rs.length : Int) < (pt.rs.length : Int)) = false := by simp
          rw [List.take_length]
          have HL := Lib.hid (show pre ++ pt.rs.flatMap rqsL = snpL pt by
            rw [← HPRE.out, ← HHD.out, ← HAP.out]
            unfold snpL
            simp only [List.append_assoc])
          obtain ⟨L, hLe⟩ : ∃ L, pre ++ pt.rs.flatMap rqsL = L := ⟨_, rfl⟩
          have hLl : L.length ≤ 500000 := by rw [← hLe, List.length_append]; omega
          have HGO := Lib.hid (show snpB pt = fixL (crcU 0 L) ++ L by unfold snpB; rw [← HL.out, hLe])
          rw [hLe]
          have HC1 := Lib.hid (rsum_any wr (Bl L) (by rw [Bl_size]; omega))
          clear hLe
          go_wp2_with fail
          refine HC1.out.mono ?_
          rintro e wz ⟨rfl, rfl⟩
          rw [Lb_Bl]
          have HC2 := Lib.hid (rfixed_any wr (crcU 0 L) (crcU_lt 0 L))
          have hnov : ¬ 9223372036854775807 < (Bl (fixL (crcU 0 L))).size + (Bl L).size := by rw [Bl_size, Bl_size, fixL_len]; omega
          go_wp2_with fail
          refine HC2.out.mono ?_
          rintro e w9 ⟨rfl, hB9⟩
          have HB9 := Lib.hid (HB1.out.trans ((HBK.out.trans (hB9.mono HBK.out.size)).mono HB1.out.size))
          clear hB9
          go_wp2_with fail
          go_ret
          exact ⟨by rw [HGO.out, Bl_append]; rfl, HB9.out⟩
end Go.Proofs.YthebmbhdlkldiaaGreatDoor

namespace Go.Proofs.YthebmbhdlkldiaaGreatDoor
open Go.RowKit Go.Bl
attribute [local go_sem ↓] Go.wp_at_zero Go.wp_at_succ

set_option maxRecDepth 10000 in
set_option maxHeartbeats 4000000 in
theorem puts_any (w : World) (hT : Tabs w) (v : Value) (l : List Ent) (h : EntsOk w (fun b => b < w.heap.size) v l)
    (hfl : ∀ a ∈ l, (∀ e ∈ a.evs, EvSm e) ∧ a.stream.size ≤ 1000000000 ∧ a.evs.length ≤ 1000000) (hl : l.length ≤ 900000) (hev : evN l ≤ 900000) :
    Calls Tryz.prog 3 #[v] w fun x w' => x = .returned (.bool true) ∧ Below w.heap.size w w' := by
  obtain ⟨A, c, rfl, hA1, hA2⟩ := h.1.shape
  unfold maxLen at hA2
  have HTb := Lib.hid hT
  have HA := Lib.hid h
  have HFL := Lib.hid hfl
  clear hT h hfl
  go_enter Tryz.func3, Tryz.ntmps3
  go_wp2_with fail
  refine (shown_any w HTb.out).mono ?_
  rintro e wa ⟨rfl, hBa⟩
  have HBa := Lib.hid hBa
  clear hBa
  go_wp2_with fail
  refine (fits_all wa _ _ l (HA.out.fresh HBa.out)).mono ?_
  rintro x wb ⟨rfl, hBb⟩
  have HBb := Lib.hid (HBa.out.trans (hBb.mono HBa.out.size))
  clear hBb
  have HC := Lib.hid (made_gen wb (HTb.out.fresh HBb.out) (fun b => b < w.heap.size) _ l (HA.out.fresh HBb.out) HFL.out hl hev)
  go_wp2_with fail
  refine HC.out.mono ?_
  rintro e wc ⟨p, m, F, W, M, rfl, hMd⟩
  have HMD := Lib.hid hMd
  have HBc := Lib.hid (HBb.out.trans (hMd.bel.mono HBb.out.size))
  clear hMd HC
  cases hfb : fitsB l
  · go_wp2_with fail
    go_ret
    exact ⟨rfl, HBc.out⟩
  have HFB := Lib.hid hfb
  clear hfb
  have hl40 := (fitsB_at HFB.out).1
  have hso : SOk (madeS l) l.length := by
    have := SOk.made l l.length (fun a ha => (entF_at ((fitsB_at HFB.out).2 a ha)).1) (Nat.le_refl _) (by omega)
    rw [List.take_length] at this
    exact this
  obtain ⟨s, hs⟩ : ∃ s, madeS l = s := ⟨_, rfl⟩
  rw [hs] at HMD hso
  have HSO := Lib.hid hso
  have hsm := hso.rch.small (by have := hso.lL; omega) (by have := hso.lT; omega)
  have HSM := Lib.hid hsm
  have HU := Lib.hid (fun (wz : World) (hz : Tabs wz) (p : Nat) (F W : Nat → Prop) (hst : StAt wz p s F W) => snapPut_any wz hz p s F W hst HSO.out.rch (by have := HSO.out.lL; omega) (by have := HSO.out.lT; omega) (fun o ho => Nat.le_trans (HSO.out.str o ho) (by decide)))
  have HMP := Lib.hid (fun (wz : World) (M : Nat → Prop) (hm : MtAt wz m s M) (ho : Ded.OkL s.T) => mparts_any wz m s M hm (by have := HSO.out.lL; omega) (by have := HSO.out.lT; omega) (fun o ho => Nat.le_trans (HSO.out.str o ho) (by decide)) ho)
  have HSP := Lib.hid (fun (wz : World) (p : Nat) (F W : Nat → Prop) (hst : StAt wz p s F W) => parts_any wz p s F W hst (by have := HSO.out.lL; omega) (by have := HSO.out.lT; omega) (fun o ho => Nat.le_trans (HSO.out.str o ho) (by decide)) hst.okL)
  have HC := Lib.hid (HU.out wc (HTb.out.fresh HBc.out) p F W HMD.out.st)
  clear hs hso hsm
  go_wp2_with fail
  refine HC.out.mono ?_
  rintro e wd ⟨rfl, hBd⟩
  have HMD2 := Lib.hid (HMD.out.fresh hBd)
  have HBd := Lib.hid (HBc.out.trans (hBd.mono HBc.out.size))
  have HC2 := Lib.hid (snapTake_ok wd (HTb.out.fresh HBd.out) (ptOf s) HSM.out)
  obtain ⟨S1, hS1⟩ : ∃ S1, Bl (snpB (ptOf s)) = S1 := ⟨_, rfl⟩
  have HS1 := Lib.hid hS1
  have hsb := strEq_true (rfl : S1 = S1)
  rw [hS1] at HC2 ⊢
  clear hBd HC HMD hS1
  go_wp2_with fail
  refine HC2.out.mono ?_
  rintro e we ⟨q, F2, W2, rfl, hSt, hF2, hBe⟩
  have hm3 := HMD2.out.fresh hBe
  have HM3 := Lib.hid hm3
  have HST := Lib.hid (eqv_at hSt HSO.out.rch.eqv hm3.st.okL)
  have HBe := Lib.hid (HBd.out.trans (hBe.mono HBd.out.size))
  have HC := Lib.hid (HMP.out we M hm3.mt hm3.st.okL)
  clear hSt hF2 hBe hm3 HC2 HMD2
  go_wp2_with fail
  refine HC.out.mono ?_
  rintro e w1 ⟨sv1, rv1, rfl, hP1, hB1⟩
  have HM4 := Lib.hid (HM3.out.fresh hB1)
  have HST1 := Lib.hid (HST.out.fresh hB1)
  have HB1 := Lib.hid (HBe.out.trans (hB1.mono HBe.out.size))
  have HC3 := Lib.hid (r16put_any w1 _ (ptOf s) sv1 rv1 hP1 HSM.out)
  obtain ⟨A1, c1, rfl, _, _⟩ := hP1.ss.shape
  obtain ⟨B1, d1, rfl, _, _⟩ := hP1.rs.shape
  rw [HS1.out] at HC3
  clear hP1 hB1 HC HM3 HST
  go_wp2_with fail
  refine HC3.out.mono ?_
  rintro e w2 ⟨rfl, hB2⟩
  have HM5 := Lib.hid (HM4.out.fresh hB2)
  have HST2 := Lib.hid (HST1.out.fresh hB2)
  have HB2 := Lib.hid (HB1.out.trans (hB2.mono HB1.out.size))
  have HC := Lib.hid (HSP.out w2 q F2 W2 HST2.out)
  clear hB2 HC3 HM4 HST1
  go_wp2_with fail
  refine HC.out.mono ?_
  rintro e w3 ⟨sv2, rv2, rfl, hP2, hB3⟩
  obtain ⟨A2, c2, rfl, _, _⟩ := hP2.ss.shape
  obtain ⟨B2, d2, rfl, _, _⟩ := hP2.rs.shape
  have HM6 := Lib.hid (HM5.out.fresh hB3)
  have HST3 := Lib.hid (HST2.out.fresh hB3)
  have HB3 := Lib.hid (HB2.out.trans (hB3.mono HB2.out.size))
  have HP2 := Lib.hid hP2
  have HC4 := Lib.hid (HMP.out w3 M HM6.out.mt HM6.out.st.okL)
  clear hP2 hB3 HC HM5 HST2
  go_wp2_with fail
  refine HC4.out.mono ?_
  rintro e w4 ⟨sv3, rv3, rfl, hP3, hB4⟩
  have HC := Lib.hid (sameP_any w4 _ _ (ptOf s) (ptOf s) _ _ _ _ (HP2.out.fresh hB4) hP3)
  obtain ⟨A3, c3, rfl, _, _⟩ := hP3.ss.shape
  obtain ⟨B3, d3, rfl, _, _⟩ := hP3.rs.shape
  have HST4 := Lib.hid (HST3.out.fresh hB4)
  have HB4 := Lib.hid (HB3.out.trans (hB4.mono HB3.out.size))
  clear hP3 hB4 HC4 HM6 HST3 HP2
  go_wp2_with fail
  refine HC.out.mono ?_
  rintro e w5 ⟨BS, rfl, hBS, hB5⟩
  obtain rfl : BS = true := by simpa using hBS
  have HST5 := Lib.hid (HST4.out.fresh hB5)
  have HB5 := Lib.hid (HB4.out.trans (hB5.mono HB4.out.size))
  have HC5 := HU.out w5 (HTb.out.fresh HB5.out) q F2 W2 HST5.out
  rw [HS1.out] at HC5
  have HC5 := Lib.hid HC5
  clear hBS hB5 HC
  go_wp2_with fail
  refine HC5.out.mono ?_
  rintro e w6 ⟨rfl, hB6⟩
  have HB6 := Lib.hid (HB5.out.trans (hB6.mono HB5.out.size))
  clear hB6
  go_wp2_with fail
  go_ret
  exact ⟨rfl, HB6.out⟩
end Go.Proofs.YthebmbhdlkldiaaGreatDoor
