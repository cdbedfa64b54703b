/- The document's answer to events, batches and entries: are they right? (bucketlineref5, bucketlineref6) Under the stated premises on sizes. -/
import Derived.Test.YthdcnknjjbdefaaGreatDoorTxtR
import Derived.Test.YthdcnknjjbdefaaGreatDoorRecA
namespace Go.Proofs.YthdcnknjjbdefaaGreatDoor
open Go.RowKit Go.Bl
attribute [local go_sem ↓] Go.wp_at_zero Go.wp_at_succ

/-- What is asked of sizes here. -/
def EvSm (e : Ev) : Prop := e.kind.size ≤ 1000000000 ∧ e.data.size ≤ 1000000000
def BatchSm (w : World) (G : Nat → Prop) (a : Ent) : Prop := Sl w G 2 evc a.evv a.evs ∧ (∀ e ∈ a.evs, EvSm e) ∧ a.stream.size ≤ 1000000000 ∧ a.evs.length ≤ 1000000
theorem BatchSm.fresh {w w' : World} {G : Nat → Prop} {a : Ent} (h : BatchSm w G a) (hB : Below w.heap.size w w') : BatchSm w' G a := ⟨h.1.fresh hB, h.2⟩

set_option maxHeartbeats 1000000 in
theorem reright_any (w : World) (e : Ev) (he : EvSm e) : Calls Tryz.prog 57 #[.agg #[.string e.kind, .string e.data]] w fun x w' => x = .returned (.bool (rightE e)) ∧ Below w.heap.size w w' := by
  have hB0 : Below w.heap.size w (w.alloc (.cells #[.string e.kind, .string e.data] 68)) := (Below.refl _ w).alloc (Nat.le_refl _) _
  have hblk := heap_alloc_new w (.cells #[.string e.kind, .string e.data] 68)
  have HE := Lib.hid he
  clear he
  obtain ⟨r, hr⟩ : ∃ r, rightE e = r := ⟨_, rfl⟩
  rw [hr]
  unfold rightE at hr
  have HR := Lib.hid hr
  clear hr
  go_enter Tryz.func57, Tryz.ntmps57
  go_upto_region 1 with (fail)
  generalize w.alloc (.cells #[.string e.kind, .string e.data] 68) = w1 at hB0 hblk ⊢
  have x0 : w1.cell? ⟨w.heap.size, 0, none⟩ = some (.string e.kind) := cell_of_row w1 _ 0 _ _ _ hblk
  have x1 : w1.cell? ⟨w.heap.size, 1, none⟩ = some (.string e.data) := cell_of_row w1 _ 1 _ _ _ hblk
  have hlt := (Array.getElem?_eq_some_iff.1 hblk).1
  have HB0 := Lib.hid hB0
  clear hB0 hblk
  go_wp2_with fail
  refine (rname_any w1 e.kind HE.out.1).mono ?_
  rintro x w2 ⟨rfl, hB1⟩
  have x1 := (hB1.cell (p := ⟨w.heap.size, 1, none⟩) hlt).trans x1
  have HB1 := Lib.hid (HB0.out.trans (hB1.mono HB0.out.size))
  clear hB1 x0
  cases hn : nameB e.kind
  · go_wp2_with fail
    go_ret
    exact ⟨by rw [← HR.out, hn, Bool.and_false]; rfl, HB1.out⟩
  · by_cases h : e.data.size ≤ 200
    · have d1 : decide ((e.data.size : Int) ≤ 200) = true := decide_eq_true (by omega)
      go_wp2_with fail
      go_ret
      exact ⟨by rw [← HR.out, hn, decide_eq_true h]; rfl, HB1.out⟩
    · have d1 : decide ((e.data.size : Int) ≤ 200) = false := decide_eq_false (by omega)
      go_wp2_with fail
      go_ret
      exact ⟨by rw [← HR.out, decide_eq_false h]; rfl, HB1.out⟩

theorem numB_iff (n : Int) : numB n = true ↔ 1 ≤ n ∧ n ≤ 274877906944 := by simp [numB]
theorem numB_not {n : Int} (h : n < 1 ∨ 274877906944 < n) : numB n = false := by
  cases hb : numB n
  · rfl
  · rw [numB_iff] at hb; omega
theorem fitsI_one {a : Ent} (h : nameB a.stream = false ∨ (a.expect < -1 ∨ 274877906944 < a.expect) ∨ numB a.session = false ∨ numB a.seq = false ∨ a.evs.length = 0) : fitsI a = 1 := by
  unfold fitsI
  by_cases h1 : nameB a.stream = false
  · rw [if_pos h1]
  rw [if_neg h1]
  by_cases h2 : a.expect < -1 ∨ 274877906944 < a.expect
  · rw [if_pos h2]
  rw [if_neg h2]
  by_cases h3 : numB a.session = false
  · rw [if_pos h3]
  rw [if_neg h3]
  by_cases h4 : numB a.seq = false
  · rw [if_pos h4]
  rw [if_neg h4]
  rw [if_pos ((((h.resolve_left h1).resolve_left h2).resolve_left h3).resolve_left h4)]
theorem fitsI_more {a : Ent} (h1 : nameB a.stream = true) (h2 : -1 ≤ a.expect ∧ a.expect ≤ 274877906944) (h3 : numB a.session = true) (h4 : numB a.seq = true) (h5 : a.evs.length ≠ 0) :
    fitsI a = if 8 < a.evs.length then 4 else if (a.evs.any fun e => !rightE e) = true then 1 else 0 := by
  unfold fitsI
  rw [if_neg (by rw [h1]; decide), if_neg (by omega), if_neg (by rw [h3]; decide), if_neg (by rw [h4]; decide), if_neg h5]

set_option maxRecDepth 8000 in
set_option maxHeartbeats 2000000 in
theorem rfits_any (w : World) (G : Nat → Prop) (a : Ent) (h : BatchSm w G a) :
    Calls Tryz.prog 45 #[.agg #[.string a.stream, .int .i64 a.expect, .int .i64 a.session, .int .i64 a.seq, a.evv]] w fun x w' => x = .returned (.int .i64 (fitsI a)) ∧ Below w.heap.size w w' := by
  obtain ⟨hs, hok, hst, hn⟩ := h
  obtain ⟨A, c, hv, hA1, hA2⟩ := hs.shape
  rw [hv] at hs ⊢
  unfold maxLen at hA2
  have hB0 : Below w.heap.size w (w.alloc (.cells #[.string a.stream, .int .i64 a.expect, .int .i64 a.session, .int .i64 a.seq, .slice A a.evs.length c] 32)) := (Below.refl _ w).alloc (Nat.le_refl _) _
  have hblk := heap_alloc_new w (.cells #[.string a.stream, .int .i64 a.expect, .int .i64 a.session, .int .i64 a.seq, .slice A a.evs.length c] 32)
  have HB0 := Lib.hid hB0
  have HBL := Lib.hid hblk
  have HS := Lib.hid hs
  have HO := Lib.hid hok
  obtain ⟨r, hr⟩ : ∃ r, fitsI a = r := ⟨_, rfl⟩
  rw [hr]
  have HR := Lib.hid hr
  clear hB0 hblk hs hok hv hr
  go_enter Tryz.func45, Tryz.ntmps45
  go_upto_region 1 with (fail)
  generalize w.alloc (.cells #[.string a.stream, .int .i64 a.expect, .int .i64 a.session, .int .i64 a.seq, .slice A a.evs.length c] 32) = w1 at HB0 HBL ⊢
  have x0 : w1.cell? ⟨w.heap.size, 0, none⟩ = some (.string a.stream) := cell_of_row w1 _ 0 _ _ _ HBL.out
  have hlt := (Array.getElem?_eq_some_iff.1 HBL.out).1
  go_wp2_with fail
  refine (rname_any w1 a.stream hst).mono ?_
  rintro x w2 ⟨rfl, hB2⟩
  have HB2 := Lib.hid (HB0.out.trans (hB2.mono HB0.out.size))
  have HBL2 := Lib.hid ((Keeps.of_fresh hB2 (fun _ => False)).grownTo HBL.out id)
  have x1 : w2.cell? ⟨w.heap.size, 1, none⟩ = some (.int .i64 a.expect) := cell_of_row w2 _ 1 _ _ _ HBL2.out
  have x2 : w2.cell? ⟨w.heap.size, 2, none⟩ = some (.int .i64 a.session) := cell_of_row w2 _ 2 _ _ _ HBL2.out
  have x3 : w2.cell? ⟨w.heap.size, 3, none⟩ = some (.int .i64 a.seq) := cell_of_row w2 _ 3 _ _ _ HBL2.out
  have x4 : w2.cell? ⟨w.heap.size, 4, none⟩ = some (.slice A a.evs.length c) := cell_of_row w2 _ 4 _ _ _ HBL2.out
  clear hB2 HBL hlt x0
  cases hnm : nameB a.stream
  · have HN := Lib.hid hnm
    clear hnm
    go_wp2_with fail
    go_ret
    exact ⟨by rw [← HR.out, fitsI_one (.inl HN.out)]; rfl, HB2.out⟩
  have HN := Lib.hid hnm
  clear hnm
  by_cases he1 : a.expect < -1
  · have d1 : decide (a.expect < -1) = true := decide_eq_true he1
    go_wp2_with fail
    go_ret
    exact ⟨by rw [← HR.out, fitsI_one (.inr (.inl (.inl he1)))]; rfl, HB2.out⟩
  have d1 : decide (a.expect < -1) = false := decide_eq_false he1
  by_cases he2 : 274877906944 < a.expect
  · have d2 : decide (274877906944 < a.expect) = true := decide_eq_true he2
    go_wp2_with fail
    go_ret
    exact ⟨by rw [← HR.out, fitsI_one (.inr (.inl (.inr he2)))]; rfl, HB2.out⟩
  have d2 : decide (274877906944 < a.expect) = false := decide_eq_false he2
  by_cases hs1 : a.session < 1
  · have d3 : decide (a.session < 1) = true := decide_eq_true hs1
    go_wp2_with fail
    go_ret
    exact ⟨by rw [← HR.out, fitsI_one (.inr (.inr (.inl (numB_not (.inl hs1)))))]; rfl, HB2.out⟩
  have d3 : decide (a.session < 1) = false := decide_eq_false hs1
  by_cases hs2 : 274877906944 < a.session
  · have d4 : decide (274877906944 < a.session) = true := decide_eq_true hs2
    go_wp2_with fail
    go_ret
    exact ⟨by rw [← HR.out, fitsI_one (.inr (.inr (.inl (numB_not (.inr hs2)))))]; rfl, HB2.out⟩
  have d4 : decide (274877906944 < a.session) = false := decide_eq_false hs2
  by_cases hq1 : a.seq < 1
  · have d5 : decide (a.seq < 1) = true := decide_eq_true hq1
    go_wp2_with fail
    go_ret
    exact ⟨by rw [← HR.out, fitsI_one (.inr (.inr (.inr (.inl (numB_not (.inl hq1))))))]; rfl, HB2.out⟩
  have d5 : decide (a.seq < 1) = false := decide_eq_false hq1
  by_cases hq2 : 274877906944 < a.seq
  · have d6 : decide (274877906944 < a.seq) = true := decide_eq_true hq2
    go_wp2_with fail
    go_ret
    exact ⟨by rw [← HR.out, fitsI_one (.inr (.inr (.inr (.inl (numB_not (.inr hq2))))))]; rfl, HB2.out⟩
  have d6 : decide (274877906944 < a.seq) = false := decide_eq_false hq2
  by_cases h0 : a.evs.length = 0
  · have d7 : ((a.evs.length : Int) == 0) = true := by simp; exact List.eq_nil_of_length_eq_zero h0
    have H0 := Lib.hid h0
    clear h0
    go_wp2_with fail
    go_ret
    exact ⟨by rw [← HR.out, fitsI_one (.inr (.inr (.inr (.inr H0.out))))]; rfl, HB2.out⟩
  have d7 : ((a.evs.length : Int) == 0) = false := by rw [beq_eq_false_iff_ne]; omega
  have hm := fitsI_more HN.out ⟨by omega, by omega⟩ ((numB_iff _).2 ⟨by omega, by omega⟩) ((numB_iff _).2 ⟨by omega, by omega⟩) h0
  rw [HR.out] at hm
  have HM := Lib.hid hm
  clear hm
  by_cases h8 : 8 < a.evs.length
  · have d8 : decide ((8 : Int) < (a.evs.length : Int)) = true := by simp; omega
    go_wp2_with fail
    go_ret
    exact ⟨by rw [HM.out, if_pos h8]; rfl, HB2.out⟩
  have d8 : decide ((8 : Int) < (a.evs.length : Int)) = false := by simp; omega
  have hm := HM.out
  rw [if_neg h8] at hm
  have HM := Lib.hid hm
  clear hm
  obtain ⟨w2', rfl⟩ : ∃ x, x = w2 := ⟨_, rfl⟩
  go_wp2_with fail
  go_loopw [4] (fun i wr => ∃ k : Nat, k ≤ a.evs.length ∧ i = .int .i64 k ∧ ((a.evs.take k).any fun e => !rightE e) = false ∧ Below w2'.heap.size w2' wr) (fun i _ => a.evs.length - (RowKit.intOf i).toNat)
  case atStart => exact ⟨0, Nat.zero_le _, rfl, rfl, Below.refl _ _⟩
  case round =>
    obtain ⟨k, hk, rfl, hnk, hB⟩ := hrel
    have HB := Lib.hid (HB2.out.trans (hB.mono HB2.out.size))
    have HNK := Lib.hid hnk
    have x4 : wr.cell? ⟨w.heap.size, 4, none⟩ = some (.slice A a.evs.length c) := (hB.cell (p := ⟨w.heap.size, 4, none⟩) (World.block_lt_of_cell? _ _ x4)).trans x4
    have HBr := Lib.hid hB
    clear hnk
    by_cases hlt : k < a.evs.length
    · obtain ⟨b, o, rfl, _, _, hxx⟩ := (HS.out.fresh HB.out).cell_ hlt
      have z0 := hxx 0 _ rfl
      have z1 := hxx 1 _ rfl
      simp only [Nat.add_zero] at z0
      have HEL := Lib.hid (HO.out a.evs[k] (List.getElem_mem hlt))
      obtain ⟨e, he⟩ : ∃ e, a.evs[k] = e := ⟨_, rfl⟩
      rw [he] at z0 z1 HEL
      have HE := Lib.hid he
      clear hxx he hB
      go_wp2_with fail
      refine (reright_any wr e HEL.out).mono ?_
      rintro x w3 ⟨rfl, hB3⟩
      have HB3 := Lib.hid (HBr.out.trans (hB3.mono HBr.out.size))
      clear hB3
      cases hr : rightE e
      · have HRE := Lib.hid hr
        clear hr
        go_wp2_with fail
        go_ret
        exact ⟨by rw [HM.out, if_pos (List.any_eq_true.2 ⟨e, HE.out ▸ List.getElem_mem hlt, by rw [HRE.out]; rfl⟩)]; rfl, HB2.out.trans (HB3.out.mono HB2.out.size)⟩
      · have HRE := Lib.hid hr
        clear hr
        go_wp2_with fail
        go_roundw
        case rel => exact ⟨k + 1, hlt, by go_num, by rw [List.take_succ_eq_append_getElem hlt, List.any_append, HNK.out, HE.out]; simp [HRE.out], HB3.out⟩
        case measure => simp [RowKit.intOf]; omega
    · have hkd : k = a.evs.length := by omega
      subst hkd
      clear hB
      go_wp2_with fail
      go_ret
      have := HNK.out
      rw [List.take_length] at this
      exact ⟨by rw [HM.out, if_neg (by rw [this]; decide)]; rfl, HB.out⟩

set_option maxRecDepth 8000 in
set_option maxHeartbeats 2000000 in
theorem rright_any (w : World) (G : Nat → Prop) (a : Ent) (h : BatchSm w G a) :
    Calls Tryz.prog 30 #[.agg #[.int .i64 a.pos, .int .i64 a.epoch, .string a.stream, .int .i64 a.expect, .int .i64 a.session, .int .i64 a.seq, a.evv]] w fun x w' => x = .returned (.bool (rightB a)) ∧ Below w.heap.size w w' := by
  obtain ⟨A, c, hv, hA1, hA2⟩ := h.1.shape
  have hB0 : Below w.heap.size w (w.alloc (.cells #[.int .i64 a.pos, .int .i64 a.epoch, .string a.stream, .int .i64 a.expect, .int .i64 a.session, .int .i64 a.seq, .slice A a.evs.length c] 55)) := (Below.refl _ w).alloc (Nat.le_refl _) _
  have hblk := heap_alloc_new w (.cells #[.int .i64 a.pos, .int .i64 a.epoch, .string a.stream, .int .i64 a.expect, .int .i64 a.session, .int .i64 a.seq, .slice A a.evs.length c] 55)
  have hf := rfits_any (w.alloc (.cells #[.int .i64 a.pos, .int .i64 a.epoch, .string a.stream, .int .i64 a.expect, .int .i64 a.session, .int .i64 a.seq, .slice A a.evs.length c] 55)) G a (h.fresh hB0)
  rw [hv] at hf ⊢
  unfold maxLen at hA2
  have HB0 := Lib.hid hB0
  have HBL := Lib.hid hblk
  have HF := Lib.hid hf
  obtain ⟨r, hr⟩ : ∃ r, rightB a = r := ⟨_, rfl⟩
  rw [hr]
  unfold rightB numB at hr
  have HR := Lib.hid hr
  clear hB0 hblk h hv hf hr
  go_enter Tryz.func30, Tryz.ntmps30
  go_upto_region 1 with (fail)
  generalize w.alloc (.cells #[.int .i64 a.pos, .int .i64 a.epoch, .string a.stream, .int .i64 a.expect, .int .i64 a.session, .int .i64 a.seq, .slice A a.evs.length c] 55) = w1 at HB0 HBL HF ⊢
  have x0 : w1.cell? ⟨w.heap.size, 0, none⟩ = some (.int .i64 a.pos) := cell_of_row w1 _ 0 _ _ _ HBL.out
  have x1 : w1.cell? ⟨w.heap.size, 1, none⟩ = some (.int .i64 a.epoch) := cell_of_row w1 _ 1 _ _ _ HBL.out
  have x2 : w1.cell? ⟨w.heap.size, 2, none⟩ = some (.string a.stream) := cell_of_row w1 _ 2 _ _ _ HBL.out
  have x3 : w1.cell? ⟨w.heap.size, 3, none⟩ = some (.int .i64 a.expect) := cell_of_row w1 _ 3 _ _ _ HBL.out
  have x4 : w1.cell? ⟨w.heap.size, 4, none⟩ = some (.int .i64 a.session) := cell_of_row w1 _ 4 _ _ _ HBL.out
  have x5 : w1.cell? ⟨w.heap.size, 5, none⟩ = some (.int .i64 a.seq) := cell_of_row w1 _ 5 _ _ _ HBL.out
  have x6 : w1.cell? ⟨w.heap.size, 6, none⟩ = some (.slice A a.evs.length c) := cell_of_row w1 _ 6 _ _ _ HBL.out
  clear HBL
  by_cases p1 : 1 ≤ a.pos
  · have d1 : decide (1 ≤ a.pos) = true := decide_eq_true p1
    by_cases p2 : a.pos ≤ 274877906944
    · have d2 : decide (a.pos ≤ 274877906944) = true := decide_eq_true p2
      by_cases p3 : 1 ≤ a.epoch
      · have d3 : decide (1 ≤ a.epoch) = true := decide_eq_true p3
        by_cases p4 : a.epoch ≤ 274877906944
        · have d4 : decide (a.epoch ≤ 274877906944) = true := decide_eq_true p4
          go_wp2_with fail
          refine HF.out.mono ?_
          rintro x w2 ⟨rfl, hB2⟩
          have HB2 := Lib.hid (HB0.out.trans (hB2.mono HB0.out.size))
          clear hB2
          by_cases hz : fitsI a = 0
          · have dz : (fitsI a == 0) = true := by simp [hz]
            have HZ := Lib.hid hz
            clear hz
            go_wp2_with fail
            go_ret
            exact ⟨by rw [show r = true by rw [← HR.out]; simp [p1, p2, p3, p4, HZ.out]]; rfl, HB2.out⟩
          · have dz : (fitsI a == 0) = false := by simp [hz]
            have HZ := Lib.hid hz
            clear hz
            go_wp2_with fail
            go_ret
            exact ⟨by rw [show r = false by rw [← HR.out]; simp [HZ.out]]; rfl, HB2.out⟩
        · have d4 : decide (a.epoch ≤ 274877906944) = false := decide_eq_false p4
          go_wp2_with fail
          go_ret
          exact ⟨by rw [show r = false by rw [← HR.out]; simp only [Bool.and_eq_false_iff, decide_eq_false_iff_not]; omega]; rfl, HB0.out⟩
      · have d3 : decide (1 ≤ a.epoch) = false := decide_eq_false p3
        go_wp2_with fail
        go_ret
        exact ⟨by rw [show r = false by rw [← HR.out]; simp only [Bool.and_eq_false_iff, decide_eq_false_iff_not]; omega]; rfl, HB0.out⟩
    · have d2 : decide (a.pos ≤ 274877906944) = false := decide_eq_false p2
      go_wp2_with fail
      go_ret
      exact ⟨by rw [show r = false by rw [← HR.out]; simp only [Bool.and_eq_false_iff, decide_eq_false_iff_not]; omega]; rfl, HB0.out⟩
  · have d1 : decide (1 ≤ a.pos) = false := decide_eq_false p1
    go_wp2_with fail
    go_ret
    exact ⟨by rw [show r = false by rw [← HR.out]; simp only [Bool.and_eq_false_iff, decide_eq_false_iff_not]; omega]; rfl, HB0.out⟩
end Go.Proofs.YthdcnknjjbdefaaGreatDoor
