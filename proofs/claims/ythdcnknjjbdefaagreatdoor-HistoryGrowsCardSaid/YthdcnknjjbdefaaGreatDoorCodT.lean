/- The document's word whether two entries, two rows are the same (bucketlineref6). No condition. -/
import Derived.Test.YthdcnknjjbdefaaGreatDoorCodS
import Derived.Test.YthdcnknjjbdefaaGreatDoorBlR
import Derived.Test.YthdcnknjjbdefaaGreatDoorBlQ
namespace Go.Proofs.YthdcnknjjbdefaaGreatDoor
open Go.RowKit Go.Bl
attribute [local go_sem ↓] Go.wp_at_zero Go.wp_at_succ

theorem sameEnt_no {a z : Ent} (h : ¬ (a.pos = z.pos ∧ a.epoch = z.epoch ∧ a.stream = z.stream ∧ a.expect = z.expect ∧ a.session = z.session ∧ a.seq = z.seq ∧ a.evs = z.evs)) : sameEnt a z = false := by
  cases hs : sameEnt a z
  · rfl
  · simp only [sameEnt, sameBat, Bool.and_eq_true, decide_eq_true_eq] at hs
    exact absurd hs h
theorem sameEnt_yes {a z : Ent} (h : a.pos = z.pos ∧ a.epoch = z.epoch ∧ a.stream = z.stream ∧ a.expect = z.expect ∧ a.session = z.session ∧ a.seq = z.seq ∧ a.evs = z.evs) : sameEnt a z = true := by
  simp only [sameEnt, sameBat, Bool.and_eq_true, decide_eq_true_eq]
  exact h
theorem bne_of {a b : Int} (h : a = b) : (a != b) = false := by simp [h]
theorem bne_ne {a b : Int} (h : ¬ a = b) : (a != b) = true := by simp [h]
theorem sbne_of {a b : ByteArray} (h : a = b) : (a.toList != b.toList) = false := by simp [h]
theorem sbne_ne {a b : ByteArray} (h : ¬ a = b) : (a.toList != b.toList) = true := by simp [toList_iff, h]
set_option maxRecDepth 10000 in
set_option maxHeartbeats 4000000 in
theorem dsame_any (w : World) (G H : Nat → Prop) (a z : Ent) (ha : EvsAt w G a) (hz : EvsAt w H z) :
    Calls Tryz.prog 36 #[.agg #[.int .i64 a.pos, .int .i64 a.epoch, .string a.stream, .int .i64 a.expect, .int .i64 a.session, .int .i64 a.seq, a.evv], .agg #[.int .i64 z.pos, .int .i64 z.epoch, .string z.stream, .int .i64 z.expect, .int .i64 z.session, .int .i64 z.seq, z.evv]] w fun x w' => x = .returned (.bool (sameEnt a z)) ∧ Below w.heap.size w w' := by
  have hne := unEv
  obtain ⟨A, c, hv, hA1, hA2⟩ := Sl.shape ha
  obtain ⟨A', c', hv', hA1', hA2'⟩ := Sl.shape hz
  unfold maxLen at hA2 hA2'
  unfold EvsAt at ha hz
  rw [hv] at ha
  rw [hv'] at hz
  rw [hv, hv']
  have HA := Lib.hid ha
  have HZ := Lib.hid hz
  clear hv hv' ha hz
  have hB0 : Below w.heap.size w ((w.alloc (.cells #[.int .i64 a.pos, .int .i64 a.epoch, .string a.stream, .int .i64 a.expect, .int .i64 a.session, .int .i64 a.seq, .slice A a.evs.length c] 55)).alloc (.cells #[.int .i64 z.pos, .int .i64 z.epoch, .string z.stream, .int .i64 z.expect, .int .i64 z.session, .int .i64 z.seq, .slice A' z.evs.length c'] 55)) := ((Below.refl _ w).alloc (Nat.le_refl _) _).alloc (by simp) _
  have hb1 : ((w.alloc (.cells #[.int .i64 a.pos, .int .i64 a.epoch, .string a.stream, .int .i64 a.expect, .int .i64 a.session, .int .i64 a.seq, .slice A a.evs.length c] 55)).alloc (.cells #[.int .i64 z.pos, .int .i64 z.epoch, .string z.stream, .int .i64 z.expect, .int .i64 z.session, .int .i64 z.seq, .slice A' z.evs.length c'] 55)).heap[w.heap.size]? = some (.cells #[.int .i64 a.pos, .int .i64 a.epoch, .string a.stream, .int .i64 a.expect, .int .i64 a.session, .int .i64 a.seq, .slice A a.evs.length c] 55 (0, 0)) := (Below.heap_alloc _ _ _ (by simp)).trans (heap_alloc_new w _)
  have hb2 := heap_alloc_new (w.alloc (.cells #[.int .i64 a.pos, .int .i64 a.epoch, .string a.stream, .int .i64 a.expect, .int .i64 a.session, .int .i64 a.seq, .slice A a.evs.length c] 55)) (.cells #[.int .i64 z.pos, .int .i64 z.epoch, .string z.stream, .int .i64 z.expect, .int .i64 z.session, .int .i64 z.seq, .slice A' z.evs.length c'] 55)
  rw [World.size_alloc] at hb2
  go_enter Tryz.func36, Tryz.ntmps36
  go_upto_region 1 with (fail)
  generalize (w.alloc (.cells #[.int .i64 a.pos, .int .i64 a.epoch, .string a.stream, .int .i64 a.expect, .int .i64 a.session, .int .i64 a.seq, .slice A a.evs.length c] 55)).alloc (.cells #[.int .i64 z.pos, .int .i64 z.epoch, .string z.stream, .int .i64 z.expect, .int .i64 z.session, .int .i64 z.seq, .slice A' z.evs.length c'] 55) = w1 at hB0 hb1 hb2 ⊢
  obtain ⟨b, hb⟩ : ∃ b, w.heap.size = b := ⟨_, rfl⟩
  have HB0 := Lib.hid hB0
  rw [hb] at hb1 hb2 ⊢
  have x0 : w1.cell? ⟨b, 0, none⟩ = some (.int .i64 a.pos) := cell_of_row w1 b 0 _ _ _ hb1
  have x1 : w1.cell? ⟨b, 1, none⟩ = some (.int .i64 a.epoch) := cell_of_row w1 b 1 _ _ _ hb1
  have x2 : w1.cell? ⟨b, 2, none⟩ = some (.string a.stream) := cell_of_row w1 b 2 _ _ _ hb1
  have x3 : w1.cell? ⟨b, 3, none⟩ = some (.int .i64 a.expect) := cell_of_row w1 b 3 _ _ _ hb1
  have x4 : w1.cell? ⟨b, 4, none⟩ = some (.int .i64 a.session) := cell_of_row w1 b 4 _ _ _ hb1
  have x5 : w1.cell? ⟨b, 5, none⟩ = some (.int .i64 a.seq) := cell_of_row w1 b 5 _ _ _ hb1
  have x6 : w1.cell? ⟨b, 6, none⟩ = some (.slice A a.evs.length c) := cell_of_row w1 b 6 _ _ _ hb1
  have y0 : w1.cell? ⟨b + 1, 0, none⟩ = some (.int .i64 z.pos) := cell_of_row w1 _ 0 _ _ _ hb2
  have y1 : w1.cell? ⟨b + 1, 1, none⟩ = some (.int .i64 z.epoch) := cell_of_row w1 _ 1 _ _ _ hb2
  have y2 : w1.cell? ⟨b + 1, 2, none⟩ = some (.string z.stream) := cell_of_row w1 _ 2 _ _ _ hb2
  have y3 : w1.cell? ⟨b + 1, 3, none⟩ = some (.int .i64 z.expect) := cell_of_row w1 _ 3 _ _ _ hb2
  have y4 : w1.cell? ⟨b + 1, 4, none⟩ = some (.int .i64 z.session) := cell_of_row w1 _ 4 _ _ _ hb2
  have y5 : w1.cell? ⟨b + 1, 5, none⟩ = some (.int .i64 z.seq) := cell_of_row w1 _ 5 _ _ _ hb2
  have y6 : w1.cell? ⟨b + 1, 6, none⟩ = some (.slice A' z.evs.length c') := cell_of_row w1 _ 6 _ _ _ hb2
  clear hb hb1 hb2 hB0
  go_upto_region 2 with (fail)
  have hB1 : Below w1.heap.size w1 (w1.alloc (.cells #[.string a.stream, .int .i64 a.expect, .int .i64 a.session, .int .i64 a.seq, .slice A a.evs.length c] 32)) := (Below.refl _ w1).alloc (Nat.le_refl _) _
  have hd1 := heap_alloc_new w1 (.cells #[.string a.stream, .int .i64 a.expect, .int .i64 a.session, .int .i64 a.seq, .slice A a.evs.length c] 32)
  generalize w1.alloc (.cells #[.string a.stream, .int .i64 a.expect, .int .i64 a.session, .int .i64 a.seq, .slice A a.evs.length c] 32) = w3 at hB1 hd1 ⊢
  have x0 := (hB1.cell (p := ⟨b, 0, none⟩) (World.block_lt_of_cell? _ _ x0)).trans x0
  have x1 := (hB1.cell (p := ⟨b, 1, none⟩) (World.block_lt_of_cell? _ _ x1)).trans x1
  have y0 := (hB1.cell (p := ⟨b + 1, 0, none⟩) (World.block_lt_of_cell? _ _ y0)).trans y0
  have y1 := (hB1.cell (p := ⟨b + 1, 1, none⟩) (World.block_lt_of_cell? _ _ y1)).trans y1
  have y2 := (hB1.cell (p := ⟨b + 1, 2, none⟩) (World.block_lt_of_cell? _ _ y2)).trans y2
  have y3 := (hB1.cell (p := ⟨b + 1, 3, none⟩) (World.block_lt_of_cell? _ _ y3)).trans y3
  have y4 := (hB1.cell (p := ⟨b + 1, 4, none⟩) (World.block_lt_of_cell? _ _ y4)).trans y4
  have y5 := (hB1.cell (p := ⟨b + 1, 5, none⟩) (World.block_lt_of_cell? _ _ y5)).trans y5
  have y6 := (hB1.cell (p := ⟨b + 1, 6, none⟩) (World.block_lt_of_cell? _ _ y6)).trans y6
  obtain ⟨d, hd⟩ : ∃ d, w1.heap.size = d := ⟨_, rfl⟩
  have HB0 := Lib.hid (HB0.out.trans (hB1.mono HB0.out.size))
  rw [hd] at hd1 ⊢
  have hdl := (Array.getElem?_eq_some_iff.1 hd1).1
  clear x2 x3 x4 x5 x6 hd hB1
  go_upto_region 3 with (fail)
  have hB1 : Below w3.heap.size w3 (w3.alloc (.cells #[.string z.stream, .int .i64 z.expect, .int .i64 z.session, .int .i64 z.seq, .slice A' z.evs.length c'] 32)) := (Below.refl _ w3).alloc (Nat.le_refl _) _
  have hd2 := heap_alloc_new w3 (.cells #[.string z.stream, .int .i64 z.expect, .int .i64 z.session, .int .i64 z.seq, .slice A' z.evs.length c'] 32)
  generalize w3.alloc (.cells #[.string z.stream, .int .i64 z.expect, .int .i64 z.session, .int .i64 z.seq, .slice A' z.evs.length c'] 32) = w2 at hB1 hd2 ⊢
  have x0 := (hB1.cell (p := ⟨b, 0, none⟩) (World.block_lt_of_cell? _ _ x0)).trans x0
  have x1 := (hB1.cell (p := ⟨b, 1, none⟩) (World.block_lt_of_cell? _ _ x1)).trans x1
  have y0 := (hB1.cell (p := ⟨b + 1, 0, none⟩) (World.block_lt_of_cell? _ _ y0)).trans y0
  have y1 := (hB1.cell (p := ⟨b + 1, 1, none⟩) (World.block_lt_of_cell? _ _ y1)).trans y1
  have hd1 := (hB1.block d hdl).trans hd1
  obtain ⟨e, hd⟩ : ∃ e, w3.heap.size = e := ⟨_, rfl⟩
  have HB0 := Lib.hid (HB0.out.trans (hB1.mono HB0.out.size))
  rw [hd] at hd2 ⊢
  clear y2 y3 y4 y5 y6 hdl
  have u0 : w2.cell? ⟨d, 0, none⟩ = some (.string a.stream) := cell_of_row w2 d 0 _ _ _ hd1
  have u1 : w2.cell? ⟨d, 1, none⟩ = some (.int .i64 a.expect) := cell_of_row w2 d 1 _ _ _ hd1
  have u2 : w2.cell? ⟨d, 2, none⟩ = some (.int .i64 a.session) := cell_of_row w2 d 2 _ _ _ hd1
  have u3 : w2.cell? ⟨d, 3, none⟩ = some (.int .i64 a.seq) := cell_of_row w2 d 3 _ _ _ hd1
  have u4 : w2.cell? ⟨d, 4, none⟩ = some (.slice A a.evs.length c) := cell_of_row w2 d 4 _ _ _ hd1
  have v0 : w2.cell? ⟨e, 0, none⟩ = some (.string z.stream) := cell_of_row w2 _ 0 _ _ _ hd2
  have v1 : w2.cell? ⟨e, 1, none⟩ = some (.int .i64 z.expect) := cell_of_row w2 _ 1 _ _ _ hd2
  have v2 : w2.cell? ⟨e, 2, none⟩ = some (.int .i64 z.session) := cell_of_row w2 _ 2 _ _ _ hd2
  have v3 : w2.cell? ⟨e, 3, none⟩ = some (.int .i64 z.seq) := cell_of_row w2 _ 3 _ _ _ hd2
  have v4 : w2.cell? ⟨e, 4, none⟩ = some (.slice A' z.evs.length c') := cell_of_row w2 _ 4 _ _ _ hd2
  clear hd hd1 hd2 hB1
  by_cases e0 : ¬ a.pos = z.pos
  · have f0 := bne_ne e0
    have hR : Hid (sameEnt a z = false) := Lib.hid (sameEnt_no (fun h => e0 h.1))
    clear e0
    go_wp2_with fail
    go_ret
    rw [hR.out]
    exact ⟨rfl, HB0.out⟩
  have e0 := Decidable.not_not.1 e0
  have f0 := bne_of e0
  by_cases e1 : ¬ a.epoch = z.epoch
  · have f1 := bne_ne e1
    have hR : Hid (sameEnt a z = false) := Lib.hid (sameEnt_no (fun h => e1 h.2.1))
    clear e0 e1
    go_wp2_with fail
    go_ret
    rw [hR.out]
    exact ⟨rfl, HB0.out⟩
  have e1 := Decidable.not_not.1 e1
  have f1 := bne_of e1
  by_cases e2 : ¬ a.stream = z.stream
  · have f2 := strEq_false e2
    have f2' : ¬ a.stream.toList = z.stream.toList := fun h => e2 (bytes_extB h)
    have hR : Hid (sameEnt a z = false) := Lib.hid (sameEnt_no (fun h => e2 h.2.2.1))
    clear e0 e1 e2
    go_wp2_with fail
    go_ret
    rw [hR.out]
    exact ⟨rfl, HB0.out⟩
  have e2 := Decidable.not_not.1 e2
  have f2 := strEq_true e2
  have f2' : a.stream.toList = z.stream.toList := by rw [e2]
  by_cases e3 : ¬ a.expect = z.expect
  · have f3 := bne_ne e3
    have hR : Hid (sameEnt a z = false) := Lib.hid (sameEnt_no (fun h => e3 h.2.2.2.1))
    clear e0 e1 e2 e3
    go_wp2_with fail
    go_ret
    rw [hR.out]
    exact ⟨rfl, HB0.out⟩
  have e3 := Decidable.not_not.1 e3
  have f3 := bne_of e3
  by_cases e4 : ¬ a.session = z.session
  · have f4 := bne_ne e4
    have hR : Hid (sameEnt a z = false) := Lib.hid (sameEnt_no (fun h => e4 h.2.2.2.2.1))
    clear e0 e1 e2 e3 e4
    go_wp2_with fail
    go_ret
    rw [hR.out]
    exact ⟨rfl, HB0.out⟩
  have e4 := Decidable.not_not.1 e4
  have f4 := bne_of e4
  by_cases e5 : ¬ a.seq = z.seq
  · have f5 := bne_ne e5
    have hR : Hid (sameEnt a z = false) := Lib.hid (sameEnt_no (fun h => e5 h.2.2.2.2.2.1))
    clear e0 e1 e2 e3 e4 e5
    go_wp2_with fail
    go_ret
    rw [hR.out]
    exact ⟨rfl, HB0.out⟩
  have e5 := Decidable.not_not.1 e5
  have f5 := bne_of e5
  by_cases e6 : ¬ a.evs.length = z.evs.length
  · have f6 : ((a.evs.length : Int) != (z.evs.length : Int)) = true := by simp; omega
    have hR : Hid (sameEnt a z = false) := Lib.hid (sameEnt_no (fun h => e6 (by rw [h.2.2.2.2.2.2])))
    clear e0 e1 e2 e3 e4 e5 e6
    go_wp2_with fail
    go_ret
    rw [hR.out]
    exact ⟨rfl, HB0.out⟩
  have e6 := Decidable.not_not.1 e6
  have f6 : ((a.evs.length : Int) != (z.evs.length : Int)) = false := by rw [e6]; simp
  have HE := Lib.hid (show a.pos = z.pos ∧ a.epoch = z.epoch ∧ a.stream = z.stream ∧ a.expect = z.expect ∧ a.session = z.session ∧ a.seq = z.seq from ⟨e0, e1, e2, e3, e4, e5⟩)
  have HLN := Lib.hid e6
  clear e0 e1 e2 e3 e4 e5 e6
  go_wp2_with fail
  clear f0 f1 f2 f2' f3 f4 f5 f6 x0 x1 y0 y1 u0 u1 u2 u3 v0 v1 v2 v3
  have hdl := World.block_lt_of_cell? _ _ v4
  have hdl' := World.block_lt_of_cell? _ _ u4
  have HU := Lib.hid u4
  have HV := Lib.hid v4
  clear u4 v4
  go_loopw [7] (fun i wr => ∃ k : Nat, k ≤ a.evs.length ∧ i = .int .i64 k ∧ a.evs.take k = z.evs.take k ∧ Below w2.heap.size w2 wr) (fun i _ => a.evs.length - (Go.RowKit.intOf i).toNat)
  case atStart => exact ⟨0, Nat.zero_le _, rfl, rfl, Below.refl _ _⟩
  case round =>
    obtain ⟨k, hk, rfl, ht, hB⟩ := hrel
    have u4 := (hB.cell (p := ⟨d, 4, none⟩) hdl').trans HU.out
    have v4 := (hB.cell (p := ⟨e, 4, none⟩) hdl).trans HV.out
    have HB := Lib.hid (HB0.out.trans (hB.mono HB0.out.size))
    have HBr := Lib.hid hB
    have HT := Lib.hid ht
    clear hB ht
    by_cases hlt : k < a.evs.length
    · have hlt2 : k < z.evs.length := by have := HLN.out; omega
      obtain ⟨q, o, rfl, _, hbl, hxx⟩ := (HA.out.fresh HB.out).cell_ hlt
      obtain ⟨q2, o2, rfl, _, hbl2, hyy⟩ := (HZ.out.fresh HB.out).cell_ hlt2
      have x0 := hxx 0 _ rfl
      have x1 := hxx 1 _ rfl
      have y0 := hyy 0 _ rfl
      have y1 := hyy 1 _ rfl
      simp only [Nat.add_zero] at x0 y0
      clear hxx hyy
      have hkk : k < 9223372036854775807 := by omega
      have d0 : decide ((k : Int) < (a.evs.length : Int)) = true := by simp; omega
      by_cases he : a.evs[k] = z.evs[k]
      · have hd := evUn_false he
        have HQ := Lib.hid he
        clear he
        go_wp2_with fail
        go_quiet (fail)
        go_wp2_with fail
        go_roundw
        case rel => exact ⟨k + 1, hlt, by go_num, by rw [List.take_succ_eq_append_getElem hlt, List.take_succ_eq_append_getElem hlt2, HT.out, HQ.out], HBr.out.trans ⟨rfl, rfl, rfl, Nat.le_refl _, fun _ _ => rfl⟩⟩
        case measure => simp [Go.RowKit.intOf]; omega
      · have hd := evUn_true he
        have hR : Hid (sameEnt a z = false) := Lib.hid (sameEnt_no (fun h => he (by simp only [h.2.2.2.2.2.2])))
        clear he
        go_wp2_with fail
        go_quiet (fail)
        go_wp2_with fail
        go_ret
        rw [hR.out]
        exact ⟨rfl, HB.out.trans ⟨rfl, rfl, rfl, Nat.le_refl _, fun _ _ => rfl⟩⟩
    · have hkd : k = a.evs.length := by omega
      subst hkd
      have d0 : decide ((a.evs.length : Int) < (a.evs.length : Int)) = false := by simp
      have ht := HT.out
      rw [List.take_length, HLN.out, List.take_length] at ht
      have hR : Hid (sameEnt a z = true) := Lib.hid (sameEnt_yes (by have := HE.out; exact ⟨this.1, this.2.1, this.2.2.1, this.2.2.2.1, this.2.2.2.2.1, this.2.2.2.2.2, ht⟩))
      clear ht
      go_wp2_with fail
      go_ret
      rw [hR.out]
      exact ⟨rfl, HB.out⟩

def RowEvs (w : World) (G : Nat → Prop) (v : Value) (l : List Ent) : Prop := Sl w G 7 entc v l ∧ ∀ a ∈ l, EvsAt w G a
theorem RowEvs.fresh {w w' : World} {G : Nat → Prop} {v : Value} {l : List Ent} (h : RowEvs w G v l) (hB : Below w.heap.size w w') : RowEvs w' G v l := ⟨h.1.fresh hB, fun a ha => (h.2 a ha).fresh hB⟩
def sameRow : List Ent → List Ent → Bool
  | [], [] => true
  | a :: l, b :: m => sameEnt a b && sameRow l m
  | _, _ => false
theorem sameRow_iff : ∀ {l m : List Ent}, sameRow l m = true ↔ l.length = m.length ∧ ∀ i (h : i < l.length) (h' : i < m.length), sameEnt l[i] m[i] = true
  | [], [] => by simp [sameRow]
  | [], b :: m => by simp [sameRow]
  | a :: l, [] => by simp [sameRow]
  | a :: l, b :: m => by
    simp only [sameRow, Bool.and_eq_true, sameRow_iff (l := l) (m := m), List.length_cons]
    constructor
    · rintro ⟨h1, h2, h3⟩
      refine ⟨by omega, fun i hi hi' => ?_⟩
      cases i with
      | zero => exact h1
      | succ i => exact h3 i (by simpa using hi) (by simpa using hi')
    · rintro ⟨h1, h2⟩
      exact ⟨h2 0 (by omega) (by omega), by omega, fun i hi hi' => h2 (i + 1) (by omega) (by omega)⟩
theorem sameRow_no {l m : List Ent} (h : ¬ (l.length = m.length ∧ ∀ i (h : i < l.length) (h' : i < m.length), sameEnt l[i] m[i] = true)) : sameRow l m = false := by
  cases hs : sameRow l m
  · rfl
  · exact absurd (sameRow_iff.1 hs) h
end Go.Proofs.YthdcnknjjbdefaaGreatDoor
