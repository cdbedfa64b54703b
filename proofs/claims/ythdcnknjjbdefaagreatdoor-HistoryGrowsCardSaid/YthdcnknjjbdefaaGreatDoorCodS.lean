/- Are two entries the same: slices.Equal, event.Same, record.Same. No condition. -/
import Derived.Test.YthdcnknjjbdefaaGreatDoorRecA
import Derived.Test.YthdcnknjjbdefaaGreatDoorBlU
import Derived.Deep.QuietTactic
namespace Go.Proofs.YthdcnknjjbdefaaGreatDoor
open Go.RowKit Go.Bl
attribute [local go_sem ↓] Go.wp_at_zero Go.wp_at_succ

/-- Are two events unlike? Under a name that the walk does not open. -/
def evUn (a b c d : ByteArray) : Bool := decide (¬ ((⟨a, b⟩ : Ev) = ⟨c, d⟩))
theorem evUn_false {x y : Ev} (h : x = y) : evUn x.kind x.data y.kind y.data = false := by subst h; simp [evUn]
theorem evUn_true {x y : Ev} (h : ¬ x = y) : evUn x.kind x.data y.kind y.data = true := by unfold evUn; rw [decide_eq_true_eq]; exact h
theorem toList_iff {a b : ByteArray} : a.toList = b.toList ↔ a = b := ⟨bytes_extB, fun e => by rw [e]⟩
theorem unEv (a b c d : ByteArray) (w : World) : (binOp .neq 68 (.agg #[.string a, .string b]) (.agg #[.string c, .string d])).run Tryz.prog w = .ok (.bool (evUn a b c d)) w := by
  have u3 := Tryz.underlying9
  have a3 := Tryz.isAgg9
  have z3 := Tryz.sizeOf9
  have hS : Tryz.prog.underlying 68 = some (.struct (Tryz.prog.fieldsOf 68)) := by kernel_rfl
  have hp : Tryz.prog.stoodInHeld 68 = false := by kernel_rfl
  rw [run_neq_struct, show (10000 : Nat) = 9999 + 1 from rfl, run_equalIn_agg w 9999 68 _ _ hS hp]
  simp only [Program.fieldsOf, Tryz.underlying68]
  go_simp
  by_cases h1 : a = c <;> by_cases h2 : b = d <;> simp [toList_iff, evUn, h1, h2]
set_option maxRecDepth 8000 in
set_option maxHeartbeats 1000000 in
theorem eqEvs_any (w : World) (G H : Nat → Prop) (v u : Value) (l m : List Ev) (hl : Sl w G 2 evc v l) (hm : Sl w H 2 evc u m) :
    Calls Tryz.prog 58 #[v, u] w fun x w' => x = .returned (.bool (decide (l = m))) ∧ Below w.heap.size w w' := by
  have hne := unEv
  obtain ⟨A, c, rfl, hA1, hA2⟩ := hl.shape
  obtain ⟨B, d, rfl, hB1, hB2⟩ := hm.shape
  unfold maxLen at hA2 hB2
  have HL := Lib.hid hl
  have HM := Lib.hid hm
  clear hl hm
  by_cases hlen : l.length = m.length
  · have d1 : ((l.length : Int) != (m.length : Int)) = false := by rw [hlen]; simp
    have HLN := Lib.hid hlen
    clear hlen
    go_enter Tryz.func58, Tryz.ntmps58
    go_wp2_with fail
    go_loopw [13, 5] (fun i _ wr => ∃ k : Nat, k ≤ l.length ∧ i = .int .i64 k ∧ l.take k = m.take k ∧ Below w.heap.size w wr) (fun i _ _ => l.length - (Go.RowKit.intOf i).toNat)
    case atStart => exact ⟨0, Nat.zero_le _, rfl, rfl, Below.refl _ _⟩
    case round =>
      obtain ⟨k, hk, rfl, ht, hB⟩ := hrel
      have HB := Lib.hid hB
      have HT := Lib.hid ht
      clear hB ht
      by_cases hlt : k < l.length
      · have hlt2 : k < m.length := by have := HLN.out; omega
        obtain ⟨b, o, rfl, _, hbl, hxx⟩ := (HL.out.fresh HB.out).cell_ hlt
        obtain ⟨b2, o2, rfl, _, hbl2, hyy⟩ := (HM.out.fresh HB.out).cell_ hlt2
        have x0 := hxx 0 _ rfl
        have x1 := hxx 1 _ rfl
        have y0 := hyy 0 _ rfl
        have y1 := hyy 1 _ rfl
        simp only [Nat.add_zero] at x0 y0
        clear hxx hyy
        have hkk : k < 9223372036854775807 := by omega
        by_cases he : l[k] = m[k]
        · have hd := evUn_false he
          have HE := Lib.hid he
          clear he
          go_wp2_with fail
          go_quiet (fail)
          go_wp2_with fail
          go_roundw
          case rel => exact ⟨k + 1, hlt, by go_num, by rw [List.take_succ_eq_append_getElem hlt, List.take_succ_eq_append_getElem hlt2, HT.out, HE.out], HB.out.trans ⟨rfl, rfl, rfl, Nat.le_refl _, fun _ _ => rfl⟩⟩
          case measure => simp [Go.RowKit.intOf]; omega
        · have hd := evUn_true he
          have hf : decide (l = m) = false := by
            rw [decide_eq_false_iff_not]; intro h; subst h; exact he rfl
          have HF := Lib.hid hf
          clear he hf
          go_wp2_with fail
          go_quiet (fail)
          go_wp2_with fail
          go_ret
          rw [HF.out]
          exact ⟨rfl, HB.out.trans ⟨rfl, rfl, rfl, Nat.le_refl _, fun _ _ => rfl⟩⟩
      · have hkd : k = l.length := by omega
        subst hkd
        have ht := HT.out
        rw [List.take_length, HLN.out, List.take_length] at ht
        have hf : decide (l = m) = true := decide_eq_true ht
        have HF := Lib.hid hf
        clear ht hf
        go_wp2_with fail
        go_ret
        rw [HF.out]
        exact ⟨rfl, HB.out⟩
  · have d1 : ((l.length : Int) != (m.length : Int)) = true := by simp; omega
    have hf : decide (l = m) = false := by rw [decide_eq_false_iff_not]; intro h; exact hlen (by rw [h])
    rw [hf]
    clear hf hlen
    go_enter Tryz.func58, Tryz.ntmps58
    go_wp2_with fail
    go_ret
    exact ⟨rfl, Below.refl _ _⟩

def sameBat (a b : Ent) : Bool := decide (a.stream = b.stream) && (decide (a.expect = b.expect) && (decide (a.session = b.session) && (decide (a.seq = b.seq) && decide (a.evs = b.evs))))
def sameEnt (a b : Ent) : Bool := decide (a.pos = b.pos) && (decide (a.epoch = b.epoch) && sameBat a b)
/-- What is asked: the events of an entry lie there. -/
def EvsAt (w : World) (G : Nat → Prop) (a : Ent) : Prop := Sl w G 2 evc a.evv a.evs
theorem EvsAt.fresh {w w' : World} {G : Nat → Prop} {a : Ent} (h : EvsAt w G a) (hB : Below w.heap.size w w') : EvsAt w' G a := Sl.fresh h hB
theorem int_ne {a b : Int} (h : ¬ a = b) : (a == b) = false := by rw [beq_eq_false_iff_ne]; exact h
set_option maxRecDepth 8000 in
set_option maxHeartbeats 2000000 in
theorem esame_any (w : World) (G H : Nat → Prop) (a z : Ent) (ha : EvsAt w G a) (hz : EvsAt w H z) :
    Calls Tryz.prog 47 #[.agg #[.string a.stream, .int .i64 a.expect, .int .i64 a.session, .int .i64 a.seq, a.evv], .agg #[.string z.stream, .int .i64 z.expect, .int .i64 z.session, .int .i64 z.seq, z.evv]] w fun x w' => x = .returned (.bool (sameBat a z)) ∧ Below w.heap.size w w' := by
  obtain ⟨A, c, hv, hA1, hA2⟩ := Sl.shape ha
  obtain ⟨A', c', hv', hA1', hA2'⟩ := Sl.shape hz
  have he := fun (wz : World) (h : Below w.heap.size w wz) => eqEvs_any wz G H _ _ a.evs z.evs (Sl.fresh ha h) (Sl.fresh hz h)
  rw [hv, hv'] at he
  rw [hv, hv']
  have HE := Lib.hid he
  clear he hv hv' ha hz
  have hB0 : Below w.heap.size w ((w.alloc (.cells #[.string a.stream, .int .i64 a.expect, .int .i64 a.session, .int .i64 a.seq, .slice A a.evs.length c] 32)).alloc (.cells #[.string z.stream, .int .i64 z.expect, .int .i64 z.session, .int .i64 z.seq, .slice A' z.evs.length c'] 32)) := ((Below.refl _ w).alloc (Nat.le_refl _) _).alloc (by simp) _
  have hb1 : ((w.alloc (.cells #[.string a.stream, .int .i64 a.expect, .int .i64 a.session, .int .i64 a.seq, .slice A a.evs.length c] 32)).alloc (.cells #[.string z.stream, .int .i64 z.expect, .int .i64 z.session, .int .i64 z.seq, .slice A' z.evs.length c'] 32)).heap[w.heap.size]? = some (.cells #[.string a.stream, .int .i64 a.expect, .int .i64 a.session, .int .i64 a.seq, .slice A a.evs.length c] 32 (0, 0)) := (Below.heap_alloc _ _ _ (by simp)).trans (heap_alloc_new w _)
  have hb2 := heap_alloc_new (w.alloc (.cells #[.string a.stream, .int .i64 a.expect, .int .i64 a.session, .int .i64 a.seq, .slice A a.evs.length c] 32)) (.cells #[.string z.stream, .int .i64 z.expect, .int .i64 z.session, .int .i64 z.seq, .slice A' z.evs.length c'] 32)
  rw [World.size_alloc] at hb2
  go_enter Tryz.func47, Tryz.ntmps47
  go_upto_region 1 with (fail)
  generalize (w.alloc (.cells #[.string a.stream, .int .i64 a.expect, .int .i64 a.session, .int .i64 a.seq, .slice A a.evs.length c] 32)).alloc (.cells #[.string z.stream, .int .i64 z.expect, .int .i64 z.session, .int .i64 z.seq, .slice A' z.evs.length c'] 32) = w1 at hB0 hb1 hb2 ⊢
  obtain ⟨b, hb⟩ : ∃ b, w.heap.size = b := ⟨_, rfl⟩
  have HB0 := Lib.hid hB0
  rw [hb] at hb1 hb2 ⊢
  have x0 : w1.cell? ⟨b, 0, none⟩ = some (.string a.stream) := cell_of_row w1 b 0 _ _ _ hb1
  have x1 : w1.cell? ⟨b, 1, none⟩ = some (.int .i64 a.expect) := cell_of_row w1 b 1 _ _ _ hb1
  have x2 : w1.cell? ⟨b, 2, none⟩ = some (.int .i64 a.session) := cell_of_row w1 b 2 _ _ _ hb1
  have x3 : w1.cell? ⟨b, 3, none⟩ = some (.int .i64 a.seq) := cell_of_row w1 b 3 _ _ _ hb1
  have x4 : w1.cell? ⟨b, 4, none⟩ = some (.slice A a.evs.length c) := cell_of_row w1 b 4 _ _ _ hb1
  have y0 : w1.cell? ⟨b + 1, 0, none⟩ = some (.string z.stream) := cell_of_row w1 _ 0 _ _ _ hb2
  have y1 : w1.cell? ⟨b + 1, 1, none⟩ = some (.int .i64 z.expect) := cell_of_row w1 _ 1 _ _ _ hb2
  have y2 : w1.cell? ⟨b + 1, 2, none⟩ = some (.int .i64 z.session) := cell_of_row w1 _ 2 _ _ _ hb2
  have y3 : w1.cell? ⟨b + 1, 3, none⟩ = some (.int .i64 z.seq) := cell_of_row w1 _ 3 _ _ _ hb2
  have y4 : w1.cell? ⟨b + 1, 4, none⟩ = some (.slice A' z.evs.length c') := cell_of_row w1 _ 4 _ _ _ hb2
  clear hb hb1 hb2 hB0
  by_cases e0 : a.stream = z.stream
  · have f0 := strEq_true e0
    by_cases e1 : a.expect = z.expect
    · have f1 : (a.expect == z.expect) = true := by rw [beq_iff_eq]; exact e1
      by_cases e2 : a.session = z.session
      · have f2 : (a.session == z.session) = true := by rw [beq_iff_eq]; exact e2
        by_cases e3 : a.seq = z.seq
        · have f3 : (a.seq == z.seq) = true := by rw [beq_iff_eq]; exact e3
          have hR : Hid (sameBat a z = decide (a.evs = z.evs)) := Lib.hid (by unfold sameBat; simp [e0, e1, e2, e3])
          clear e0 e1 e2 e3
          go_wp2_with fail
          refine (HE.out w1 HB0.out).mono ?_
          rintro x w2 ⟨rfl, hB2⟩
          go_wp2_with fail
          go_ret
          rw [hR.out]
          exact ⟨rfl, HB0.out.trans (hB2.mono HB0.out.size)⟩
        · have f3 := int_ne e3
          have hR : Hid (sameBat a z = false) := Lib.hid (by unfold sameBat; simp [e3])
          clear e0 e1 e2 e3
          go_wp2_with fail
          go_ret
          rw [hR.out]
          exact ⟨rfl, HB0.out⟩
      · have f2 := int_ne e2
        have hR : Hid (sameBat a z = false) := Lib.hid (by unfold sameBat; simp [e2])
        clear e0 e1 e2
        go_wp2_with fail
        go_ret
        rw [hR.out]
        exact ⟨rfl, HB0.out⟩
    · have f1 := int_ne e1
      have hR : Hid (sameBat a z = false) := Lib.hid (by unfold sameBat; simp [e1])
      clear e0 e1
      go_wp2_with fail
      go_ret
      rw [hR.out]
      exact ⟨rfl, HB0.out⟩
  · have f0 := strEq_false e0
    have hR : Hid (sameBat a z = false) := Lib.hid (by unfold sameBat; simp [e0])
    clear e0
    go_wp2_with fail
    go_ret
    rw [hR.out]
    exact ⟨rfl, HB0.out⟩

set_option maxRecDepth 8000 in
set_option maxHeartbeats 2000000 in
theorem rsame_any (w : World) (G H : Nat → Prop) (a z : Ent) (ha : EvsAt w G a) (hz : EvsAt w H z) :
    Calls Tryz.prog 35 #[.agg #[.int .i64 a.pos, .int .i64 a.epoch, .string a.stream, .int .i64 a.expect, .int .i64 a.session, .int .i64 a.seq, a.evv], .agg #[.int .i64 z.pos, .int .i64 z.epoch, .string z.stream, .int .i64 z.expect, .int .i64 z.session, .int .i64 z.seq, z.evv]] w fun x w' => x = .returned (.bool (sameEnt a z)) ∧ Below w.heap.size w w' := by
  obtain ⟨A, c, hv, hA1, hA2⟩ := Sl.shape ha
  obtain ⟨A', c', hv', hA1', hA2'⟩ := Sl.shape hz
  have he := fun (wz : World) (h : Below w.heap.size w wz) => esame_any wz G H a z (ha.fresh h) (hz.fresh h)
  rw [hv, hv'] at he
  rw [hv, hv']
  have HE := Lib.hid he
  clear he hv hv' ha hz
  have hB0 : Below w.heap.size w ((w.alloc (.cells #[.int .i64 a.pos, .int .i64 a.epoch, .string a.stream, .int .i64 a.expect, .int .i64 a.session, .int .i64 a.seq, .slice A a.evs.length c] 55)).alloc (.cells #[.int .i64 z.pos, .int .i64 z.epoch, .string z.stream, .int .i64 z.expect, .int .i64 z.session, .int .i64 z.seq, .slice A' z.evs.length c'] 55)) := ((Below.refl _ w).alloc (Nat.le_refl _) _).alloc (by simp) _
  have hb1 : ((w.alloc (.cells #[.int .i64 a.pos, .int .i64 a.epoch, .string a.stream, .int .i64 a.expect, .int .i64 a.session, .int .i64 a.seq, .slice A a.evs.length c] 55)).alloc (.cells #[.int .i64 z.pos, .int .i64 z.epoch, .string z.stream, .int .i64 z.expect, .int .i64 z.session, .int .i64 z.seq, .slice A' z.evs.length c'] 55)).heap[w.heap.size]? = some (.cells #[.int .i64 a.pos, .int .i64 a.epoch, .string a.stream, .int .i64 a.expect, .int .i64 a.session, .int .i64 a.seq, .slice A a.evs.length c] 55 (0, 0)) := (Below.heap_alloc _ _ _ (by simp)).trans (heap_alloc_new w _)
  have hb2 := heap_alloc_new (w.alloc (.cells #[.int .i64 a.pos, .int .i64 a.epoch, .string a.stream, .int .i64 a.expect, .int .i64 a.session, .int .i64 a.seq, .slice A a.evs.length c] 55)) (.cells #[.int .i64 z.pos, .int .i64 z.epoch, .string z.stream, .int .i64 z.expect, .int .i64 z.session, .int .i64 z.seq, .slice A' z.evs.length c'] 55)
  rw [World.size_alloc] at hb2
  go_enter Tryz.func35, Tryz.ntmps35
  go_upto_region 1 with (fail)
  generalize (w.alloc (.cells #[.int .i64 a.pos, .int .i64 a.epoch, .string a.stream, .int .i64 a.expect, .int .i64 a.session, .int .i64 a.seq, .slice A a.evs.length c] 55)).alloc (.cells #[.int .i64 z.pos, .int .i64 z.epoch, .string z.stream, .int .i64 z.expect, .int .i64 z.session, .int .i64 z.seq, .slice A' z.evs.length c'] 55) = w1 at hB0 hb1 hb2 ⊢
  obtain ⟨b, hb⟩ : ∃ b, w.heap.size = b := ⟨_, rfl⟩
  have HB0 := Lib.hid hB0
  rw [hb] at hb1 hb2 ⊢
  have x0 : w1.cell? ⟨b, 0, none⟩ = some (.int .i64 a.pos) := cell_of_row w1 b 0 _ _ _ hb1
  have x1 : w1.cell? ⟨b, 1, none⟩ = some (.int .i64 a.epoch) := cell_of_row w1 b 1 _ _ _ hb1
  have x2 : w1.cell? ⟨b, 2, none⟩ = some (.string a.stream) := cell_of_row w1 b 2 _ _ _ hb1
  have x3 : w1.cell? ⟨b, 3, none⟩ = some (.int .i64 a.expect) := cell_of_row w1 b 3 _ _ _ hb1
  have x4 : w1.cell? ⟨b, 4, none⟩ = some (.int .i64 a.session) := cell_of_row w1 b 4 _ _ _ hb1
  have x5 : w1.cell? ⟨b, 5, none⟩ = some (.int .i64 a.seq) := cell_of_row w1 b 5 _ _ _ hb1
  have x6 : w1.cell? ⟨b, 6, none⟩ = some (.slice A a.evs.length c) := cell_of_row w1 b 6 _ _ _ hb1
  have y0 : w1.cell? ⟨b + 1, 0, none⟩ = some (.int .i64 z.pos) := cell_of_row w1 _ 0 _ _ _ hb2
  have y1 : w1.cell? ⟨b + 1, 1, none⟩ = some (.int .i64 z.epoch) := cell_of_row w1 _ 1 _ _ _ hb2
  have y2 : w1.cell? ⟨b + 1, 2, none⟩ = some (.string z.stream) := cell_of_row w1 _ 2 _ _ _ hb2
  have y3 : w1.cell? ⟨b + 1, 3, none⟩ = some (.int .i64 z.expect) := cell_of_row w1 _ 3 _ _ _ hb2
  have y4 : w1.cell? ⟨b + 1, 4, none⟩ = some (.int .i64 z.session) := cell_of_row w1 _ 4 _ _ _ hb2
  have y5 : w1.cell? ⟨b + 1, 5, none⟩ = some (.int .i64 z.seq) := cell_of_row w1 _ 5 _ _ _ hb2
  have y6 : w1.cell? ⟨b + 1, 6, none⟩ = some (.slice A' z.evs.length c') := cell_of_row w1 _ 6 _ _ _ hb2
  clear hb hb1 hb2 hB0
  by_cases e0 : a.pos = z.pos
  · have f0 : (a.pos == z.pos) = true := by rw [beq_iff_eq]; exact e0
    by_cases e1 : a.epoch = z.epoch
    · have f1 : (a.epoch == z.epoch) = true := by rw [beq_iff_eq]; exact e1
      have hR : Hid (sameEnt a z = sameBat a z) := Lib.hid (by unfold sameEnt; simp [e0, e1])
      clear e0 e1
      go_wp2_with fail
      refine (HE.out w1 HB0.out).mono ?_
      rintro x w2 ⟨rfl, hB2⟩
      go_wp2_with fail
      go_ret
      rw [hR.out]
      exact ⟨rfl, HB0.out.trans (hB2.mono HB0.out.size)⟩
    · have f1 := int_ne e1
      have hR : Hid (sameEnt a z = false) := Lib.hid (by unfold sameEnt; simp [e1])
      clear e0 e1
      go_wp2_with fail
      go_ret
      rw [hR.out]
      exact ⟨rfl, HB0.out⟩
  · have f0 := int_ne e0
    have hR : Hid (sameEnt a z = false) := Lib.hid (by unfold sameEnt; simp [e0])
    clear e0
    go_wp2_with fail
    go_ret
    rw [hR.out]
    exact ⟨rfl, HB0.out⟩
end Go.Proofs.YthdcnknjjbdefaaGreatDoor
