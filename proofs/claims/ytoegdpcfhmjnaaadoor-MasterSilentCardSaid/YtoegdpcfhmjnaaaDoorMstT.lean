/- MasterSilent answers true. Under the stated premises on sizes. -/
import Derived.Test.YtoegdpcfhmjnaaaDoorMstF
import Derived.Test.YtoegdpcfhmjnaaaDoorMstG
import Derived.Test.YtoegdpcfhmjnaaaDoorMstE
import Derived.Test.YtoegdpcfhmjnaaaDoorMstL
import Derived.Deep.RegionHeld3
/- The law of the master: begun, Heard, as, the document's Same, pick. Under the stated premises on sizes. -/
namespace Go.Proofs.YtoegdpcfhmjnaaaDoor
open Go.RowKit Go.Bl
attribute [local go_sem ↓] Go.wp_at_zero Go.wp_at_succ

theorem new8_any (w : World) (room : Int) (h1 : 1 ≤ room) (h2 : room ≤ 1073741824) : Calls Tryd.prog 16 #[.int .i64 room] w fun e w' => e = .returned (.tuple #[.pointer (some ⟨w.heap.size, 0, none⟩), .int .i64 0]) ∧ Below w.heap.size w w' := by
  have d1 : decide (room < 1) = false := by simp; omega
  have d2 : decide (1073741824 < room) = false := by simp; omega
  go_enter Tryd.func16, Tryd.ntmps16
  go_wp2_with fail
  go_ret2
  exact ⟨rfl, (Below.refl _ _).alloc (Nat.le_refl _) _⟩
set_option maxRecDepth 8000 in
theorem begunQ {w : World} (hT : Tabs w) (room : Int) (h1 : 1 ≤ room) (h2 : room ≤ 1073741824) : Calls Tryd.prog 5 #[.int .i64 room] w fun e w' => ∃ p pm, e = .returned (.tuple #[.agg #[.pointer (some ⟨p, 0, none⟩), .pointer (some ⟨pm, 0, none⟩)], .bool true]) ∧ Qd (fun k => k < w.heap.size) w' p ⟨room, []⟩ ∧ Below w.heap.size w w' := by
  have HT := Lib.hid hT
  have hw1 : Below w.heap.size w (w.alloc (.cells #[.pointer none, .pointer none] 27)) := (Below.refl _ _).alloc (Nat.le_refl _) _
  have hblk := heap_alloc_new w (.cells #[.pointer none, .pointer none] 27)
  go_enter Tryd.func5, Tryd.ntmps5
  go_wp2_with fail
  obtain ⟨b0, hb0⟩ : ∃ b, w.heap.size = b := ⟨_, rfl⟩
  rw [hb0] at hblk
  generalize w.alloc (.cells #[.pointer none, .pointer none] 27) = w1 at hw1 hblk ⊢
  refine (newD w1 (fun k => k < w1.heap.size) (fun _ h => h) room h1 h2).mono ?_
  rintro e w2 ⟨p, rfl, hQ, hB2⟩
  have hb0l : b0 < w1.heap.size := (Array.getElem?_eq_some_iff.1 hblk).1
  have hblk2 := (hB2.block b0 (Array.getElem?_eq_some_iff.1 hblk).1).trans hblk
  clear hblk
  have HB2 := Lib.hid hB2
  have HBK := Lib.hid hblk2
  clear hB2 hblk2
  go_wp2_with fail
  refine (new8_any w2 room h1 h2).mono ?_
  rintro e w3 ⟨rfl, hB3⟩
  have hblk3 := (hB3.block b0 (Array.getElem?_eq_some_iff.1 HBK.out).1).trans HBK.out
  have c0 : w3.cell? ⟨b0, 0, none⟩ = some (.pointer none) := cell_of_row w3 b0 0 _ _ _ hblk3
  have c1 : w3.cell? ⟨b0, 1, none⟩ = some (.pointer none) := cell_of_row w3 b0 1 _ _ _ hblk3
  have f0 : w3.frozen? ⟨b0, 0, none⟩ = false := frozen_block hblk3 0
  have f1 : w3.frozen? ⟨b0, 1, none⟩ = false := frozen_block hblk3 1
  have HQ3 := Lib.hid (hQ.fresh hB3)
  have HP3 := Lib.hid ((hw1.trans (HB2.out.mono hw1.size)).trans (hB3.mono (Nat.le_trans hw1.size HB2.out.size)))
  have HBK3 := Lib.hid hblk3
  clear hblk3 hQ hB3
  go_wp2_with fail
  have k1 := setCell_block (o := 0) HBK3.out (.pointer (some ⟨p, 0, none⟩))
  have k2 := setCell_block (o := 1) k1 (.pointer (some ⟨w2.heap.size, 0, none⟩))
  have q0 := cell_of_row _ b0 0 _ _ _ k2
  have q1 := cell_of_row _ b0 1 _ _ _ k2
  have hk : Keeps (fun k => k < w1.heap.size) w3 ((w3.setCell ⟨b0, 0, none⟩ (.pointer (some ⟨p, 0, none⟩))).setCell ⟨b0, 1, none⟩ (.pointer (some ⟨w2.heap.size, 0, none⟩))) :=
    ((Keeps.refl _ w3).setCell (p := ⟨b0, 0, none⟩) (fun _ => hb0l) _).setCell (p := ⟨b0, 1, none⟩) (fun _ => hb0l) _
  have hb0g : w.heap.size ≤ b0 := Nat.le_of_eq hb0
  have hpast := (HP3.out.setCell (p := ⟨b0, 0, none⟩) hb0g (.pointer (some ⟨p, 0, none⟩))).setCell (p := ⟨b0, 1, none⟩) hb0g (.pointer (some ⟨w2.heap.size, 0, none⟩))
  generalize (w3.setCell ⟨b0, 0, none⟩ (.pointer (some ⟨p, 0, none⟩))).setCell ⟨b0, 1, none⟩ (.pointer (some ⟨w2.heap.size, 0, none⟩)) = w4 at k2 q0 q1 hk hpast ⊢
  refine bodyPost_ret (v := .tuple #[.agg #[.pointer (some ⟨p, 0, none⟩), .pointer (some ⟨w2.heap.size, 0, none⟩)], .bool true]) (by simp [results, Tryd.results5, go_sem, q0, q1]) rfl ⟨p, w2.heap.size, rfl, ⟨HT.out.fresh hpast, fun k hk => Nat.lt_of_lt_of_le hk HT.out.lt, fun k hk => Nat.lt_of_lt_of_le hk hpast.size, ?_⟩, hpast⟩
  exact (HQ3.out.keep hk).more (fun k hk => .inl (Nat.lt_of_lt_of_le hk hw1.size))
set_option maxRecDepth 8000 in
set_option maxHeartbeats 2000000 in
theorem heardM_any {X : Nat → Prop} {w : World} {m p : Nat} {room fail : Int} {vs : List Vw} {s : Ms} {c : Nat} (h : Mst X w m p room fail vs s c) (x : Int) :
    Calls Tryd.prog 14 #[.pointer (some ⟨m, 0, none⟩), .int .i64 x] w fun e w' => e = .returned (.int .i64 (if x ∈ s.v.nodes then s.hd x else -1)) ∧ w = w' := by
  have hin := in_any h x
  obtain ⟨Y, F, bh, br, va, vb, vc, h⟩ := h
  obtain ⟨-, -, -, -, -, -, c6, -⟩ := h.cells
  by_cases hx : x ∈ s.v.nodes
  · rw [if_pos hx]
    rw [decide_eq_true hx] at hin
    have hl := h.lookH hx
    have HIN := Lib.hid hin
    clear hin h hx
    go_enter Tryd.func14, Tryd.ntmps14
    go_wp2_with fail
    refine HIN.out.mono ?_
    rintro e w2 ⟨rfl, rfl⟩
    go_wp2_with fail
    go_ret
    exact ⟨rfl, rfl⟩
  · rw [if_neg hx]
    rw [decide_eq_false hx] at hin
    have HIN := Lib.hid hin
    clear hin h hx
    go_enter Tryd.func14, Tryd.ntmps14
    go_wp2_with fail
    refine HIN.out.mono ?_
    rintro e w2 ⟨rfl, rfl⟩
    go_wp2_with fail
    go_ret
    exact ⟨rfl, rfl⟩
set_option maxRecDepth 8000 in
set_option maxHeartbeats 2000000 in
theorem asV_any (w : World) (ep : Int) (A B C : Option Addr) (n ca cb cc : Nat) : Calls Tryd.prog 13 #[.agg #[.int .i64 ep, .slice A n ca, .slice B n cb, .slice C n cc]] w fun e w' => e = .returned (.agg #[.int .i64 ep, .slice A n ca, .slice B n cb, .slice C n cc]) ∧ Below w.heap.size w w' := by
  have hB0 : Below w.heap.size w ((w.alloc (.cells #[.int .i64 ep, .slice A n ca, .slice B n cb, .slice C n cc] 38)).alloc (.cells #[.int .i64 0, .slice none 0 0, .slice none 0 0, .slice none 0 0] 46)) := ((Below.refl _ w).alloc (Nat.le_refl _) _).alloc (by simp) _
  have hb1 : ((w.alloc (.cells #[.int .i64 ep, .slice A n ca, .slice B n cb, .slice C n cc] 38)).alloc (.cells #[.int .i64 0, .slice none 0 0, .slice none 0 0, .slice none 0 0] 46)).heap[w.heap.size]? = some (.cells #[.int .i64 ep, .slice A n ca, .slice B n cb, .slice C n cc] 38 (0, 0)) := (Below.heap_alloc _ _ _ (by simp)).trans (heap_alloc_new w _)
  have hb2 : ((w.alloc (.cells #[.int .i64 ep, .slice A n ca, .slice B n cb, .slice C n cc] 38)).alloc (.cells #[.int .i64 0, .slice none 0 0, .slice none 0 0, .slice none 0 0] 46)).heap[w.heap.size + 1]? = some (.cells #[.int .i64 0, .slice none 0 0, .slice none 0 0, .slice none 0 0] 46 (0, 0)) := by
    have := heap_alloc_new (w.alloc (.cells #[.int .i64 ep, .slice A n ca, .slice B n cb, .slice C n cc] 38)) (.cells #[.int .i64 0, .slice none 0 0, .slice none 0 0, .slice none 0 0] 46)
    rw [World.size_alloc] at this
    exact this
  go_enter Tryd.func13, Tryd.ntmps13
  go_upto_region 1 with (fail)
  generalize (w.alloc (.cells #[.int .i64 ep, .slice A n ca, .slice B n cb, .slice C n cc] 38)).alloc (.cells #[.int .i64 0, .slice none 0 0, .slice none 0 0, .slice none 0 0] 46) = w1 at hB0 hb1 hb2 ⊢
  obtain ⟨q, hq⟩ : ∃ q, w.heap.size = q := ⟨_, rfl⟩
  have HQ := Lib.hid hq
  rw [hq] at hb1 hb2 ⊢
  have HB0 := Lib.hid hB0
  have HB2 := Lib.hid hb2
  have c0 : w1.cell? ⟨q, 0, none⟩ = some (.int .i64 ep) := cell_of_row w1 q 0 _ _ _ hb1
  have c1 : w1.cell? ⟨q, 1, none⟩ = some (.slice A n ca) := cell_of_row w1 q 1 _ _ _ hb1
  have c2 : w1.cell? ⟨q, 2, none⟩ = some (.slice B n cb) := cell_of_row w1 q 2 _ _ _ hb1
  have c3 : w1.cell? ⟨q, 3, none⟩ = some (.slice C n cc) := cell_of_row w1 q 3 _ _ _ hb1
  have r0 : w1.cell? ⟨q + 1, 0, none⟩ = some (.int .i64 0) := cell_of_row w1 (q + 1) 0 _ _ _ hb2
  have r1 : w1.cell? ⟨q + 1, 1, none⟩ = some (.slice none 0 0) := cell_of_row w1 (q + 1) 1 _ _ _ hb2
  have r2 : w1.cell? ⟨q + 1, 2, none⟩ = some (.slice none 0 0) := cell_of_row w1 (q + 1) 2 _ _ _ hb2
  have r3 : w1.cell? ⟨q + 1, 3, none⟩ = some (.slice none 0 0) := cell_of_row w1 (q + 1) 3 _ _ _ hb2
  have g0 := frozen_block hb2 0
  have g1 := frozen_block hb2 1
  have g2 := frozen_block hb2 2
  have g3 := frozen_block hb2 3
  clear hb1 hb2 hB0 hq
  go_wp2_with fail
  have hb4 := four_block HB2.out (.int .i64 ep) (.slice A n ca) (.slice B n cb) (.slice C n cc)
  have hk4 := four_keeps w1 (q + 1) (.int .i64 ep) (.slice A n ca) (.slice B n cb) (.slice C n cc)
  have hBe := Below.keep HB0.out hk4 HB0.out.size (fun k e => by have e2 : k = q + 1 := e; have := HQ.out; omega)
  generalize ((((w1.setCell ⟨q + 1, 0, none⟩ (.int .i64 ep)).setCell ⟨q + 1, 1, none⟩ (.slice A n ca)).setCell ⟨q + 1, 2, none⟩ (.slice B n cb)).setCell ⟨q + 1, 3, none⟩ (.slice C n cc)) = w6 at hb4 hBe ⊢
  have z0 : w6.cell? ⟨q + 1, 0, none⟩ = some (.int .i64 ep) := cell_of_row w6 (q + 1) 0 _ _ _ hb4
  have z1 : w6.cell? ⟨q + 1, 1, none⟩ = some (.slice A n ca) := cell_of_row w6 (q + 1) 1 _ _ _ hb4
  have z2 : w6.cell? ⟨q + 1, 2, none⟩ = some (.slice B n cb) := cell_of_row w6 (q + 1) 2 _ _ _ hb4
  have z3 : w6.cell? ⟨q + 1, 3, none⟩ = some (.slice C n cc) := cell_of_row w6 (q + 1) 3 _ _ _ hb4
  refine bodyPost_ret (v := .agg #[.int .i64 ep, .slice A n ca, .slice B n cb, .slice C n cc]) (by simp [results, Tryd.results13, go_sem, z0, z1, z2, z3]) rfl ⟨rfl, hBe⟩
set_option maxRecDepth 8000 in
set_option maxHeartbeats 4000000 in
theorem sameV_eq {F F' : Nat → Prop} (w : World) (ep : Int) (L : List Nd) (a b c a' b' c' : Value) (h : VwSl w F L a b c) (h' : VwSl w F' L a' b' c') : Calls Tryd.prog 12 #[.agg #[.int .i64 ep, a, b, c], .agg #[.int .i64 ep, a', b', c']] w fun e w' => e = .returned (.bool true) ∧ Below w.heap.size w w' := by
  obtain ⟨A, ca, B, cb, C, cc, rfl, rfl, rfl, hca, hcm, _⟩ := h.shape
  obtain ⟨A', ca', B', cb', C', cc', rfl, rfl, rfl, _⟩ := h'.shape
  obtain ⟨n, hn⟩ : ∃ n, L.length = n := ⟨_, rfl⟩
  rw [hn] at h h' hca ⊢
  obtain ⟨W, hW⟩ : ∃ W, (w.alloc (.cells #[.int .i64 ep, .slice A n ca, .slice B n cb, .slice C n cc] 46)).alloc (.cells #[.int .i64 ep, .slice A' n ca', .slice B' n cb', .slice C' n cc'] 46) = W := ⟨_, rfl⟩
  have hB0 : Below w.heap.size w W := hW ▸ ((Below.refl _ w).alloc (Nat.le_refl _) _).alloc (by simp) _
  have hb1 : W.heap[w.heap.size]? = some (.cells #[.int .i64 ep, .slice A n ca, .slice B n cb, .slice C n cc] 46 (0, 0)) := hW ▸ (Below.heap_alloc _ _ _ (by simp)).trans (heap_alloc_new w _)
  have hb2 : W.heap[w.heap.size + 1]? = some (.cells #[.int .i64 ep, .slice A' n ca', .slice B' n cb', .slice C' n cc'] 46 (0, 0)) := by
    have := heap_alloc_new (w.alloc (.cells #[.int .i64 ep, .slice A n ca, .slice B n cb, .slice C n cc] 46)) (.cells #[.int .i64 ep, .slice A' n ca', .slice B' n cb', .slice C' n cc'] 46)
    rw [World.size_alloc, hW] at this
    exact this
  have HN := Lib.hid hn
  have HV := Lib.hid (h.fresh hB0)
  have HW := Lib.hid (h'.fresh hB0)
  clear h h' hn
  go_enter Tryd.func12, Tryd.ntmps12
  go_upto_region 1 with (fail)
  obtain ⟨p, hp⟩ : ∃ p, w.heap.size = p := ⟨_, rfl⟩
  rw [hp] at hb1 hb2 ⊢
  have HB0 := Lib.hid hB0
  have u0 : W.cell? ⟨p, 0, none⟩ = some (.int .i64 ep) := cell_of_row W p 0 _ _ _ hb1
  have u1 : W.cell? ⟨p, 1, none⟩ = some (.slice A n ca) := cell_of_row W p 1 _ _ _ hb1
  have u2 : W.cell? ⟨p, 2, none⟩ = some (.slice B n cb) := cell_of_row W p 2 _ _ _ hb1
  have u3 : W.cell? ⟨p, 3, none⟩ = some (.slice C n cc) := cell_of_row W p 3 _ _ _ hb1
  have y0 : W.cell? ⟨p + 1, 0, none⟩ = some (.int .i64 ep) := cell_of_row W (p + 1) 0 _ _ _ hb2
  have y1 : W.cell? ⟨p + 1, 1, none⟩ = some (.slice A' n ca') := cell_of_row W (p + 1) 1 _ _ _ hb2
  have y2 : W.cell? ⟨p + 1, 2, none⟩ = some (.slice B' n cb') := cell_of_row W (p + 1) 2 _ _ _ hb2
  have y3 : W.cell? ⟨p + 1, 3, none⟩ = some (.slice C' n cc') := cell_of_row W (p + 1) 3 _ _ _ hb2
  have de : (ep != ep) = false := by simp
  have dn : ((n : Int) != (n : Int)) = false := by simp
  clear hb1 hb2 hB0 hp hW
  go_wp2_with fail
  go_loopw [5] (fun i wr => ∃ k q : Nat, k ≤ n ∧ i = .int .i64 k ∧ wr = W.drewN q) (fun i _ => n - (intOf i).toNat)
  case atStart => exact ⟨0, 0, Nat.zero_le _, rfl, rfl⟩
  case round =>
    obtain ⟨k, q, hk, rfl, rfl⟩ := hrel
    by_cases hlt : k < n
    · have d0 : decide ((k : Int) < (n : Int)) = true := decide_eq_true (by omega)
      have hkn : (0 : Int) ≤ (k : Int) := by omega
      have hkL : k < (L.map Nd.node).length := by rw [List.length_map, HN.out]; exact hlt
      obtain ⟨b1, o1, hA1, _, _, hx1⟩ := HV.out.ch.cell_ hkL
      obtain ⟨b2, o2, hA2, _, _, hx2⟩ := HW.out.ch.cell_ hkL
      have x1 := hx1 0 _ rfl
      have x2 := hx2 0 _ rfl
      rw [Nat.mul_one, Nat.add_zero] at x1 x2
      obtain ⟨x, hx⟩ : ∃ x, (L.map Nd.node)[k] = x := ⟨_, rfl⟩
      rw [hx] at x1 x2
      have dx : (x != x) = false := by simp
      have hwk : IntKind.i64.wrap ((k : Int) + 1) = (k : Int) + 1 := IntWalk.i64_in _ (by omega)
      subst hA1 hA2
      clear hx1 hx2 hx hkL
      go_upto_region 6 with (fail)
      go_quiet (fail)
      go_wp2_with fail
      go_roundw
      case rel => exact ⟨k + 1, _, hlt, by go_num, rfl⟩
      case measure => simp [intOf]; omega
    · have d0 : decide ((k : Int) < (n : Int)) = false := decide_eq_false (by omega)
      go_wp2_with fail
      go_loopw [6] (fun i wr => ∃ k q : Nat, k ≤ n ∧ i = .int .i64 k ∧ wr = W.drewN q) (fun i _ => n - (intOf i).toNat)
      case atStart => exact ⟨0, q, Nat.zero_le _, rfl, rfl⟩
      case round =>
        obtain ⟨k, q, hk, rfl, rfl⟩ := hrel
        by_cases hlt : k < n
        · have d0 : decide ((k : Int) < (n : Int)) = true := decide_eq_true (by omega)
          have hkn : (0 : Int) ≤ (k : Int) := by omega
          have hkL : k < (L.map Nd.since).length := by rw [List.length_map, HN.out]; exact hlt
          obtain ⟨b1, o1, hA1, _, _, hx1⟩ := HV.out.si.cell_ hkL
          obtain ⟨b2, o2, hA2, _, _, hx2⟩ := HW.out.si.cell_ hkL
          have x1 := hx1 0 _ rfl
          have x2 := hx2 0 _ rfl
          rw [Nat.mul_one, Nat.add_zero] at x1 x2
          obtain ⟨x, hx⟩ : ∃ x, (L.map Nd.since)[k] = x := ⟨_, rfl⟩
          rw [hx] at x1 x2
          have dx : (x != x) = false := by simp
          have hwk : IntKind.i64.wrap ((k : Int) + 1) = (k : Int) + 1 := IntWalk.i64_in _ (by omega)
          subst hA1 hA2
          clear hx1 hx2 hx hkL
          go_upto_region 11 with (fail)
          go_quiet (fail)
          go_wp2_with fail
          go_roundw
          case rel => exact ⟨k + 1, _, hlt, by go_num, rfl⟩
          case measure => simp [intOf]; omega
        · have d0 : decide ((k : Int) < (n : Int)) = false := decide_eq_false (by omega)
          go_wp2_with fail
          go_loopw [7] (fun i wr => ∃ k q : Nat, k ≤ n ∧ i = .int .i64 k ∧ wr = W.drewN q) (fun i _ => n - (intOf i).toNat)
          case atStart => exact ⟨0, q, Nat.zero_le _, rfl, rfl⟩
          case round =>
            obtain ⟨k, q, hk, rfl, rfl⟩ := hrel
            by_cases hlt : k < n
            · have d0 : decide ((k : Int) < (n : Int)) = true := decide_eq_true (by omega)
              have hkn : (0 : Int) ≤ (k : Int) := by omega
              have hkL : k < (L.map Nd.boot).length := by rw [List.length_map, HN.out]; exact hlt
              obtain ⟨b1, o1, hA1, _, _, hx1⟩ := HV.out.bo.cell_ hkL
              obtain ⟨b2, o2, hA2, _, _, hx2⟩ := HW.out.bo.cell_ hkL
              have x1 := hx1 0 _ rfl
              have x2 := hx2 0 _ rfl
              rw [Nat.mul_one, Nat.add_zero] at x1 x2
              obtain ⟨x, hx⟩ : ∃ x, (L.map Nd.boot)[k] = x := ⟨_, rfl⟩
              rw [hx] at x1 x2
              have dx : (x != x) = false := by simp
              have hwk : IntKind.i64.wrap ((k : Int) + 1) = (k : Int) + 1 := IntWalk.i64_in _ (by omega)
              subst hA1 hA2
              clear hx1 hx2 hx hkL
              go_upto_region 16 with (fail)
              go_quiet (fail)
              go_wp2_with fail
              go_roundw
              case rel => exact ⟨k + 1, _, hlt, by go_num, rfl⟩
              case measure => simp [intOf]; omega
            · have d0 : decide ((k : Int) < (n : Int)) = false := decide_eq_false (by omega)
              go_wp2_with fail
              go_ret
              exact ⟨rfl, below_drewN HB0.out _⟩
end Go.Proofs.YtoegdpcfhmjnaaaDoor

/- The master takes a Beat of a node of the view. Under the stated premises on sizes. -/
namespace Go.Proofs.YtoegdpcfhmjnaaaDoor
open Go.RowKit Go.Bl
attribute [local go_sem ↓] Go.wp_at_zero Go.wp_at_succ

theorem as_beat (v : Value) (xT : TypeId) (w : World) : (Instr.typeAssert (.iface 41 v) xT 41 true).run Tryd.prog w = .ok (.tuple #[v, .bool true]) w := by
  simp [Instr.typeAssert, run_underlying Tryd.underlying41]
theorem BeatR.lower {X : Nat → Prop} {w w1 w' : World} {m p : Nat} {room fail : Int} {vs : List Vw} {s : Ms} {c : Nat} {node epoch frm now : Int} {os : List OutE} (h : BeatR X w1 w' m p room fail vs s c node epoch frm now os) (hs : w.heap.size ≤ w1.heap.size) : BeatR X w w' m p room fail vs s c node epoch frm now os := by
  unfold BeatR at h ⊢
  split at h
  · rw [if_pos (by assumption)]
    exact h
  · rw [if_neg (by assumption)]
    split at h
    · rw [if_pos (by assumption)]
      obtain ⟨⟨o, h1, h2, h3⟩, h4⟩ := h
      exact ⟨⟨o, h1, h2, h3.mono fun k _ hk => Nat.le_trans hs hk⟩, h4⟩
    · rw [if_neg (by assumption)]
      exact h
set_option maxRecDepth 8000 in
set_option maxHeartbeats 4000000 in
theorem takeB_any {X : Nat → Prop} {w : World} {m p : Nat} {room fail : Int} {vs : List Vw} {s : Ms} {c : Nat} (h : Mst X w m p room fail vs s c) (hc : c < 999999999) (node epoch last frm now : Int) (hk : frm ∈ s.v.nodes) (hn0 : 0 ≤ now) (hn1 : now ≤ 1000000000000000) (hf0 : 4 ≤ fail) (hf1 : fail ≤ 1073741824) :
    Calls Tryd.prog 8 #[.pointer (some ⟨m, 0, none⟩), .int .i64 frm, .iface 41 (.agg #[.int .i64 node, .int .i64 epoch, .int .i64 last]), .int .i64 now] w fun e w' => ∃ v os, e = .returned v ∧ Sl w' (fun k => w.heap.size ≤ k) 2 outc v os ∧ BeatR X w w' m p room fail vs s c node epoch frm now os ∧ Kx X w w' := by
  have hB0 : Below w.heap.size w (w.alloc (.cells #[.int .i64 node, .int .i64 epoch, .int .i64 last] 41)) := (Below.refl _ w).alloc (Nat.le_refl _) _
  have hblk := heap_alloc_new w (.cells #[.int .i64 node, .int .i64 epoch, .int .i64 last] 41)
  have hin := in_any (h.fresh hB0) frm
  have H0 := Lib.hid (h.fresh hB0)
  have HB0 := Lib.hid hB0
  have HK0 := Lib.hid hblk
  have HKN := Lib.hid hk
  rw [decide_eq_true hk] at hin
  have HIN := Lib.hid hin
  clear h hB0 hblk hin hk
  have h2 := as_beat (.agg #[.int .i64 node, .int .i64 epoch, .int .i64 last]) 64 w
  go_enter Tryd.func8, Tryd.ntmps8
  go_upto_region 2 with (fail)
  clear h2
  obtain ⟨g, hg⟩ : ∃ g, w.heap.size = g := ⟨_, rfl⟩
  have HG := Lib.hid hg
  rw [hg] at HK0 ⊢
  generalize w.alloc (.cells #[.int .i64 node, .int .i64 epoch, .int .i64 last] 41) = w1 at HB0 HK0 H0 HIN ⊢
  have k0 : w1.cell? ⟨g, 0, none⟩ = some (.int .i64 node) := cell_of_row w1 g 0 _ _ _ HK0.out
  have k1 : w1.cell? ⟨g, 1, none⟩ = some (.int .i64 epoch) := cell_of_row w1 g 1 _ _ _ HK0.out
  have k2 : w1.cell? ⟨g, 2, none⟩ = some (.int .i64 last) := cell_of_row w1 g 2 _ _ _ HK0.out
  have HBE := Lib.hid (beat_any H0.out hc node epoch last frm now HKN.out hn0 hn1 hf0 hf1)
  clear hg
  go_wp2_with fail
  refine HIN.out.mono ?_
  rintro e w2 ⟨rfl, rfl⟩
  go_wp2_with fail
  refine HBE.out.mono ?_
  rintro e w3 ⟨v, os, rfl, hS, hR, hK⟩
  have HR := Lib.hid (And.intro hS (And.intro hR hK))
  clear hS hR hK k0 k1 k2
  go_wp2_with fail
  go_ret
  obtain ⟨hS, hR, hK⟩ := HR.out
  exact ⟨_, os, rfl, hS.mono fun k _ hk => Nat.le_trans HB0.out.size hk, hR.lower HB0.out.size, (Kx.of_below HB0.out).trans hK⟩
end Go.Proofs.YtoegdpcfhmjnaaaDoor

/- The law of the master: shown. Under the stated premises on sizes. -/
namespace Go.Proofs.YtoegdpcfhmjnaaaDoor
open Go.RowKit Go.Bl
attribute [local go_sem ↓] Go.wp_at_zero Go.wp_at_succ

/-- A block of numbers reads as the list of them. -/
theorem Sl.ints {w : World} {g : Nat} {cs : Array Value} {e : TypeId} {fr : Nat × Nat} {l : List Int} (hg : w.heap[g]? = some (.cells cs e fr)) (hc : cs.toList = l.map fun n => .int .i64 n) (hl : l.length ≤ 1000000) :
    Sl w (fun b => b = g) 1 intc (.slice (some ⟨g, 0, none⟩) l.length l.length) l := by
  refine ⟨_, _, rfl, Nat.le_refl _, by unfold maxLen; omega, fun _ => ⟨g, 0, rfl, rfl, (Array.getElem?_eq_some_iff.1 hg).1, fun i hi j u hu => ?_⟩⟩
  have hj : j = 0 := by
    cases j with
    | zero => rfl
    | succ j => simp [intc] at hu
  subst hj
  have hu : Value.int .i64 l[i] = u := by simpa [intc] using hu
  rw [← hu, Nat.mul_one, Nat.add_zero, Nat.zero_add]
  have h1 : cs[i]? = some (.int .i64 l[i]) := by
    rw [← Array.getElem?_toList, hc, List.getElem?_map, List.getElem?_eq_getElem hi]
    rfl
  have := cell_of_row w g i _ _ _ hg
  exact this.trans h1
def sh0 : Ms := ⟨v0 [1, 2], fun _ => 0, fun _ => 0⟩
def sh1 : Ms := (sh0.hear 1 5).makeReady 1 1
theorem sh1_heard : Heard sh1 11 := fun k _ => by
  show 0 ≤ (if k = 1 then (5 : Int) else 0) ∧ (if k = 1 then (5 : Int) else 0) ≤ 11
  split <;> omega
set_option maxRecDepth 8000 in
set_option maxHeartbeats 4000000 in
theorem shown_any {w : World} (hT : Tabs w) : Calls Tryd.prog 4 #[] w fun e w' => e = .returned (.bool true) ∧ Below w.heap.size w w' := by
  have hbg := begunQ hT 1000 (by omega) (by omega)
  have HT := Lib.hid hT
  have HBG := Lib.hid hbg
  clear hT hbg
  go_enter Tryd.func4, Tryd.ntmps4
  go_wp2_with fail
  refine HBG.out.mono ?_
  rintro e w1 ⟨p, pm, rfl, hQ1, hB1⟩
  have HQ1 := Lib.hid hQ1
  have HB1 := Lib.hid hB1
  clear hQ1 hB1
  go_upto_region 4 with (fail)
  have hk2 := heap_alloc_new w1 (.cells #[.pointer (some ⟨p, 0, none⟩), .pointer (some ⟨pm, 0, none⟩)] 27)
  have hB2 := HB1.out.alloc HB1.out.size (.cells #[.pointer (some ⟨p, 0, none⟩), .pointer (some ⟨pm, 0, none⟩)] 27)
  have hb2 : Below w1.heap.size w1 (w1.alloc (.cells #[.pointer (some ⟨p, 0, none⟩), .pointer (some ⟨pm, 0, none⟩)] 27)) := (Below.refl _ w1).alloc (Nat.le_refl _) _
  have hQ2 := HQ1.out.fresh hb2
  obtain ⟨g, hg⟩ : ∃ g, w1.heap.size = g := ⟨_, rfl⟩
  rw [hg] at hk2 ⊢
  generalize w1.alloc (.cells #[.pointer (some ⟨p, 0, none⟩), .pointer (some ⟨pm, 0, none⟩)] 27) = w2 at hk2 hB2 hb2 hQ2 ⊢
  have k0 : w2.cell? ⟨g, 0, none⟩ = some (.pointer (some ⟨p, 0, none⟩)) := cell_of_row w2 g 0 _ _ _ hk2
  have hk3 := heap_alloc_new w2 (.cells #[.int .i64 1, .int .i64 2] 3)
  have hb3 : Below w2.heap.size w2 (w2.alloc (.cells #[.int .i64 1, .int .i64 2] 3)) := (Below.refl _ w2).alloc (Nat.le_refl _) _
  have hsl := Sl.ints (l := [1, 2]) hk3 rfl (by decide)
  have hon := open_new (hQ2.fresh hb3) (.slice (some ⟨w2.heap.size, 0, none⟩) 2 2) [1, 2] hsl (by decide) 10 0 (by omega) (by omega)
  have HON := Lib.hid hon
  have HB3 := Lib.hid (hB2.trans (hb3.mono hB2.size))
  clear hk2 hB2 hb2 hQ2 hg hk3 hb3 hsl hon
  go_wp2_with fail
  refine HON.out.mono ?_
  rintro e w4 hO
  have hR0 : RightV (v0 [1, 2]) := rightV_iff.1 (by decide)
  obtain ⟨m, rfl, hM, hK⟩ := hO.1 ⟨by omega, by omega, hR0⟩
  have HB4 := Lib.hid (HB3.out.trans ((Kx.below (X := fun k => k < w.heap.size) (B := w.heap.size) hK (fun _ h => h) HB3.out.size)))
  have hTB := takeB_any hM (by omega) 1 1 0 1 5 (by decide) (by omega) (by omega) (by omega) (by omega)
  have HTB := Lib.hid hTB
  clear hO hR0 hM hK hTB k0
  go_wp2_with fail
  refine HTB.out.mono ?_
  rintro e w5 ⟨v, os, rfl, hS5, hR5, hK5⟩
  unfold BeatR at hR5
  rw [if_neg (by decide), if_neg (by decide)] at hR5
  obtain ⟨rfl, hM5⟩ := hR5
  obtain ⟨lA, lc, rfl, _, _⟩ := hS5.shape_ (n := 1) rfl
  have HB5 := Lib.hid (HB4.out.trans ((Kx.below (X := fun k => k < w.heap.size) (B := w.heap.size) hK5 (fun _ h => h) HB4.out.size)))
  have hTK := tick_any (s := sh1) hM5 11 sh1_heard (by omega) (by decide) (.inr (by decide))
  have HTK := Lib.hid hTK
  clear hS5 hM5 hK5 hTK
  go_wp2_with fail
  refine HTK.out.mono ?_
  rintro e w6 ⟨v6, os6, vs6, rfl, hS6, _, hM6, hK6⟩
  have HB6 := Lib.hid (HB5.out.trans ((Kx.below (X := fun k => k < w.heap.size) (B := w.heap.size) hK6 (fun _ h => h) HB5.out.size)))
  obtain ⟨s2, hs2⟩ : ∃ s2, sh1.tickF 10 11 sh1.v.L.length = s2 := ⟨_, rfl⟩
  rw [hs2] at hM6
  have hsv : s2.v = ⟨2, [⟨1, 1, 0⟩]⟩ := by rw [← hs2]; rfl
  have hsh : s2.hd 1 = 5 := by rw [← hs2]; decide
  have hvi := view_any hM6
  rw [hsv] at hvi
  have HVI := Lib.hid hvi
  have HM6 := Lib.hid hM6
  have HSV := Lib.hid hsv
  have HSH := Lib.hid hsh
  clear hS6 hM6 hK6 hs2 hsv hsh hvi
  go_wp2_with fail
  refine HVI.out.mono ?_
  rintro e w7 ⟨a', b', c', rfl, hV7, hB7⟩
  obtain ⟨A7, a7, B7, b7, C7, c7, rfl, rfl, rfl, _⟩ := hV7.shape
  have HV7 := Lib.hid hV7
  have HB7 := Lib.hid hB7
  clear hV7 hB7
  go_wp2_with fail
  refine (asV_any _ 2 _ _ _ _ _ _ _).mono ?_
  rintro e w8 ⟨rfl, hB8⟩
  have HV8 := Lib.hid (HV7.out.fresh hB8)
  have HM8 := Lib.hid ((HM6.out.fresh HB7.out).fresh hB8)
  have HB8 := Lib.hid ((HB6.out.trans (HB7.out.mono HB6.out.size)).trans (hB8.mono (Nat.le_trans HB6.out.size HB7.out.size)))
  clear hB8
  obtain ⟨W, hW⟩ : ∃ W, ((w8.alloc (.cells #[.int .i64 1] 3)).alloc (.cells #[.int .i64 1] 3)).alloc (.cells #[.int .i64 0] 3) = W := ⟨_, rfl⟩
  have hBW : Below w8.heap.size w8 W := hW ▸ ((((Below.refl _ w8).alloc (Nat.le_refl _) _).alloc (by simp) _).alloc (by rw [World.size_alloc, World.size_alloc]; omega) _)
  have e1 : W.heap[w8.heap.size]? = some (.cells #[.int .i64 1] 3 (0, 0)) := hW ▸ (Below.heap_alloc _ _ _ (by rw [World.size_alloc, World.size_alloc]; omega)).trans ((Below.heap_alloc _ _ _ (by simp)).trans (heap_alloc_new w8 _))
  have e2 : W.heap[w8.heap.size + 1]? = some (.cells #[.int .i64 1] 3 (0, 0)) := by
    have := heap_alloc_new (w8.alloc (.cells #[.int .i64 1] 3)) (.cells #[.int .i64 1] 3)
    rw [World.size_alloc] at this
    exact hW ▸ (Below.heap_alloc _ _ _ (by rw [World.size_alloc, World.size_alloc]; omega)).trans this
  have e3 : W.heap[w8.heap.size + 1 + 1]? = some (.cells #[.int .i64 0] 3 (0, 0)) := by
    have := heap_alloc_new ((w8.alloc (.cells #[.int .i64 1] 3)).alloc (.cells #[.int .i64 1] 3)) (.cells #[.int .i64 0] 3)
    rw [World.size_alloc, World.size_alloc] at this
    exact hW ▸ this
  have hVW : VwSl W (fun _ => True) [⟨1, 1, 0⟩] (.slice (some ⟨w8.heap.size, 0, none⟩) 1 1) (.slice (some ⟨w8.heap.size + 1, 0, none⟩) 1 1) (.slice (some ⟨w8.heap.size + 1 + 1, 0, none⟩) 1 1) :=
    ⟨(Sl.single (enc := intc) (x := 1) e1 rfl).mono fun _ _ _ => trivial, (Sl.single (enc := intc) (x := 1) e2 rfl).mono fun _ _ _ => trivial, (Sl.single (enc := intc) (x := 0) e3 rfl).mono fun _ _ _ => trivial⟩
  have hSA := sameV_eq W 2 [⟨1, 1, 0⟩] _ _ _ _ _ _ (HV8.out.fresh hBW) hVW
  have HSA := Lib.hid hSA
  have HBW := Lib.hid hBW
  clear e1 e2 e3 hVW hSA hBW
  go_wp2_with fail
  refine HSA.out.mono ?_
  rintro e w9 ⟨rfl, hB9⟩
  have HM9 := Lib.hid ((HM8.out.fresh HBW.out).fresh hB9)
  have HB9 := Lib.hid ((HB8.out.trans (HBW.out.mono HB8.out.size)).trans (hB9.mono (Nat.le_trans HB8.out.size HBW.out.size)))
  have h1 := heardM_any HM9.out 1
  have h2 := heardM_any HM9.out 2
  rw [if_pos (by rw [HSV.out]; decide), HSH.out] at h1
  rw [if_neg (by rw [HSV.out]; decide)] at h2
  have H1 := Lib.hid h1
  have H2 := Lib.hid h2
  clear h1 h2 hB9 hW
  go_wp2_with fail
  refine H1.out.mono ?_
  rintro e wa ⟨rfl, rfl⟩
  go_wp2_with fail
  refine H2.out.mono ?_
  rintro e wa ⟨rfl, rfl⟩
  go_wp2_with fail
  go_ret
  exact ⟨rfl, HB9.out⟩
end Go.Proofs.YtoegdpcfhmjnaaaDoor

/- Who is silent is taken out: the plain law of MasterSilent. No condition beyond the stated ones. -/
namespace Go.Proofs.YtoegdpcfhmjnaaaDoor
open Go.RowKit Go.Bl

/-- Amid a round: the first k have said something. -/
structure Bt (first : List Int) (sil now : Int) (s : Ms) (k : Nat) (s' : Ms) : Prop where
  v : s'.v = s.v
  hs : s'.hd sil = s.hd sil
  ok : ∀ x ∈ first.take k, x ≠ sil → s'.hd x = now ∧ 0 < s'.rd x
  hd : ∀ x, s'.hd x = s.hd x ∨ s'.hd x = now
theorem Bt.start (first : List Int) (sil now : Int) (s : Ms) : Bt first sil now s 0 s := ⟨rfl, rfl, fun x h => by simp at h, fun _ => .inl rfl⟩
theorem take_mem {first : List Int} {k : Nat} {x y : Int} (hk : first[k]? = some y) (h : x ∈ first.take (k + 1)) : x ∈ first.take k ∨ x = y := by
  obtain ⟨hl, rfl⟩ := List.getElem?_eq_some_iff.1 hk
  rw [List.take_succ_eq_append_getElem hl, List.mem_append, List.mem_singleton] at h
  exact h
theorem Bt.skip {first : List Int} {sil now : Int} {s s' : Ms} {k : Nat} (h : Bt first sil now s k s') (hk : first[k]? = some sil) : Bt first sil now s (k + 1) s' :=
  ⟨h.v, h.hs, fun x hx hn => (take_mem hk hx).elim (fun h1 => h.ok x h1 hn) fun e => absurd e hn, h.hd⟩
theorem Bt.beat {first : List Int} {sil now : Int} {s s' : Ms} {k : Nat} {y e : Int} (h : Bt first sil now s k s') (hk : first[k]? = some y) (hy : y ≠ sil) (he : 1 ≤ e) : Bt first sil now s (k + 1) ((s'.hear y now).makeReady y e) := by
  refine ⟨h.v, ?_, fun x hx hn => ?_, fun x => ?_⟩
  · show (if sil = y then now else s'.hd sil) = _
    rw [if_neg (fun e => hy e.symm)]
    exact h.hs
  · show (if x = y then now else s'.hd x) = now ∧ 0 < if x = y then e else s'.rd x
    by_cases e2 : x = y
    · rw [if_pos e2, if_pos e2]; exact ⟨rfl, by omega⟩
    · rw [if_neg e2, if_neg e2]
      exact h.ok x ((take_mem hk hx).resolve_right e2) hn
  · show (if x = y then now else s'.hd x) = _ ∨ (if x = y then now else s'.hd x) = now
    by_cases e2 : x = y
    · rw [if_pos e2]; exact .inr rfl
    · rw [if_neg e2]; exact h.hd x
/-- What holds when r rounds are over. -/
structure Sil (first : List Int) (sil fail : Int) (r : Nat) (s : Ms) : Prop where
  hd : ∀ x, 0 ≤ s.hd x ∧ s.hd x ≤ r * fail
  c : (s.v = v0 first ∧ s.hd sil = 0 ∧ (r ≤ 1 ∨ first.length = 1)) ∨ (2 ≤ r ∧ 2 ≤ first.length ∧ s.v = (v0 first).cutN sil)
theorem v0_nodes (first : List Int) : (v0 first).nodes = first := v0_node first
theorem Sil.start (first : List Int) (sil fail : Int) : Sil first sil fail 0 ⟨v0 first, fun _ => 0, fun _ => 0⟩ := ⟨fun _ => ⟨Int.le_refl _, by simp⟩, .inl ⟨rfl, rfl, .inl (by omega)⟩⟩
theorem Sil.right {first : List Int} {sil fail : Int} {r : Nat} {s : Ms} (h : Sil first sil fail r s) (hr : RightV (v0 first)) (hs : sil ∈ first) : RightV s.v := by
  rcases h.c with ⟨h1, _⟩ | ⟨_, h1, h2⟩
  · rw [h1]; exact hr
  · rw [h2]
    exact hr.cutN (by rw [v0_nodes]; exact hs) (by show (first.map _).length ≠ 1; rw [List.length_map]; omega) (by show (1 : Int) ≠ _; decide)
theorem Sil.mem {first : List Int} {sil fail : Int} {r : Nat} {s : Ms} (h : Sil first sil fail r s) {x : Int} (hx : x ∈ first) (hn : x ≠ sil) : x ∈ s.v.nodes := by
  rcases h.c with ⟨h1, _⟩ | ⟨_, _, h2⟩
  · rw [h1, v0_nodes]; exact hx
  · rw [h2]; exact (cutN_nodes _ _ _).2 ⟨by rw [v0_nodes]; exact hx, hn⟩
theorem Sil.ep {first : List Int} {sil fail : Int} {r : Nat} {s : Ms} (h : Sil first sil fail r s) : 1 ≤ s.v.ep ∧ s.v.ep ≤ 2 := by
  rcases h.c with ⟨h1, _⟩ | ⟨_, _, h2⟩
  · rw [h1]; exact ⟨Int.le_refl 1, by show (1 : Int) ≤ 2; omega⟩
  · rw [h2]; exact ⟨by show (1 : Int) ≤ 1 + 1; omega, by show (1 : Int) + 1 ≤ 2; omega⟩
/-- What a round tells of the view, as the law asks it. -/
def SilOk (first : List Int) (sil fail now : Int) (s : Ms) : Prop := (decide (sil ∈ s.v.nodes) = (decide (now ≤ fail) || decide (first.length = 1))) ∧ first.length ≤ s.v.L.length + 1 ∧ 1 ≤ s.v.L.length
theorem none_of {s : Ms} {fail now : Int} (h : ∀ x ∈ s.v.nodes, s.silent fail now x = false) : s.v.nodes.find? (s.silent fail now) = none := List.find?_eq_none.2 fun x hx => by rw [h x hx]; simp
theorem not_late {s : Ms} {fail now x : Int} (hf : 0 ≤ fail) (h : s.hd x = now) : s.silent fail now x = false := by
  unfold Ms.silent
  rw [h, decide_eq_false (by omega), Bool.false_and]
/-- A round. -/
theorem Sil.round {first : List Int} {sil fail : Int} {r : Nat} {s s' : Ms} (h : Sil first sil fail r s) (hr : RightV (v0 first)) (hs : sil ∈ first) (hf : 4 ≤ fail) (hb : Bt first sil ((r + 1 : Nat) * fail) s first.length s') :
    ∃ s2, s'.tickF fail ((r + 1 : Nat) * fail) s'.v.L.length = s2 ∧ Sil first sil fail (r + 1) s2 ∧ SilOk first sil fail ((r + 1 : Nat) * fail) s2 := by
  have hmul : ((r + 1 : Nat) : Int) * fail = r * fail + fail := by rw [Int.natCast_add, Int.add_mul]; simp
  have hrf : 0 ≤ (r : Int) * fail := Int.mul_nonneg (by omega) (by omega)
  obtain ⟨now, hnow⟩ : ∃ now : Int, ((r + 1 : Nat) : Int) * fail = now := ⟨_, rfl⟩
  rw [hnow] at hb hmul ⊢
  have hall : ∀ x ∈ first, x ≠ sil → s'.hd x = now ∧ 0 < s'.rd x := fun x hx hn => hb.ok x (by rw [List.take_of_length_le (Nat.le_refl _)]; exact hx) hn
  have hhd : ∀ x, 0 ≤ s'.hd x ∧ s'.hd x ≤ now := fun x => by
    have := h.hd x
    rcases hb.hd x with e | e <;> rw [e] <;> omega
  have hlen : (v0 first).L.length = first.length := List.length_map _
  rcases h.c with ⟨h1, h2, h3⟩ | ⟨h1, h2, h3⟩
  · have hv : s'.v = v0 first := hb.v.trans h1
    have h0 : s'.hd sil = 0 := hb.hs.trans h2
    have hlp : 1 ≤ first.length := List.length_pos_iff.2 (List.ne_nil_of_mem hs)
    have hkeep : (∀ x ∈ s'.v.nodes, s'.silent fail now x = false) → (r = 0 ∨ first.length = 1) → ∃ s2, s'.tickF fail now s'.v.L.length = s2 ∧ Sil first sil fail (r + 1) s2 ∧ SilOk first sil fail now s2 := fun hno hc => by
      refine ⟨s', tickF_none (none_of hno) _, ⟨fun x => ?_, .inl ⟨hv, h0, ?_⟩⟩, ?_, ?_, ?_⟩
      · rw [hnow]; exact hhd x
      · rcases hc with e | e
        · exact .inl (by omega)
        · exact .inr e
      · rw [hv, v0_nodes, decide_eq_true hs]
        rcases hc with e | e
        · rw [decide_eq_true (show now ≤ fail by subst e; simp at hmul; omega)]; rfl
        · rw [decide_eq_true e, Bool.or_true]
      · rw [hv, hlen]; omega
      · rw [hv, hlen]; omega
    by_cases hr0 : r = 0
    · refine hkeep (fun x hx => ?_) (.inl hr0)
      by_cases e : x = sil
      · unfold Ms.silent
        rw [e, h0, decide_eq_false (show ¬ fail < now - 0 by subst hr0; simp at hmul; omega), Bool.false_and]
      · rw [hv, v0_nodes] at hx
        exact not_late (by omega) (hall x hx e).1
    · by_cases hn1 : first.length = 1
      · refine hkeep (fun x hx => ?_) (.inr hn1)
        obtain ⟨y, hy⟩ := List.length_eq_one_iff.1 hn1
        have hsy : sil = y := by rw [hy] at hs; simpa using hs
        rw [hv, v0_nodes, hy] at hx
        have hxy : x = y := by simpa using hx
        unfold Ms.silent Ms.others
        rw [hv, v0_nodes, hy]
        simp [hxy]
      · have hr1 : r = 1 := by
          rcases h3 with h3 | h3
          · omega
          · exact absurd h3 hn1
        have hlate : s'.silent fail now sil = true := by
          unfold Ms.silent Ms.others
          rw [Bool.and_eq_true, decide_eq_true_eq]
          refine ⟨by rw [h0]; subst hr1; simp at hmul; omega, ?_⟩
          rw [hv, v0_nodes]
          have hnd := hr.nodup
          rw [v0_nodes] at hnd
          obtain ⟨y, hy, hys⟩ : ∃ y ∈ first, y ≠ sil := by
            cases first with
            | nil => cases hs
            | cons a l =>
              cases l with
              | nil => exact absurd rfl hn1
              | cons b l =>
                by_cases e : a = sil
                · refine ⟨b, by simp, fun e2 => ?_⟩
                  rw [List.nodup_cons] at hnd
                  exact hnd.1 (by rw [e, ← e2]; simp)
                · exact ⟨a, by simp, e⟩
          refine List.any_eq_true.2 ⟨y, hy, ?_⟩
          rw [Bool.and_eq_true, decide_eq_true_eq, decide_eq_true_eq]
          exact ⟨hys, (hall y hy hys).2⟩
        have hfind : s'.v.nodes.find? (s'.silent fail now) = some sil := by
          cases hf2 : s'.v.nodes.find? (s'.silent fail now) with
          | none =>
            have := List.find?_eq_none.1 hf2 sil (by rw [hv, v0_nodes]; exact hs)
            exact absurd hlate this
          | some x =>
            obtain ⟨hx1, hx2⟩ := find_node hf2
            by_cases e : x = sil
            · rw [e]
            · rw [hv, v0_nodes] at hx1
              rw [not_late (by omega) (hall x hx1 e).1] at hx2
              cases hx2
        obtain ⟨f, hfl⟩ : ∃ f, s'.v.L.length = f + 1 := ⟨s'.v.L.length - 1, by rw [hv, hlen]; omega⟩
        have hov : (s'.out sil).v = (v0 first).cutN sil := by show s'.v.cutN sil = _; rw [hv]
        have hcl := cut_len hr (show sil ∈ (v0 first).nodes by rw [v0_nodes]; exact hs)
        refine ⟨s'.out sil, ?_, ⟨fun x => ?_, .inr ⟨by omega, by omega, hov⟩⟩, ?_, ?_, ?_⟩
        · rw [hfl, tickF_some hfind (by rw [hv]; show (1 : Int) ≠ _; decide)]
          refine tickF_none (none_of fun x hx => ?_) _
          rw [hov] at hx
          obtain ⟨hx1, hx2⟩ := (cutN_nodes _ _ _).1 hx
          rw [v0_nodes] at hx1
          exact not_late (s := s'.out sil) (by omega) (hall x hx1 hx2).1
        · rw [hnow]; exact hhd x
        · rw [hov, decide_eq_false (fun hx => ((cutN_nodes _ _ _).1 hx).2 rfl), decide_eq_false (show ¬ now ≤ fail by subst hr1; simp at hmul; omega), decide_eq_false hn1]
          rfl
        · rw [hov]; omega
        · rw [hov]; omega
  · have hv : s'.v = (v0 first).cutN sil := hb.v.trans h3
    have hcl := cut_len hr (show sil ∈ (v0 first).nodes by rw [v0_nodes]; exact hs)
    refine ⟨s', tickF_none (none_of fun x hx => ?_) _, ⟨fun x => ?_, .inr ⟨by omega, h2, hv⟩⟩, ?_, ?_, ?_⟩
    · rw [hv] at hx
      obtain ⟨hx1, hx2⟩ := (cutN_nodes _ _ _).1 hx
      rw [v0_nodes] at hx1
      exact not_late (by omega) (hall x hx1 hx2).1
    · rw [hnow]; exact hhd x
    · have h2f : fail < now := by
        have : fail ≤ (r : Int) * fail := by
          have := Int.mul_le_mul_of_nonneg_right (show (1 : Int) ≤ r by omega) (show 0 ≤ fail by omega)
          omega
        omega
      rw [hv, decide_eq_false (fun hx => ((cutN_nodes _ _ _).1 hx).2 rfl), decide_eq_false (by omega), decide_eq_false (show ¬ first.length = 1 by omega)]
      rfl
    · rw [hv]; omega
    · rw [hv]; omega
end Go.Proofs.YtoegdpcfhmjnaaaDoor

namespace Go.Proofs.YtoegdpcfhmjnaaaDoor
open Go.RowKit Go.Bl
attribute [local go_sem ↓] Go.wp_at_zero Go.wp_at_succ

theorem fld0 (ep : Int) (A B C : Option Addr) (n a b c : Nat) (w : World) : (Instr.field 38 (.agg #[.int .i64 ep, .slice A n a, .slice B n b, .slice C n c]) 0).run Tryd.prog w = .ok (.int .i64 ep) w := by kernel_rfl
theorem fld1 (ep : Int) (A B C : Option Addr) (n a b c : Nat) (w : World) : (Instr.field 38 (.agg #[.int .i64 ep, .slice A n a, .slice B n b, .slice C n c]) 1).run Tryd.prog w = .ok (.slice A n a) w := by kernel_rfl
/-- A round of the law. -/
def LawR (X : Nat → Prop) (w : World) (m p : Nat) (fail : Int) (first : List Int) (sil : Int) (R : Nat) (nw rr : Value) (wr : World) : Prop :=
  ∃ (r : Nat) (s : Ms) (vs : List Vw) (c : Nat), rr = .int .i64 r ∧ nw = .int .i64 ((r : Int) * fail) ∧ r ≤ R ∧ Mst X wr m p 100000 fail vs s c ∧ c ≤ 6 + 12 * r ∧ Sil first sil fail r s ∧ Below w.heap.size w wr
/-- Amid it. -/
def LawI (X : Nat → Prop) (w : World) (m p : Nat) (fail : Int) (first : List Int) (sil now : Int) (r : Nat) (s : Ms) (i : Value) (wr : World) : Prop :=
  ∃ (k : Nat) (s' : Ms) (vs : List Vw) (c : Nat), i = .int .i64 k ∧ k ≤ first.length ∧ Mst X wr m p 100000 fail vs s' c ∧ c ≤ 6 + 12 * r + 2 * k ∧ Bt first sil now s k s' ∧ Below w.heap.size w wr
set_option maxRecDepth 20000 in
set_option maxHeartbeats 8000000 in
theorem silent_law {F : Nat → Prop} (w : World) (hT : Tabs w) (fv : Value) (first : List Int) (hf : Sl w F 1 intc fv first) (fail who rounds : Int) (hw : i64 who) (hr : i64 rounds) :
    Calls Tryd.prog 3 #[fv, .int .i64 fail, .int .i64 who, .int .i64 rounds] w fun e w' => e = .returned (.bool true) ∧ Below w.heap.size w w' := by
  obtain ⟨fA, fc, rfl, hfa, hfb⟩ := hf.shape_ (n := first.length) rfl
  obtain ⟨n, hn⟩ : ∃ n, first.length = n := ⟨_, rfl⟩
  rw [hn] at hf hfa ⊢
  have HN := Lib.hid hn
  have HF := Lib.hid hf
  have HW := Lib.hid hw
  have HR := Lib.hid hr
  have HSH := Lib.hid (shown_any hT)
  have HT := Lib.hid hT
  have hfe := fld0
  have hfc := fld1
  clear hf hT hn hw hr
  go_enter Tryd.func3, Tryd.ntmps3
  go_wp2_with fail
  refine HSH.out.mono ?_
  rintro e w1 ⟨rfl, hB1⟩
  have hbg := begunQ (HT.out.fresh hB1) 100000 (by omega) (by omega)
  have HBG := Lib.hid hbg
  have HB1 := Lib.hid hB1
  clear hbg hB1
  go_wp2_with fail
  refine HBG.out.mono ?_
  rintro e w2 ⟨p, pm, rfl, hQ2, hB2⟩
  obtain ⟨X, hX⟩ : ∃ X : Nat → Prop, (fun k => k < w1.heap.size) = X := ⟨_, rfl⟩
  have HX : Hid (∀ k, k < w.heap.size → X k) := Lib.hid fun k hk => by rw [← hX]; exact Nat.lt_of_lt_of_le hk HB1.out.size
  rw [hX] at hQ2
  have HQ2 := Lib.hid hQ2
  have HB2 := Lib.hid (HB1.out.trans (hB2.mono HB1.out.size))
  clear hQ2 hB2 hX
  by_cases hl : 20 < n
  · have d1 : decide ((20 : Int) < (n : Int)) = true := decide_eq_true (by omega)
    go_wp2_with fail
    go_ret
    exact ⟨rfl, HB2.out.alloc HB2.out.size _⟩
  have d1 : decide ((20 : Int) < (n : Int)) = false := decide_eq_false (by omega)
  go_upto_region 5 with (fail)
  have hk3 := heap_alloc_new w2 (.cells #[.pointer (some ⟨p, 0, none⟩), .pointer (some ⟨pm, 0, none⟩)] 27)
  have hb3 : Below w2.heap.size w2 (w2.alloc (.cells #[.pointer (some ⟨p, 0, none⟩), .pointer (some ⟨pm, 0, none⟩)] 27)) := (Below.refl _ w2).alloc (Nat.le_refl _) _
  obtain ⟨g, hg⟩ : ∃ g, w2.heap.size = g := ⟨_, rfl⟩
  rw [hg] at hk3 ⊢
  generalize w2.alloc (.cells #[.pointer (some ⟨p, 0, none⟩), .pointer (some ⟨pm, 0, none⟩)] 27) = w3 at hk3 hb3 ⊢
  have k0 : w3.cell? ⟨g, 0, none⟩ = some (.pointer (some ⟨p, 0, none⟩)) := cell_of_row w3 g 0 _ _ _ hk3
  have HB3 := Lib.hid (HB2.out.trans (hb3.mono HB2.out.size))
  have hon := open_new (HQ2.out.fresh hb3) (.slice fA n fc) first (HF.out.fresh HB3.out) (by rw [HN.out]; omega) fail 0 (by omega) (by omega)
  have HON := Lib.hid hon
  clear hk3 hb3 hg hon
  go_wp2_with fail
  refine HON.out.mono ?_
  rintro e w4 hO
  by_cases hc : 4 ≤ fail ∧ fail ≤ 1073741824 ∧ RightV (v0 first)
  · obtain ⟨m, rfl, hM, hK⟩ := hO.1 hc
    obtain ⟨hf4, hf5, hrv⟩ := hc
    have HRV := Lib.hid hrv
    have HM := Lib.hid hM
    have HB4 := Lib.hid (HB3.out.trans (Kx.below hK HX.out HB3.out.size))
    have hn1 : 1 ≤ n := by have := hrv.n1; rw [show (v0 first).L.length = n from (List.length_map _).trans HN.out] at this; exact this
    have hn6 : n ≤ 6 := by have := hrv.n2; rw [show (v0 first).L.length = n from (List.length_map _).trans HN.out] at this; exact this
    have hpw := pickOf_range who (n := (n : Int)) (by omega)
    have HPW := Lib.hid (pick_any w4 who n HW.out (by omega))
    obtain ⟨J, hJ⟩ : ∃ J, pickOf who n = J := ⟨_, rfl⟩
    rw [hJ] at HPW hpw
    obtain ⟨j, rfl⟩ : ∃ j : Nat, J = (j : Int) := ⟨J.toNat, by omega⟩
    have hjn : j < n := by omega
    obtain ⟨b, o, hfe, _, hbl, hxx⟩ := HF.out.cell_ (show j < first.length by rw [HN.out]; exact hjn)
    subst hfe
    obtain ⟨sil, hsil⟩ : ∃ x, first[j]'(by rw [HN.out]; exact hjn) = x := ⟨_, rfl⟩
    have x0 := hxx 0 _ rfl
    rw [Nat.mul_one, Nat.add_zero, hsil] at x0
    have x0 := (HB4.out.cell (p := ⟨b, o + j, none⟩) (World.block_lt_of_cell? _ _ x0)).trans x0
    have HSM : Hid (sil ∈ first) := Lib.hid (hsil ▸ List.getElem_mem _)
    have hj2 : (j : Int) < (n : Int) := by omega
    clear hO hM hK hrv hsil hJ hxx k0
    go_wp2_with fail
    refine HPW.out.mono ?_
    rintro e w5 ⟨rfl, rfl⟩
    go_upto_region 10 with (fail)
    clear x0
    have hpr := pickOf_range rounds (n := 20) (by omega)
    have HPR := Lib.hid fun W => pick_any W rounds 20 HR.out (by omega)
    obtain ⟨P, hP⟩ : ∃ P, pickOf rounds 20 = P := ⟨_, rfl⟩
    simp only [hP] at HPR
    rw [hP] at hpr
    obtain ⟨R', rfl⟩ : ∃ R' : Nat, P = (R' : Int) := ⟨P.toNat, by omega⟩
    have hR20 : R' < 20 := by omega
    have hLR : Hid (LawR X w m p fail first sil (R' + 1) (.int .i64 0) (.int .i64 0) w4) := Lib.hid ⟨0, _, _, 6, rfl, by simp, Nat.zero_le _, HM.out, by omega, Sil.start first sil fail, HB4.out⟩
    clear hP hpr
    go_wp2_with fail
    go_loopw [15, 16] (fun nw rr wr => LawR X w m p fail first sil (R' + 1) nw rr wr) (fun _ rr _ => R' + 1 - (intOf rr).toNat)
    case atStart => exact hLR.out
    case round =>
      obtain ⟨r, s, vs, c, rfl, rfl, hrR, hM, hc6, hS, hBr⟩ := hrel
      have hw1 : IntKind.i64.wrap (1 + (R' : Int)) = (R' : Int) + 1 := by rw [IntWalk.i64_in _ (by omega)]; omega
      have HMr := Lib.hid hM
      have HSr := Lib.hid hS
      have HBr := Lib.hid hBr
      clear hM hS hBr
      by_cases hlt : r < R' + 1
      · have d0 : decide ((r : Int) < (R' : Int) + 1) = true := decide_eq_true (by omega)
        have hmb : (0 : Int) ≤ (r : Int) * fail ∧ (r : Int) * fail ≤ 20 * 1073741824 := ⟨Int.mul_nonneg (by omega) (by omega), by
          have h1 := Int.mul_le_mul_of_nonneg_right (show (r : Int) ≤ 20 by omega) (show 0 ≤ fail by omega)
          have h2 : (20 : Int) * fail ≤ 20 * 1073741824 := by omega
          omega⟩
        have hmul : ((r + 1 : Nat) : Int) * fail = r * fail + fail := by rw [Int.natCast_add, Int.add_mul]; simp
        obtain ⟨N, hNN⟩ : ∃ N : Int, (r : Int) * fail = N := ⟨_, rfl⟩
        obtain ⟨N2, hN2⟩ : ∃ N : Int, ((r + 1 : Nat) : Int) * fail = N := ⟨_, rfl⟩
        rw [hNN] at hmb hmul ⊢
        rw [hN2] at hmul
        have HN2 := Lib.hid hN2
        have hw2 : IntKind.i64.wrap (N + fail) = N2 := by rw [IntWalk.i64_in _ (by omega)]; omega
        have hLI : Hid (∀ wx, wx = wr → LawI X w m p fail first sil N2 r s (.int .i64 0) wx) := Lib.hid fun wx e => ⟨0, s, vs, c, rfl, Nat.zero_le _, e ▸ HMr.out, by omega, Bt.start first sil N2 s, e ▸ HBr.out⟩
        have hb2 : 0 ≤ N2 ∧ N2 ≤ 30000000000 := by omega
        have HMUL := Lib.hid hmul
        have HNE := Lib.hid hNN
        clear hNN hN2 hmul
        go_wp2_with fail
        refine (HPR.out _).mono ?_
        rintro e wp ⟨rfl, rfl⟩
        go_wp2_with fail
        go_loopw [17] (fun i wx => LawI X w m p fail first sil N2 r s i wx) (fun i _ => n - (intOf i).toNat)
        case atStart => exact hLI.out _ rfl
        case round =>
          obtain ⟨k, s', vs', c', rfl, hk, hM', hc', hBt, hBx⟩ := hrel
          rw [HN.out] at hk
          have HMx := Lib.hid hM'
          have HBt := Lib.hid hBt
          have HBx := Lib.hid hBx
          clear hM' hBt hBx
          by_cases hlt2 : k < n
          · have d3 : decide ((k : Int) < (n : Int)) = true := decide_eq_true (by omega)
            have hkf : k < first.length := by rw [HN.out]; exact hlt2
            obtain ⟨b2, o2, hfe, _, _, hxx⟩ := HF.out.cell_ hkf
            cases hfe
            obtain ⟨x, hx⟩ : ∃ x, first[k] = x := ⟨_, rfl⟩
            have x0 := hxx 0 _ rfl
            rw [Nat.mul_one, Nat.add_zero, hx] at x0
            have hbw := World.block_lt_of_cell? _ _ x0
            have x0 := (HBx.out.cell (p := ⟨b, o + k, none⟩) hbw).trans x0
            have HKX := Lib.hid (show first[k]? = some x by rw [List.getElem?_eq_getElem hkf, hx])
            have HXM := Lib.hid (show x ∈ first from hx ▸ List.getElem_mem hkf)
            have hk2 : (0 : Int) ≤ (k : Int) ∧ (k : Int) < (n : Int) := by omega
            obtain ⟨hk3, hk4⟩ := hk2
            clear hxx hx hkf
            by_cases hxs : x = sil
            · have d4 : (x != sil) = false := bne_eq_false_iff_eq.2 hxs
              have HXS := Lib.hid hxs
              clear hxs
              go_wp2_with fail
              go_roundw
              case rel => exact ⟨k + 1, s', vs', c', by go_num, by rw [HN.out]; omega, HMx.out, by omega, HBt.out.skip (HXS.out ▸ HKX.out), HBx.out⟩
              case measure => simp [intOf]; omega
            · have d4 : (x != sil) = true := by rw [bne_iff_ne]; exact hxs
              have HXS := Lib.hid hxs
              clear hxs
              have hep := HSr.out.ep
              rw [← HBt.out.v] at hep
              have HEP := Lib.hid hep
              have HXN := Lib.hid (show x ∈ s'.v.nodes by rw [HBt.out.v]; exact HSr.out.mem HXM.out HXS.out)
              clear hep
              go_upto_region 18 with (fail)
              have HA0 := Lib.hid (show Below wr.heap.size wr wr.drew from ⟨rfl, rfl, rfl, Nat.le_refl _, fun _ _ => rfl⟩)
              go_region_held3 (fun y => y.cell? ⟨b, o + k, none⟩ = some (.int .i64 x))
                (first | with_reducible exact y1 | with_reducible exact y0 | with_reducible exact x0 | go_keep)
                (first
                  | (go_at_call 9
                     with_reducible refine (view_any (HMx.out.fresh HA0.out)).mono ?_
                     rintro e wv ⟨a', b', c'', rfl, hV, hBv⟩
                     obtain ⟨A7, a7, B7, b7, C7, c7, rfl, rfl, rfl, _⟩ := hV.shape
                     have HAv := Lib.hid (show Below wr.heap.size wr wv from HA0.out.trans hBv)
                     have y0 := (HAv.out.cell (p := ⟨b, o + k, none⟩) (World.block_lt_of_cell? _ _ x0)).trans x0
                     clear hV hBv)
                  | (go_at_call 8
                     with_reducible refine (takeB_any (HMx.out.fresh HAv.out) (by omega) x s'.v.ep 0 x N2 HXN.out (by omega) (by omega) (by omega) (by omega)).mono ?_
                     rintro e wt ⟨v8, os8, rfl, hS8, hR8, hK8⟩
                     have HR8 := Lib.hid hR8
                     have HB8 := Lib.hid ((HBx.out.trans (HAv.out.mono HBx.out.size)).trans (Kx.below hK8 HX.out (Nat.le_trans HBx.out.size HAv.out.size)))
                     have y1 := ((Kx.below hK8 HX.out (Nat.le_trans HBx.out.size HAv.out.size)).cell (p := ⟨b, o + k, none⟩) hbw).trans y0
                     clear hS8 hR8 hK8))
              go_wp2_with fail
              go_roundw
              case rel =>
                have hR8 := HR8.out
                unfold BeatR at hR8
                rw [if_neg (by simp), if_neg (by simp)] at hR8
                exact ⟨k + 1, _, vs', c' + 2, by go_num, by rw [HN.out]; omega, hR8.2, by omega, HBt.out.beat HKX.out HXS.out HEP.out.1, HB8.out⟩
              case measure => simp [intOf]; omega
          · have d3 : decide ((k : Int) < (n : Int)) = false := decide_eq_false (by omega)
            have hkn : k = n := by omega
            have hbt := HBt.out
            rw [hkn, ← HN.out] at hbt
            obtain ⟨s2, hs2, hS2, hok⟩ := HSr.out.round HRV.out HSM.out hf4 (by rw [HN2.out]; exact hbt)
            rw [HN2.out] at hs2 hok
            have hep := HSr.out.ep
            have hle := HSr.out.right HRV.out HSM.out
            have htk := tick_any HMx.out N2 (fun x _ => by
              have h1 := HSr.out.hd x
              have h2 := HNE.out
              have h3 := HMUL.out
              rcases hbt.hd x with e | e <;> rw [e] <;> omega) (by omega) (by rw [hbt.v]; have := hle.n2; omega) (.inl (by omega))
            rw [hs2] at htk
            obtain ⟨I, hI⟩ : ∃ I, idxI sil 0 (s2.v.L.map Nd.node) = I := ⟨_, rfl⟩
            have hIb := (idxI_bd sil 0 (s2.v.L.map Nd.node) (Int.le_refl _)).2.2
            rw [hI] at hIb
            obtain ⟨L2, hL2⟩ : ∃ L2, s2.v.L.length = L2 := ⟨_, rfl⟩
            obtain ⟨ho1, ho2, ho3⟩ := hok
            rw [HN.out] at ho1 ho2
            rw [hL2] at ho2 ho3
            have d9 : decide ((L2 : Int) < (n : Int) - 1) = false := decide_eq_false (by omega)
            have hw9 : IntKind.i64.wrap ((n : Int) - 1) = (n : Int) - 1 := IntWalk.i64_in _ (by omega)
            have hw8 : IntKind.i64.wrap ((r : Int) + 1) = (r : Int) + 1 := IntWalk.i64_in _ (by omega)
            have HTK := Lib.hid htk
            have HI := Lib.hid hI
            have HL2 := Lib.hid hL2
            have HS2 := Lib.hid hS2
            clear hbt hs2 hS2 hep hle htk hI hL2
            by_cases hnf : N2 ≤ fail
            · have d7 : decide (N2 ≤ fail) = true := decide_eq_true hnf
              rw [d7, Bool.true_or, decide_eq_true_eq] at ho1
              have d5 : decide (0 ≤ I) = true := decide_eq_true (hIb.2 ho1)
              clear ho1 hIb hnf
              go_wp2_with fail
              refine HTK.out.mono ?_
              rintro e wt ⟨v9, os9, vs9, rfl, _, _, hM9, hK9⟩
              have HM9 := Lib.hid hM9
              have HB9 := Lib.hid (HBx.out.trans (Kx.below hK9 HX.out HBx.out.size))
              have HVI := Lib.hid (view_any hM9)
              clear hM9 hK9
              go_wp2_with fail
              refine HVI.out.mono ?_
              rintro e wv ⟨a', b', c'', rfl, hV, hBv⟩
              have hpl := place_any wv _ s2.v.ep s2.v.L _ _ _ hV (HS2.out.right HRV.out HSM.out) sil
              rw [HI.out] at hpl
              obtain ⟨A7, a7, B7, b7, C7, c7, rfl, rfl, rfl, _⟩ := hV.shape
              have HPL := Lib.hid hpl
              have HMv := Lib.hid (HM9.out.fresh hBv)
              have HBv := Lib.hid (HB9.out.trans (hBv.mono HB9.out.size))
              clear hV hBv hpl
              go_wp2_with fail
              refine HPL.out.mono ?_
              rintro e wq ⟨rfl, hBq⟩
              have HMq := Lib.hid (HMv.out.fresh hBq)
              have HBq := Lib.hid (HBv.out.trans (hBq.mono HBv.out.size))
              have HV2 := Lib.hid (view_any HMq.out)
              clear hBq
              go_wp2_with fail
              refine HV2.out.mono ?_
              rintro e wz ⟨a', b', c'', rfl, hV, hBz⟩
              obtain ⟨A8, a8, B8, b8, C8, c8, rfl, rfl, rfl, _⟩ := hV.shape
              rw [HL2.out]
              have HMz := Lib.hid (HMq.out.fresh hBz)
              have HBz := Lib.hid (HBq.out.trans (hBz.mono HBq.out.size))
              clear hV hBz
              go_wp2_with fail
              go_roundw
              case rel => exact ⟨r + 1, s2, vs9, _, by go_num, by rw [HN2.out], hlt, HMz.out, by omega, HS2.out, HBz.out⟩
              case measure => simp [intOf]; omega
            · have d7 : decide (N2 ≤ fail) = false := decide_eq_false hnf
              rw [d7, Bool.false_or] at ho1
              by_cases hn11 : n = 1
              · rw [decide_eq_true hn11, decide_eq_true_eq] at ho1
                have d5 : decide (0 ≤ I) = true := decide_eq_true (hIb.2 ho1)
                have d8 : ((n : Int) == 1) = true := by rw [beq_iff_eq]; omega
                have d8' : (n == 1) = true := by rw [beq_iff_eq]; exact hn11
                clear ho1 hIb hnf hn11
                go_wp2_with fail
                refine HTK.out.mono ?_
                rintro e wt ⟨v9, os9, vs9, rfl, _, _, hM9, hK9⟩
                have HM9 := Lib.hid hM9
                have HB9 := Lib.hid (HBx.out.trans (Kx.below hK9 HX.out HBx.out.size))
                have HVI := Lib.hid (view_any hM9)
                clear hM9 hK9
                go_wp2_with fail
                refine HVI.out.mono ?_
                rintro e wv ⟨a', b', c'', rfl, hV, hBv⟩
                have hpl := place_any wv _ s2.v.ep s2.v.L _ _ _ hV (HS2.out.right HRV.out HSM.out) sil
                rw [HI.out] at hpl
                obtain ⟨A7, a7, B7, b7, C7, c7, rfl, rfl, rfl, _⟩ := hV.shape
                have HPL := Lib.hid hpl
                have HMv := Lib.hid (HM9.out.fresh hBv)
                have HBv := Lib.hid (HB9.out.trans (hBv.mono HB9.out.size))
                clear hV hBv hpl
                go_wp2_with fail
                refine HPL.out.mono ?_
                rintro e wq ⟨rfl, hBq⟩
                have HMq := Lib.hid (HMv.out.fresh hBq)
                have HBq := Lib.hid (HBv.out.trans (hBq.mono HBv.out.size))
                have HV2 := Lib.hid (view_any HMq.out)
                clear hBq
                go_wp2_with fail
                refine HV2.out.mono ?_
                rintro e wz ⟨a', b', c'', rfl, hV, hBz⟩
                obtain ⟨A8, a8, B8, b8, C8, c8, rfl, rfl, rfl, _⟩ := hV.shape
                rw [HL2.out]
                have HMz := Lib.hid (HMq.out.fresh hBz)
                have HBz := Lib.hid (HBq.out.trans (hBz.mono HBq.out.size))
                clear hV hBz
                go_wp2_with fail
                go_roundw
                case rel => exact ⟨r + 1, s2, vs9, _, by go_num, by rw [HN2.out], hlt, HMz.out, by omega, HS2.out, HBz.out⟩
                case measure => simp [intOf]; omega
              · rw [decide_eq_false hn11, decide_eq_false_iff_not] at ho1
                have d5 : decide (0 ≤ I) = false := decide_eq_false fun h => ho1 (hIb.1 h)
                have d8 : ((n : Int) == 1) = false := by rw [beq_eq_false_iff_ne]; omega
                have d8' : (n == 1) = false := by rw [beq_eq_false_iff_ne]; exact hn11
                clear ho1 hIb hnf hn11
                go_wp2_with fail
                refine HTK.out.mono ?_
                rintro e wt ⟨v9, os9, vs9, rfl, _, _, hM9, hK9⟩
                have HM9 := Lib.hid hM9
                have HB9 := Lib.hid (HBx.out.trans (Kx.below hK9 HX.out HBx.out.size))
                have HVI := Lib.hid (view_any hM9)
                clear hM9 hK9
                go_wp2_with fail
                refine HVI.out.mono ?_
                rintro e wv ⟨a', b', c'', rfl, hV, hBv⟩
                have hpl := place_any wv _ s2.v.ep s2.v.L _ _ _ hV (HS2.out.right HRV.out HSM.out) sil
                rw [HI.out] at hpl
                obtain ⟨A7, a7, B7, b7, C7, c7, rfl, rfl, rfl, _⟩ := hV.shape
                have HPL := Lib.hid hpl
                have HMv := Lib.hid (HM9.out.fresh hBv)
                have HBv := Lib.hid (HB9.out.trans (hBv.mono HB9.out.size))
                clear hV hBv hpl
                go_wp2_with fail
                refine HPL.out.mono ?_
                rintro e wq ⟨rfl, hBq⟩
                have HMq := Lib.hid (HMv.out.fresh hBq)
                have HBq := Lib.hid (HBv.out.trans (hBq.mono HBv.out.size))
                have HV2 := Lib.hid (view_any HMq.out)
                clear hBq
                go_wp2_with fail
                refine HV2.out.mono ?_
                rintro e wz ⟨a', b', c'', rfl, hV, hBz⟩
                obtain ⟨A8, a8, B8, b8, C8, c8, rfl, rfl, rfl, _⟩ := hV.shape
                rw [HL2.out]
                have HMz := Lib.hid (HMq.out.fresh hBz)
                have HBz := Lib.hid (HBq.out.trans (hBz.mono HBq.out.size))
                clear hV hBz
                go_wp2_with fail
                go_roundw
                case rel => exact ⟨r + 1, s2, vs9, _, by go_num, by rw [HN2.out], hlt, HMz.out, by omega, HS2.out, HBz.out⟩
                case measure => simp [intOf]; omega
      · have d0 : decide ((r : Int) < (R' : Int) + 1) = false := decide_eq_false (by omega)
        have hrt := HSr.out.right HRV.out HSM.out
        have hvi := view_any HMr.out
        have hL1 := hrt.n1
        obtain ⟨Ln, hLn⟩ : ∃ Ln, s.v.L.length = Ln := ⟨_, rfl⟩
        rw [hLn] at hL1
        have HLn := Lib.hid hLn
        have d6 : decide ((1 : Int) ≤ (Ln : Int)) = true := decide_eq_true (by omega)
        have HVI := Lib.hid hvi
        clear hvi hrt hLn
        go_wp2_with fail
        refine (HPR.out _).mono ?_
        rintro e wp ⟨rfl, rfl⟩
        go_wp2_with fail
        refine HVI.out.mono ?_
        rintro e wv ⟨a', b', c', rfl, hV, hBv⟩
        have HBv := Lib.hid (HBr.out.trans (hBv.mono HBr.out.size))
        clear hBv
        obtain ⟨A7, a7, B7, b7, C7, c7, rfl, rfl, rfl, _⟩ := hV.shape
        rw [HLn.out]
        clear hV
        go_wp2_with fail
        go_ret
        exact ⟨rfl, HBv.out⟩
  · obtain ⟨rfl, hB4⟩ := hO.2 hc
    have HB4 := Lib.hid (HB3.out.trans (hB4.mono HB3.out.size))
    clear hB4
    go_wp2_with fail
    go_ret
    exact ⟨rfl, HB4.out⟩
end Go.Proofs.YtoegdpcfhmjnaaaDoor
