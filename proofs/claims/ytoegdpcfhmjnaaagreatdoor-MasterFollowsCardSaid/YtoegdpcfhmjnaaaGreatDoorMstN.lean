/- The law of the master: shown. Under the stated premises on sizes. -/
import Derived.Test.YtoegdpcfhmjnaaaGreatDoorMstF
import Derived.Test.YtoegdpcfhmjnaaaGreatDoorMstL
import Derived.Test.YtoegdpcfhmjnaaaGreatDoorMstJ
/- The law of the master: begun, Heard, as, the document's Same, pick. Under the stated premises on sizes. -/
namespace Go.Proofs.YtoegdpcfhmjnaaaGreatDoor
open Go.RowKit Go.Bl
attribute [local go_sem ↓] Go.wp_at_zero Go.wp_at_succ

theorem new8_any (w : World) (room : Int) (h1 : 1 ≤ room) (h2 : room ≤ 1073741824) : Calls Tryz.prog 27 #[.int .i64 room] w fun e w' => e = .returned (.tuple #[.pointer (some ⟨w.heap.size, 0, none⟩), .int .i64 0]) ∧ Below w.heap.size w w' := by
  have d1 : decide (room < 1) = false := by simp; omega
  have d2 : decide (1073741824 < room) = false := by simp; omega
  go_enter Tryz.func27, Tryz.ntmps27
  go_wp2_with fail
  go_ret2
  exact ⟨rfl, (Below.refl _ _).alloc (Nat.le_refl _) _⟩
set_option maxRecDepth 8000 in
theorem begunQ {w : World} (hT : Tabs w) (room : Int) (h1 : 1 ≤ room) (h2 : room ≤ 1073741824) : Calls Tryz.prog 7 #[.int .i64 room] w fun e w' => ∃ p pm, e = .returned (.tuple #[.agg #[.pointer (some ⟨p, 0, none⟩), .pointer (some ⟨pm, 0, none⟩)], .bool true]) ∧ Qd (fun k => k < w.heap.size) w' p ⟨room, []⟩ ∧ Below w.heap.size w w' := by
  have HT := Lib.hid hT
  have hw1 : Below w.heap.size w (w.alloc (.cells #[.pointer none, .pointer none] 27)) := (Below.refl _ _).alloc (Nat.le_refl _) _
  have hblk := heap_alloc_new w (.cells #[.pointer none, .pointer none] 27)
  go_enter Tryz.func7, Tryz.ntmps7
  go_wp2_with fail
  obtain ⟨b0, hb0⟩ : ∃ b, w.heap.size = b := ⟨_, rfl⟩
  rw [hb0] at hblk
  generalize w.alloc (.cells #[.pointer none, .pointer none] 27) = w1 at hw1 hblk ⊢
  refine (newD w1 (fun k => k < w1.heap.size) (fun _ h => h) room h1 h2).mono ?_
  rintro e w2 ⟨p, rfl, hQ, hB2⟩
  have hb0l : b0 < w1.heap.size := (Array.getElem?_eq_some_iff.1 hblk).1
  have hblk2 := (hB2.block b0 (Array.getElem?_eq_some_iff.1 hblk).1).trans hblk
  clear hblk
  have HB2 := Lib.hid hB2
  have HBK := Lib.hid hblk2
  clear hB2 hblk2
  go_wp2_with fail
  refine (new8_any w2 room h1 h2).mono ?_
  rintro e w3 ⟨rfl, hB3⟩
  have hblk3 := (hB3.block b0 (Array.getElem?_eq_some_iff.1 HBK.out).1).trans HBK.out
  have c0 : w3.cell? ⟨b0, 0, none⟩ = some (.pointer none) := cell_of_row w3 b0 0 _ _ _ hblk3
  have c1 : w3.cell? ⟨b0, 1, none⟩ = some (.pointer none) := cell_of_row w3 b0 1 _ _ _ hblk3
  have f0 : w3.frozen? ⟨b0, 0, none⟩ = false := frozen_block hblk3 0
  have f1 : w3.frozen? ⟨b0, 1, none⟩ = false := frozen_block hblk3 1
  have HQ3 := Lib.hid (hQ.fresh hB3)
  have HP3 := Lib.hid ((hw1.trans (HB2.out.mono hw1.size)).trans (hB3.mono (Nat.le_trans hw1.size HB2.out.size)))
  have HBK3 := Lib.hid hblk3
  clear hblk3 hQ hB3
  go_wp2_with fail
  have k1 := setCell_block (o := 0) HBK3.out (.pointer (some ⟨p, 0, none⟩))
  have k2 := setCell_block (o := 1) k1 (.pointer (some ⟨w2.heap.size, 0, none⟩))
  have q0 := cell_of_row _ b0 0 _ _ _ k2
  have q1 := cell_of_row _ b0 1 _ _ _ k2
  have hk : Keeps (fun k => k < w1.heap.size) w3 ((w3.setCell ⟨b0, 0, none⟩ (.pointer (some ⟨p, 0, none⟩))).setCell ⟨b0, 1, none⟩ (.pointer (some ⟨w2.heap.size, 0, none⟩))) :=
    ((Keeps.refl _ w3).setCell (p := ⟨b0, 0, none⟩) (fun _ => hb0l) _).setCell (p := ⟨b0, 1, none⟩) (fun _ => hb0l) _
  have hb0g : w.heap.size ≤ b0 := Nat.le_of_eq hb0
  have hpast := (HP3.out.setCell (p := ⟨b0, 0, none⟩) hb0g (.pointer (some ⟨p, 0, none⟩))).setCell (p := ⟨b0, 1, none⟩) hb0g (.pointer (some ⟨w2.heap.size, 0, none⟩))
  generalize (w3.setCell ⟨b0, 0, none⟩ (.pointer (some ⟨p, 0, none⟩))).setCell ⟨b0, 1, none⟩ (.pointer (some ⟨w2.heap.size, 0, none⟩)) = w4 at k2 q0 q1 hk hpast ⊢
  refine bodyPost_ret (v := .tuple #[.agg #[.pointer (some ⟨p, 0, none⟩), .pointer (some ⟨w2.heap.size, 0, none⟩)], .bool true]) (by simp [results, Tryz.results7, go_sem, q0, q1]) rfl ⟨p, w2.heap.size, rfl, ⟨HT.out.fresh hpast, fun k hk => Nat.lt_of_lt_of_le hk HT.out.lt, fun k hk => Nat.lt_of_lt_of_le hk hpast.size, ?_⟩, hpast⟩
  exact (HQ3.out.keep hk).more (fun k hk => .inl (Nat.lt_of_lt_of_le hk hw1.size))
set_option maxRecDepth 8000 in
set_option maxHeartbeats 2000000 in
theorem heardM_any {X : Nat → Prop} {w : World} {m p : Nat} {room fail : Int} {vs : List Vw} {s : Ms} {c : Nat} (h : Mst X w m p room fail vs s c) (x : Int) :
    Calls Tryz.prog 14 #[.pointer (some ⟨m, 0, none⟩), .int .i64 x] w fun e w' => e = .returned (.int .i64 (if x ∈ s.v.nodes then s.hd x else -1)) ∧ w = w' := by
  have hin := in_any h x
  obtain ⟨Y, F, bh, br, va, vb, vc, h⟩ := h
  obtain ⟨-, -, -, -, -, -, c6, -⟩ := h.cells
  by_cases hx : x ∈ s.v.nodes
  · rw [if_pos hx]
    rw [decide_eq_true hx] at hin
    have hl := h.lookH hx
    have HIN := Lib.hid hin
    clear hin h hx
    go_enter Tryz.func14, Tryz.ntmps14
    go_wp2_with fail
    refine HIN.out.mono ?_
    rintro e w2 ⟨rfl, rfl⟩
    go_wp2_with fail
    go_ret
    exact ⟨rfl, rfl⟩
  · rw [if_neg hx]
    rw [decide_eq_false hx] at hin
    have HIN := Lib.hid hin
    clear hin h hx
    go_enter Tryz.func14, Tryz.ntmps14
    go_wp2_with fail
    refine HIN.out.mono ?_
    rintro e w2 ⟨rfl, rfl⟩
    go_wp2_with fail
    go_ret
    exact ⟨rfl, rfl⟩
set_option maxRecDepth 8000 in
set_option maxHeartbeats 2000000 in
theorem asV_any (w : World) (ep : Int) (A B C : Option Addr) (n ca cb cc : Nat) : Calls Tryz.prog 25 #[.agg #[.int .i64 ep, .slice A n ca, .slice B n cb, .slice C n cc]] w fun e w' => e = .returned (.agg #[.int .i64 ep, .slice A n ca, .slice B n cb, .slice C n cc]) ∧ Below w.heap.size w w' := by
  have hB0 : Below w.heap.size w ((w.alloc (.cells #[.int .i64 ep, .slice A n ca, .slice B n cb, .slice C n cc] 45)).alloc (.cells #[.int .i64 0, .slice none 0 0, .slice none 0 0, .slice none 0 0] 73)) := ((Below.refl _ w).alloc (Nat.le_refl _) _).alloc (by simp) _
  have hb1 : ((w.alloc (.cells #[.int .i64 ep, .slice A n ca, .slice B n cb, .slice C n cc] 45)).alloc (.cells #[.int .i64 0, .slice none 0 0, .slice none 0 0, .slice none 0 0] 73)).heap[w.heap.size]? = some (.cells #[.int .i64 ep, .slice A n ca, .slice B n cb, .slice C n cc] 45 (0, 0)) := (Below.heap_alloc _ _ _ (by simp)).trans (heap_alloc_new w _)
  have hb2 : ((w.alloc (.cells #[.int .i64 ep, .slice A n ca, .slice B n cb, .slice C n cc] 45)).alloc (.cells #[.int .i64 0, .slice none 0 0, .slice none 0 0, .slice none 0 0] 73)).heap[w.heap.size + 1]? = some (.cells #[.int .i64 0, .slice none 0 0, .slice none 0 0, .slice none 0 0] 73 (0, 0)) := by
    have := heap_alloc_new (w.alloc (.cells #[.int .i64 ep, .slice A n ca, .slice B n cb, .slice C n cc] 45)) (.cells #[.int .i64 0, .slice none 0 0, .slice none 0 0, .slice none 0 0] 73)
    rw [World.size_alloc] at this
    exact this
  go_enter Tryz.func25, Tryz.ntmps25
  go_upto_region 1 with (fail)
  generalize (w.alloc (.cells #[.int .i64 ep, .slice A n ca, .slice B n cb, .slice C n cc] 45)).alloc (.cells #[.int .i64 0, .slice none 0 0, .slice none 0 0, .slice none 0 0] 73) = w1 at hB0 hb1 hb2 ⊢
  obtain ⟨q, hq⟩ : ∃ q, w.heap.size = q := ⟨_, rfl⟩
  have HQ := Lib.hid hq
  rw [hq] at hb1 hb2 ⊢
  have HB0 := Lib.hid hB0
  have HB2 := Lib.hid hb2
  have c0 : w1.cell? ⟨q, 0, none⟩ = some (.int .i64 ep) := cell_of_row w1 q 0 _ _ _ hb1
  have c1 : w1.cell? ⟨q, 1, none⟩ = some (.slice A n ca) := cell_of_row w1 q 1 _ _ _ hb1
  have c2 : w1.cell? ⟨q, 2, none⟩ = some (.slice B n cb) := cell_of_row w1 q 2 _ _ _ hb1
  have c3 : w1.cell? ⟨q, 3, none⟩ = some (.slice C n cc) := cell_of_row w1 q 3 _ _ _ hb1
  have r0 : w1.cell? ⟨q + 1, 0, none⟩ = some (.int .i64 0) := cell_of_row w1 (q + 1) 0 _ _ _ hb2
  have r1 : w1.cell? ⟨q + 1, 1, none⟩ = some (.slice none 0 0) := cell_of_row w1 (q + 1) 1 _ _ _ hb2
  have r2 : w1.cell? ⟨q + 1, 2, none⟩ = some (.slice none 0 0) := cell_of_row w1 (q + 1) 2 _ _ _ hb2
  have r3 : w1.cell? ⟨q + 1, 3, none⟩ = some (.slice none 0 0) := cell_of_row w1 (q + 1) 3 _ _ _ hb2
  have g0 := frozen_block hb2 0
  have g1 := frozen_block hb2 1
  have g2 := frozen_block hb2 2
  have g3 := frozen_block hb2 3
  clear hb1 hb2 hB0 hq
  go_wp2_with fail
  have hb4 := four_block HB2.out (.int .i64 ep) (.slice A n ca) (.slice B n cb) (.slice C n cc)
  have hk4 := four_keeps w1 (q + 1) (.int .i64 ep) (.slice A n ca) (.slice B n cb) (.slice C n cc)
  have hBe := Below.keep HB0.out hk4 HB0.out.size (fun k e => by have e2 : k = q + 1 := e; have := HQ.out; omega)
  generalize ((((w1.setCell ⟨q + 1, 0, none⟩ (.int .i64 ep)).setCell ⟨q + 1, 1, none⟩ (.slice A n ca)).setCell ⟨q + 1, 2, none⟩ (.slice B n cb)).setCell ⟨q + 1, 3, none⟩ (.slice C n cc)) = w6 at hb4 hBe ⊢
  have z0 : w6.cell? ⟨q + 1, 0, none⟩ = some (.int .i64 ep) := cell_of_row w6 (q + 1) 0 _ _ _ hb4
  have z1 : w6.cell? ⟨q + 1, 1, none⟩ = some (.slice A n ca) := cell_of_row w6 (q + 1) 1 _ _ _ hb4
  have z2 : w6.cell? ⟨q + 1, 2, none⟩ = some (.slice B n cb) := cell_of_row w6 (q + 1) 2 _ _ _ hb4
  have z3 : w6.cell? ⟨q + 1, 3, none⟩ = some (.slice C n cc) := cell_of_row w6 (q + 1) 3 _ _ _ hb4
  refine bodyPost_ret (v := .agg #[.int .i64 ep, .slice A n ca, .slice B n cb, .slice C n cc]) (by simp [results, Tryz.results25, go_sem, z0, z1, z2, z3]) rfl ⟨rfl, hBe⟩
set_option maxRecDepth 8000 in
set_option maxHeartbeats 4000000 in
theorem sameV_eq {F F' : Nat → Prop} (w : World) (ep : Int) (L : List Nd) (a b c a' b' c' : Value) (h : VwSl w F L a b c) (h' : VwSl w F' L a' b' c') : Calls Tryz.prog 24 #[.agg #[.int .i64 ep, a, b, c], .agg #[.int .i64 ep, a', b', c']] w fun e w' => e = .returned (.bool true) ∧ Below w.heap.size w w' := by
  obtain ⟨A, ca, B, cb, C, cc, rfl, rfl, rfl, hca, hcm, _⟩ := h.shape
  obtain ⟨A', ca', B', cb', C', cc', rfl, rfl, rfl, _⟩ := h'.shape
  obtain ⟨n, hn⟩ : ∃ n, L.length = n := ⟨_, rfl⟩
  rw [hn] at h h' hca ⊢
  obtain ⟨W, hW⟩ : ∃ W, (w.alloc (.cells #[.int .i64 ep, .slice A n ca, .slice B n cb, .slice C n cc] 73)).alloc (.cells #[.int .i64 ep, .slice A' n ca', .slice B' n cb', .slice C' n cc'] 73) = W := ⟨_, rfl⟩
  have hB0 : Below w.heap.size w W := hW ▸ ((Below.refl _ w).alloc (Nat.le_refl _) _).alloc (by simp) _
  have hb1 : W.heap[w.heap.size]? = some (.cells #[.int .i64 ep, .slice A n ca, .slice B n cb, .slice C n cc] 73 (0, 0)) := hW ▸ (Below.heap_alloc _ _ _ (by simp)).trans (heap_alloc_new w _)
  have hb2 : W.heap[w.heap.size + 1]? = some (.cells #[.int .i64 ep, .slice A' n ca', .slice B' n cb', .slice C' n cc'] 73 (0, 0)) := by
    have := heap_alloc_new (w.alloc (.cells #[.int .i64 ep, .slice A n ca, .slice B n cb, .slice C n cc] 73)) (.cells #[.int .i64 ep, .slice A' n ca', .slice B' n cb', .slice C' n cc'] 73)
    rw [World.size_alloc, hW] at this
    exact this
  have HN := Lib.hid hn
  have HV := Lib.hid (h.fresh hB0)
  have HW := Lib.hid (h'.fresh hB0)
  clear h h' hn
  go_enter Tryz.func24, Tryz.ntmps24
  go_upto_region 1 with (fail)
  obtain ⟨p, hp⟩ : ∃ p, w.heap.size = p := ⟨_, rfl⟩
  rw [hp] at hb1 hb2 ⊢
  have HB0 := Lib.hid hB0
  have u0 : W.cell? ⟨p, 0, none⟩ = some (.int .i64 ep) := cell_of_row W p 0 _ _ _ hb1
  have u1 : W.cell? ⟨p, 1, none⟩ = some (.slice A n ca) := cell_of_row W p 1 _ _ _ hb1
  have u2 : W.cell? ⟨p, 2, none⟩ = some (.slice B n cb) := cell_of_row W p 2 _ _ _ hb1
  have u3 : W.cell? ⟨p, 3, none⟩ = some (.slice C n cc) := cell_of_row W p 3 _ _ _ hb1
  have y0 : W.cell? ⟨p + 1, 0, none⟩ = some (.int .i64 ep) := cell_of_row W (p + 1) 0 _ _ _ hb2
  have y1 : W.cell? ⟨p + 1, 1, none⟩ = some (.slice A' n ca') := cell_of_row W (p + 1) 1 _ _ _ hb2
  have y2 : W.cell? ⟨p + 1, 2, none⟩ = some (.slice B' n cb') := cell_of_row W (p + 1) 2 _ _ _ hb2
  have y3 : W.cell? ⟨p + 1, 3, none⟩ = some (.slice C' n cc') := cell_of_row W (p + 1) 3 _ _ _ hb2
  have de : (ep != ep) = false := by simp
  have dn : ((n : Int) != (n : Int)) = false := by simp
  clear hb1 hb2 hB0 hp hW
  go_wp2_with fail
  go_loopw [5] (fun i wr => ∃ k q : Nat, k ≤ n ∧ i = .int .i64 k ∧ wr = W.drewN q) (fun i _ => n - (intOf i).toNat)
  case atStart => exact ⟨0, 0, Nat.zero_le _, rfl, rfl⟩
  case round =>
    obtain ⟨k, q, hk, rfl, rfl⟩ := hrel
    by_cases hlt : k < n
    · have d0 : decide ((k : Int) < (n : Int)) = true := decide_eq_true (by omega)
      have hkn : (0 : Int) ≤ (k : Int) := by omega
      have hkL : k < (L.map Nd.node).length := by rw [List.length_map, HN.out]; exact hlt
      obtain ⟨b1, o1, hA1, _, _, hx1⟩ := HV.out.ch.cell_ hkL
      obtain ⟨b2, o2, hA2, _, _, hx2⟩ := HW.out.ch.cell_ hkL
      have x1 := hx1 0 _ rfl
      have x2 := hx2 0 _ rfl
      rw [Nat.mul_one, Nat.add_zero] at x1 x2
      obtain ⟨x, hx⟩ : ∃ x, (L.map Nd.node)[k] = x := ⟨_, rfl⟩
      rw [hx] at x1 x2
      have dx : (x != x) = false := by simp
      have hwk : IntKind.i64.wrap ((k : Int) + 1) = (k : Int) + 1 := IntWalk.i64_in _ (by omega)
      subst hA1 hA2
      clear hx1 hx2 hx hkL
      go_upto_region 6 with (fail)
      go_quiet (fail)
      go_wp2_with fail
      go_roundw
      case rel => exact ⟨k + 1, _, hlt, by go_num, rfl⟩
      case measure => simp [intOf]; omega
    · have d0 : decide ((k : Int) < (n : Int)) = false := decide_eq_false (by omega)
      go_wp2_with fail
      go_loopw [6] (fun i wr => ∃ k q : Nat, k ≤ n ∧ i = .int .i64 k ∧ wr = W.drewN q) (fun i _ => n - (intOf i).toNat)
      case atStart => exact ⟨0, q, Nat.zero_le _, rfl, rfl⟩
      case round =>
        obtain ⟨k, q, hk, rfl, rfl⟩ := hrel
        by_cases hlt : k < n
        · have d0 : decide ((k : Int) < (n : Int)) = true := decide_eq_true (by omega)
          have hkn : (0 : Int) ≤ (k : Int) := by omega
          have hkL : k < (L.map Nd.since).length := by rw [List.length_map, HN.out]; exact hlt
          obtain ⟨b1, o1, hA1, _, _, hx1⟩ := HV.out.si.cell_ hkL
          obtain ⟨b2, o2, hA2, _, _, hx2⟩ := HW.out.si.cell_ hkL
          have x1 := hx1 0 _ rfl
          have x2 := hx2 0 _ rfl
          rw [Nat.mul_one, Nat.add_zero] at x1 x2
          obtain ⟨x, hx⟩ : ∃ x, (L.map Nd.since)[k] = x := ⟨_, rfl⟩
          rw [hx] at x1 x2
          have dx : (x != x) = false := by simp
          have hwk : IntKind.i64.wrap ((k : Int) + 1) = (k : Int) + 1 := IntWalk.i64_in _ (by omega)
          subst hA1 hA2
          clear hx1 hx2 hx hkL
          go_upto_region 11 with (fail)
          go_quiet (fail)
          go_wp2_with fail
          go_roundw
          case rel => exact ⟨k + 1, _, hlt, by go_num, rfl⟩
          case measure => simp [intOf]; omega
        · have d0 : decide ((k : Int) < (n : Int)) = false := decide_eq_false (by omega)
          go_wp2_with fail
          go_loopw [7] (fun i wr => ∃ k q : Nat, k ≤ n ∧ i = .int .i64 k ∧ wr = W.drewN q) (fun i _ => n - (intOf i).toNat)
          case atStart => exact ⟨0, q, Nat.zero_le _, rfl, rfl⟩
          case round =>
            obtain ⟨k, q, hk, rfl, rfl⟩ := hrel
            by_cases hlt : k < n
            · have d0 : decide ((k : Int) < (n : Int)) = true := decide_eq_true (by omega)
              have hkn : (0 : Int) ≤ (k : Int) := by omega
              have hkL : k < (L.map Nd.boot).length := by rw [List.length_map, HN.out]; exact hlt
              obtain ⟨b1, o1, hA1, _, _, hx1⟩ := HV.out.bo.cell_ hkL
              obtain ⟨b2, o2, hA2, _, _, hx2⟩ := HW.out.bo.cell_ hkL
              have x1 := hx1 0 _ rfl
              have x2 := hx2 0 _ rfl
              rw [Nat.mul_one, Nat.add_zero] at x1 x2
              obtain ⟨x, hx⟩ : ∃ x, (L.map Nd.boot)[k] = x := ⟨_, rfl⟩
              rw [hx] at x1 x2
              have dx : (x != x) = false := by simp
              have hwk : IntKind.i64.wrap ((k : Int) + 1) = (k : Int) + 1 := IntWalk.i64_in _ (by omega)
              subst hA1 hA2
              clear hx1 hx2 hx hkL
              go_upto_region 16 with (fail)
              go_quiet (fail)
              go_wp2_with fail
              go_roundw
              case rel => exact ⟨k + 1, _, hlt, by go_num, rfl⟩
              case measure => simp [intOf]; omega
            · have d0 : decide ((k : Int) < (n : Int)) = false := decide_eq_false (by omega)
              go_wp2_with fail
              go_ret
              exact ⟨rfl, below_drewN HB0.out _⟩
end Go.Proofs.YtoegdpcfhmjnaaaGreatDoor

namespace Go.Proofs.YtoegdpcfhmjnaaaGreatDoor
open Go.RowKit Go.Bl
attribute [local go_sem ↓] Go.wp_at_zero Go.wp_at_succ

/-- A block of numbers reads as the list of them. -/
theorem Sl.ints {w : World} {g : Nat} {cs : Array Value} {e : TypeId} {fr : Nat × Nat} {l : List Int} (hg : w.heap[g]? = some (.cells cs e fr)) (hc : cs.toList = l.map fun n => .int .i64 n) (hl : l.length ≤ 1000000) :
    Sl w (fun b => b = g) 1 intc (.slice (some ⟨g, 0, none⟩) l.length l.length) l := by
  refine ⟨_, _, rfl, Nat.le_refl _, by unfold maxLen; omega, fun _ => ⟨g, 0, rfl, rfl, (Array.getElem?_eq_some_iff.1 hg).1, fun i hi j u hu => ?_⟩⟩
  have hj : j = 0 := by
    cases j with
    | zero => rfl
    | succ j => simp [intc] at hu
  subst hj
  have hu : Value.int .i64 l[i] = u := by simpa [intc] using hu
  rw [← hu, Nat.mul_one, Nat.add_zero, Nat.zero_add]
  have h1 : cs[i]? = some (.int .i64 l[i]) := by
    rw [← Array.getElem?_toList, hc, List.getElem?_map, List.getElem?_eq_getElem hi]
    rfl
  have := cell_of_row w g i _ _ _ hg
  exact this.trans h1
def sh0 : Ms := ⟨v0 [1, 2], fun _ => 0, fun _ => 0⟩
def sh1 : Ms := (sh0.hear 1 5).makeReady 1 1
theorem sh1_heard : Heard sh1 11 := fun k _ => by
  show 0 ≤ (if k = 1 then (5 : Int) else 0) ∧ (if k = 1 then (5 : Int) else 0) ≤ 11
  split <;> omega
set_option maxRecDepth 8000 in
set_option maxHeartbeats 4000000 in
theorem shown_any {w : World} (hT : Tabs w) : Calls Tryz.prog 6 #[] w fun e w' => e = .returned (.bool true) ∧ Below w.heap.size w w' := by
  have hbg := begunQ hT 1000 (by omega) (by omega)
  have HT := Lib.hid hT
  have HBG := Lib.hid hbg
  clear hT hbg
  go_enter Tryz.func6, Tryz.ntmps6
  go_wp2_with fail
  refine HBG.out.mono ?_
  rintro e w1 ⟨p, pm, rfl, hQ1, hB1⟩
  have HQ1 := Lib.hid hQ1
  have HB1 := Lib.hid hB1
  clear hQ1 hB1
  go_upto_region 4 with (fail)
  have hk2 := heap_alloc_new w1 (.cells #[.pointer (some ⟨p, 0, none⟩), .pointer (some ⟨pm, 0, none⟩)] 27)
  have hB2 := HB1.out.alloc HB1.out.size (.cells #[.pointer (some ⟨p, 0, none⟩), .pointer (some ⟨pm, 0, none⟩)] 27)
  have hb2 : Below w1.heap.size w1 (w1.alloc (.cells #[.pointer (some ⟨p, 0, none⟩), .pointer (some ⟨pm, 0, none⟩)] 27)) := (Below.refl _ w1).alloc (Nat.le_refl _) _
  have hQ2 := HQ1.out.fresh hb2
  obtain ⟨g, hg⟩ : ∃ g, w1.heap.size = g := ⟨_, rfl⟩
  rw [hg] at hk2 ⊢
  generalize w1.alloc (.cells #[.pointer (some ⟨p, 0, none⟩), .pointer (some ⟨pm, 0, none⟩)] 27) = w2 at hk2 hB2 hb2 hQ2 ⊢
  have k0 : w2.cell? ⟨g, 0, none⟩ = some (.pointer (some ⟨p, 0, none⟩)) := cell_of_row w2 g 0 _ _ _ hk2
  have hk3 := heap_alloc_new w2 (.cells #[.int .i64 1, .int .i64 2] 3)
  have hb3 : Below w2.heap.size w2 (w2.alloc (.cells #[.int .i64 1, .int .i64 2] 3)) := (Below.refl _ w2).alloc (Nat.le_refl _) _
  have hsl := Sl.ints (l := [1, 2]) hk3 rfl (by decide)
  have hon := open_new (hQ2.fresh hb3) (.slice (some ⟨w2.heap.size, 0, none⟩) 2 2) [1, 2] hsl (by decide) 10 0 (by omega) (by omega)
  have HON := Lib.hid hon
  have HB3 := Lib.hid (hB2.trans (hb3.mono hB2.size))
  clear hk2 hB2 hb2 hQ2 hg hk3 hb3 hsl hon
  go_wp2_with fail
  refine HON.out.mono ?_
  rintro e w4 hO
  have hR0 : RightV (v0 [1, 2]) := rightV_iff.1 (by decide)
  obtain ⟨m, rfl, hM, hK⟩ := hO.1 ⟨by omega, by omega, hR0⟩
  have HB4 := Lib.hid (HB3.out.trans ((Kx.below (X := fun k => k < w.heap.size) (B := w.heap.size) hK (fun _ h => h) HB3.out.size)))
  have hTB := takeB_any hM (by omega) 1 1 0 1 5 (by decide) (by omega) (by omega) (by omega) (by omega)
  have HTB := Lib.hid hTB
  clear hO hR0 hM hK hTB k0
  go_wp2_with fail
  refine HTB.out.mono ?_
  rintro e w5 ⟨v, os, rfl, hS5, hR5, hK5⟩
  unfold BeatR at hR5
  rw [if_neg (by decide), if_neg (by decide)] at hR5
  obtain ⟨rfl, hM5⟩ := hR5
  obtain ⟨lA, lc, rfl, _, _⟩ := hS5.shape_ (n := 1) rfl
  have HB5 := Lib.hid (HB4.out.trans ((Kx.below (X := fun k => k < w.heap.size) (B := w.heap.size) hK5 (fun _ h => h) HB4.out.size)))
  have hTK := tick_any (s := sh1) hM5 11 sh1_heard (by omega) (by decide) (.inr (by decide))
  have HTK := Lib.hid hTK
  clear hS5 hM5 hK5 hTK
  go_wp2_with fail
  refine HTK.out.mono ?_
  rintro e w6 ⟨v6, os6, vs6, rfl, hS6, _, hM6, hK6⟩
  have HB6 := Lib.hid (HB5.out.trans ((Kx.below (X := fun k => k < w.heap.size) (B := w.heap.size) hK6 (fun _ h => h) HB5.out.size)))
  obtain ⟨s2, hs2⟩ : ∃ s2, sh1.tickF 10 11 sh1.v.L.length = s2 := ⟨_, rfl⟩
  rw [hs2] at hM6
  have hsv : s2.v = ⟨2, [⟨1, 1, 0⟩]⟩ := by rw [← hs2]; rfl
  have hsh : s2.hd 1 = 5 := by rw [← hs2]; decide
  have hvi := view_any hM6
  rw [hsv] at hvi
  have HVI := Lib.hid hvi
  have HM6 := Lib.hid hM6
  have HSV := Lib.hid hsv
  have HSH := Lib.hid hsh
  clear hS6 hM6 hK6 hs2 hsv hsh hvi
  go_wp2_with fail
  refine HVI.out.mono ?_
  rintro e w7 ⟨a', b', c', rfl, hV7, hB7⟩
  obtain ⟨A7, a7, B7, b7, C7, c7, rfl, rfl, rfl, _⟩ := hV7.shape
  have HV7 := Lib.hid hV7
  have HB7 := Lib.hid hB7
  clear hV7 hB7
  go_wp2_with fail
  refine (asV_any _ 2 _ _ _ _ _ _ _).mono ?_
  rintro e w8 ⟨rfl, hB8⟩
  have HV8 := Lib.hid (HV7.out.fresh hB8)
  have HM8 := Lib.hid ((HM6.out.fresh HB7.out).fresh hB8)
  have HB8 := Lib.hid ((HB6.out.trans (HB7.out.mono HB6.out.size)).trans (hB8.mono (Nat.le_trans HB6.out.size HB7.out.size)))
  clear hB8
  obtain ⟨W, hW⟩ : ∃ W, ((w8.alloc (.cells #[.int .i64 1] 3)).alloc (.cells #[.int .i64 1] 3)).alloc (.cells #[.int .i64 0] 3) = W := ⟨_, rfl⟩
  have hBW : Below w8.heap.size w8 W := hW ▸ ((((Below.refl _ w8).alloc (Nat.le_refl _) _).alloc (by simp) _).alloc (by rw [World.size_alloc, World.size_alloc]; omega) _)
  have e1 : W.heap[w8.heap.size]? = some (.cells #[.int .i64 1] 3 (0, 0)) := hW ▸ (Below.heap_alloc _ _ _ (by rw [World.size_alloc, World.size_alloc]; omega)).trans ((Below.heap_alloc _ _ _ (by simp)).trans (heap_alloc_new w8 _))
  have e2 : W.heap[w8.heap.size + 1]? = some (.cells #[.int .i64 1] 3 (0, 0)) := by
    have := heap_alloc_new (w8.alloc (.cells #[.int .i64 1] 3)) (.cells #[.int .i64 1] 3)
    rw [World.size_alloc] at this
    exact hW ▸ (Below.heap_alloc _ _ _ (by rw [World.size_alloc, World.size_alloc]; omega)).trans this
  have e3 : W.heap[w8.heap.size + 1 + 1]? = some (.cells #[.int .i64 0] 3 (0, 0)) := by
    have := heap_alloc_new ((w8.alloc (.cells #[.int .i64 1] 3)).alloc (.cells #[.int .i64 1] 3)) (.cells #[.int .i64 0] 3)
    rw [World.size_alloc, World.size_alloc] at this
    exact hW ▸ this
  have hVW : VwSl W (fun _ => True) [⟨1, 1, 0⟩] (.slice (some ⟨w8.heap.size, 0, none⟩) 1 1) (.slice (some ⟨w8.heap.size + 1, 0, none⟩) 1 1) (.slice (some ⟨w8.heap.size + 1 + 1, 0, none⟩) 1 1) :=
    ⟨(Sl.single (enc := intc) (x := 1) e1 rfl).mono fun _ _ _ => trivial, (Sl.single (enc := intc) (x := 1) e2 rfl).mono fun _ _ _ => trivial, (Sl.single (enc := intc) (x := 0) e3 rfl).mono fun _ _ _ => trivial⟩
  have hSA := sameV_eq W 2 [⟨1, 1, 0⟩] _ _ _ _ _ _ (HV8.out.fresh hBW) hVW
  have HSA := Lib.hid hSA
  have HBW := Lib.hid hBW
  clear e1 e2 e3 hVW hSA hBW
  go_wp2_with fail
  refine HSA.out.mono ?_
  rintro e w9 ⟨rfl, hB9⟩
  have HM9 := Lib.hid ((HM8.out.fresh HBW.out).fresh hB9)
  have HB9 := Lib.hid ((HB8.out.trans (HBW.out.mono HB8.out.size)).trans (hB9.mono (Nat.le_trans HB8.out.size HBW.out.size)))
  have h1 := heardM_any HM9.out 1
  have h2 := heardM_any HM9.out 2
  rw [if_pos (by rw [HSV.out]; decide), HSH.out] at h1
  rw [if_neg (by rw [HSV.out]; decide)] at h2
  have H1 := Lib.hid h1
  have H2 := Lib.hid h2
  clear h1 h2 hB9 hW
  go_wp2_with fail
  refine H1.out.mono ?_
  rintro e wa ⟨rfl, rfl⟩
  go_wp2_with fail
  refine H2.out.mono ?_
  rintro e wa ⟨rfl, rfl⟩
  go_wp2_with fail
  go_ret
  exact ⟨rfl, HB9.out⟩
end Go.Proofs.YtoegdpcfhmjnaaaGreatDoor
