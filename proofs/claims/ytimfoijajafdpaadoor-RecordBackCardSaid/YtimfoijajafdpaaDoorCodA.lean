/- Texts and numbers of either sign as bytes: num.PutText, num.PutInt; event.bytes. Under the stated premises on sizes. -/
import Derived.Test.YtimfoijajafdpaaDoorCodP
import Derived.Deep.RegionHeld3
namespace Go.Proofs.YtimfoijajafdpaaDoor
open Go.RowKit Go.Bl
attribute [local go_sem ↓] Go.wp_at_zero Go.wp_at_succ

theorem put_in (w : World) (n : Int) (h0 : 0 ≤ n) (h1 : n ≤ 1099511627776) : Calls Tryd.prog 33 #[.int .i64 n] w fun e w' => e = .returned (.string (Bl (numL n.toNat))) ∧ Below w.heap.size w w' :=
  put_any w n n.toNat (by unfold holdI gmax gmin; omega)
theorem putText_any (w : World) (s : ByteArray) (hs : s.size ≤ 1000000000) : Calls Tryd.prog 55 #[.string s] w fun e w' => e = .returned (.string (Bl (txtL (Lb s)))) ∧ Below w.heap.size w w' := by
  have hl := numL_len (n := s.size) (by omega)
  have hc := put_in w (s.size : Int) (by omega) (by omega)
  rw [show ((s.size : Int).toNat) = s.size by omega] at hc
  have hnov : ¬ 9223372036854775807 < (Bl (numL s.size)).size + s.size := by rw [Bl_size]; omega
  have HC := Lib.hid hc
  clear hc hl
  go_enter Tryd.func55, Tryd.ntmps55
  go_wp2_with fail
  refine HC.out.mono ?_
  rintro e w1 ⟨rfl, hB⟩
  go_wp2_with fail
  go_ret
  refine ⟨?_, hB⟩
  unfold txtL
  rw [Bl_append]
  rfl
theorem xor0 (a : Nat) (ha : a < 9223372036854775808) : bits .xor .i64 (a : Int) 0 = (a : Int) := by
  show IntKind.i64.wrap ((BitVec.ofInt 64 (a : Int) ^^^ BitVec.ofInt 64 (0 : Int)).toNat : Int) = _
  rw [BitVec.toNat_xor, show (BitVec.ofInt 64 (0 : Int)).toNat = 0 from rfl, Nat.xor_zero, ofInt64 a ha, IntKind.wrap_i64]
  omega
set_option maxRecDepth 8000 in
theorem putInt_any (w : World) (n : Int) (h1 : -1 ≤ n) (h2 : n ≤ 274877906944) : Calls Tryd.prog 56 #[.int .i64 n] w fun e w' => e = .returned (.string (Bl (numL (zig n)))) ∧ Below w.heap.size w w' := by
  have hh := hold_any w n (-549755813888) 549755813888
  rw [show holdI n (-549755813888) 549755813888 = n by unfold holdI gmax gmin; omega] at hh
  have hz := zig_le h1 h2
  have hc := put_in w (zig n : Int) (by omega) (by omega)
  rw [Int.toNat_natCast] at hc
  have HH := Lib.hid hh
  clear hh
  by_cases h0 : n = -1
  · subst h0
    rw [show ((zig (-1) : Nat) : Int) = 1 by decide] at hc
    have HC := Lib.hid hc
    clear hc
    go_enter Tryd.func56, Tryd.ntmps56
    go_wp2_with fail
    refine HH.out.mono ?_
    rintro e w1 ⟨rfl, rfl⟩
    go_wp2_with fail
    refine HC.out.mono ?_
    rintro e w1 ⟨rfl, hB⟩
    go_wp2_with fail
    go_ret
    exact ⟨rfl, hB⟩
  · obtain ⟨m, rfl⟩ : ∃ m : Nat, n = (m : Int) := ⟨n.toNat, by omega⟩
    have hzm : zig (m : Int) = 2 * m := by unfold zig; rw [if_pos (by omega)]; omega
    rw [hzm] at hc
    have hx : bits .xor .i64 ((m : Int) * 2) ((m : Int) / 9223372036854775808) = (m : Int) * 2 := by
      have := xor0 (2 * m) (by omega)
      rw [show ((2 * m : Nat) : Int) = (m : Int) * 2 by omega] at this
      rw [show (m : Int) / 9223372036854775808 = 0 by omega]
      exact this
    have HC := Lib.hid hc
    have hcast : ((2 * m : Nat) : Int) = (m : Int) * 2 := by omega
    rw [hcast] at HC
    rw [hzm]
    clear hc hzm
    go_enter Tryd.func56, Tryd.ntmps56
    go_wp2_with fail
    refine HH.out.mono ?_
    rintro e w1 ⟨rfl, rfl⟩
    go_wp2_with fail
    with_reducible refine HC.out.mono ?_
    rintro e w1 ⟨rfl, hB⟩
    go_wp2_with fail
    go_ret
    exact ⟨rfl, hB⟩

set_option maxRecDepth 8000 in
set_option maxHeartbeats 1000000 in
theorem ebytes_any (w : World) (e : Ev) (h1 : e.kind.size ≤ 100000) (h2 : e.data.size ≤ 100000) : Calls Tryd.prog 57 #[.agg #[.string e.kind, .string e.data]] w fun x w' => x = .returned (.string (Bl (evbL e))) ∧ Below w.heap.size w w' := by
  have hB0 : Below w.heap.size w (w.alloc (.cells #[.string e.kind, .string e.data] 55)) := (Below.refl _ w).alloc (Nat.le_refl _) _
  have hblk := heap_alloc_new w (.cells #[.string e.kind, .string e.data] 55)
  have hl1 := txtL_len (l := Lb e.kind) (by rw [Lb_len]; omega)
  have hl2 := txtL_len (l := Lb e.data) (by rw [Lb_len]; omega)
  rw [Lb_len] at hl1 hl2
  have C1 := Lib.hid (fun W => putText_any W e.kind (by omega))
  have C2 := Lib.hid (fun W => putText_any W e.data (by omega))
  have hE : Bl (evbL e) = Bl (txtL (Lb e.kind)) ++ Bl (txtL (Lb e.data)) := by unfold evbL; rw [Bl_append]
  rw [hE]
  obtain ⟨x, hx⟩ : ∃ x, Bl (txtL (Lb e.kind)) = x := ⟨_, rfl⟩
  obtain ⟨y, hy⟩ : ∃ y, Bl (txtL (Lb e.data)) = y := ⟨_, rfl⟩
  have hnov : ¬ 9223372036854775807 < x.size + y.size := by rw [← hx, ← hy, Bl_size, Bl_size]; omega
  rw [hx] at C1 ⊢
  rw [hy] at C2 ⊢
  have HB := Lib.hid hB0
  clear hE hx hy hl1 hl2 hB0
  go_enter Tryd.func57, Tryd.ntmps57
  go_upto_region 1 with (fail)
  obtain ⟨b, hb⟩ : ∃ b, w.heap.size = b := ⟨_, rfl⟩
  rw [hb] at HB hblk ⊢
  generalize w.alloc (.cells #[.string e.kind, .string e.data] 55) = w1 at HB hblk ⊢
  have c0 : w1.cell? ⟨b, 0, none⟩ = some (.string e.kind) := cell_of_row w1 b 0 _ _ _ hblk
  have c1 : w1.cell? ⟨b, 1, none⟩ = some (.string e.data) := cell_of_row w1 b 1 _ _ _ hblk
  have HA := Lib.hid (show Below w1.heap.size w1 w1.drew from ⟨rfl, rfl, rfl, Nat.le_refl _, fun _ _ => rfl⟩)
  clear hblk
  go_region_held3 (fun x => x.cell? ⟨b, 0, none⟩ = some (.string e.kind) ∧ x.cell? ⟨b, 1, none⟩ = some (.string e.data))
    (first | exact ⟨by assumption, by assumption⟩ | go_keep)
    (first
      | (go_at_call 55
         with_reducible refine (C1.out _).mono ?_
         rintro e w2 ⟨rfl, hB2⟩
         have c0 := (hB2.cell (p := ⟨b, 0, none⟩) (World.block_lt_of_cell? _ _ c0)).trans c0
         have c1 := (hB2.cell (p := ⟨b, 1, none⟩) (World.block_lt_of_cell? _ _ c1)).trans c1
         have HA := Lib.hid (HA.out.trans (hB2.mono HA.out.size))
         clear hB2
        )
      | (go_at_call 55
         with_reducible refine (C2.out _).mono ?_
         rintro e w2 ⟨rfl, hB2⟩
         have c0 := (hB2.cell (p := ⟨b, 0, none⟩) (World.block_lt_of_cell? _ _ c0)).trans c0
         have c1 := (hB2.cell (p := ⟨b, 1, none⟩) (World.block_lt_of_cell? _ _ c1)).trans c1
         have HA := Lib.hid (HA.out.trans (hB2.mono HA.out.size))
         clear hB2
        ))
  go_wp2_with fail
  go_ret
  exact ⟨rfl, by rw [hb]; exact HB.out.trans (HA.out.mono (by have := HB.out.size; omega))⟩
end Go.Proofs.YtimfoijajafdpaaDoor
