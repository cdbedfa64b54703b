/- What was put is taken: num.Take, TakeText, TakeInt; the reader of event. Under the stated premises on sizes. -/
import Derived.Test.YtimfoijajafdpaaDoorCodP
import Derived.Test.YtimfoijajafdpaaDoorBlL
import Derived.Test.YtimfoijajafdpaaDoorBlP
namespace Go.Proofs.YtimfoijajafdpaaDoor
open Go.RowKit Go.Bl
attribute [local go_sem ↓] Go.wp_at_zero Go.wp_at_succ

theorem take_num (w : World) (n : Nat) (hn : n ≤ 1099511627776) (r : List UInt8) (hr : r.length ≤ 100000000) : Calls Tryd.prog 41 #[.string (Bl (numL n ++ r))] w fun e w' => e = .returned (.tuple #[.int .i64 n, .string (Bl r), .int .i64 0]) ∧ Below w.heap.size w w' := by
  have hl := numL_len hn
  have := take_any w (Bl (numL n ++ r)) (by rw [Bl_size, List.length_append]; omega)
  rw [Lb_Bl, tkN_num hn] at this
  exact this
set_option maxRecDepth 8000 in
theorem takeText_ok (w : World) (t : ByteArray) (m : Int) (ht : (t.size : Int) ≤ m) (ht2 : t.size ≤ 100000) (r : List UInt8) (hr : r.length ≤ 10000000) : Calls Tryd.prog 84 #[.string (Bl (txtL (Lb t) ++ r)), .int .i64 m] w fun e w' => e = .returned (.tuple #[.string t, .string (Bl r), .int .i64 0]) ∧ Below w.heap.size w w' := by
  have hc := take_num w t.size (by omega) (Lb t ++ r) (by rw [List.length_append, Lb_len]; omega)
  have hs : txtL (Lb t) ++ r = numL t.size ++ (Lb t ++ r) := by unfold txtL; rw [List.append_assoc]; rfl
  rw [hs]
  obtain ⟨P, hP⟩ : ∃ P, Bl (Lb t ++ r) = P := ⟨_, rfl⟩
  have hPs : P.size = t.size + r.length := by rw [← hP, Bl_size, List.length_append]; rfl
  have h1 : P.extract 0 t.size = t := by
    rw [ext_head, ← hP, Lb_Bl, ← Lb_len, List.take_left]; rfl
  have h2 : P.extract t.size P.size = Bl r := by
    rw [ext_tail, ← hP, Lb_Bl, ← Lb_len, List.drop_left]
  rw [hP] at hc
  have hle : t.size ≤ P.size := by omega
  have hPb : P.size ≤ 100000000 := by omega
  have d1 : decide (m < (t.size : Int)) = false := by simp; omega
  have d2 : decide (P.size < t.size) = false := by simp; omega
  have HC := Lib.hid hc
  clear hc hs hP hPs
  go_enter Tryd.func84, Tryd.ntmps84
  go_wp2_with fail
  refine HC.out.mono ?_
  rintro e w1 ⟨rfl, hB⟩
  go_wp2_with fail
  go_quiet (fail)
  go_wp2_with fail
  go_ret3
  exact ⟨rfl, hB.trans ⟨rfl, rfl, rfl, Nat.le_refl _, fun _ _ => rfl⟩⟩
theorem and1 (a : Nat) (ha : a < 4611686018427387904) : bits .and .i64 ((a : Int) * 2) 1 = 0 := by
  show IntKind.i64.wrap ((BitVec.ofInt 64 ((a : Int) * 2) &&& BitVec.ofInt 64 (1 : Int)).toNat : Int) = _
  rw [show (a : Int) * 2 = ((a * 2 : Nat) : Int) by omega, BitVec.toNat_and, ofInt64 (a * 2) (by omega), show (BitVec.ofInt 64 (1 : Int)).toNat = 1 from rfl, Nat.and_one_is_mod]
  rw [show a * 2 % 2 = 0 by omega]
  rfl
theorem xorN (a : Nat) (ha : a < 9223372036854775808) : bits .xor .i64 (a : Int) 0 = (a : Int) := by
  show IntKind.i64.wrap ((BitVec.ofInt 64 (a : Int) ^^^ BitVec.ofInt 64 (0 : Int)).toNat : Int) = _
  rw [BitVec.toNat_xor, show (BitVec.ofInt 64 (0 : Int)).toNat = 0 from rfl, Nat.xor_zero, ofInt64 a ha, IntKind.wrap_i64]
  omega
set_option maxRecDepth 8000 in
theorem takeInt_ok (w : World) (n : Int) (h1 : -1 ≤ n) (h2 : n ≤ 274877906944) (r : List UInt8) (hr : r.length ≤ 100000000) : Calls Tryd.prog 85 #[.string (Bl (numL (zig n) ++ r))] w fun e w' => e = .returned (.tuple #[.int .i64 n, .string (Bl r), .int .i64 0]) ∧ Below w.heap.size w w' := by
  have hz := zig_le h1 h2
  have hc := take_num w (zig n) (by omega) r hr
  by_cases h0 : n = -1
  · subst h0
    rw [show zig (-1) = 1 by decide] at hc ⊢
    have e1 : bits .and .i64 1 1 = 1 := by decide
    have e2 : bits .xor .i64 0 (-1) = -1 := by decide
    have HC := Lib.hid hc
    clear hc
    go_enter Tryd.func85, Tryd.ntmps85
    go_wp2_with fail
    refine HC.out.mono ?_
    rintro e w1 ⟨rfl, hB⟩
    go_wp2_with fail
    go_ret3
    exact ⟨rfl, hB⟩
  · obtain ⟨a, rfl⟩ : ∃ a : Nat, n = (a : Int) := ⟨n.toNat, by omega⟩
    have hzm : zig (a : Int) = a * 2 := by unfold zig; rw [if_pos (by omega)]; omega
    rw [hzm] at hc ⊢
    have e1 := and1 a (by omega)
    have e2 := xorN a (by omega)
    have e3 : (a : Int) * 2 / 2 = (a : Int) := by omega
    rw [show ((a * 2 : Nat) : Int) = (a : Int) * 2 by omega] at hc
    have HC := Lib.hid hc
    clear hc hzm hz
    go_enter Tryd.func85, Tryd.ntmps85
    go_wp2_with fail
    refine HC.out.mono ?_
    rintro e w1 ⟨rfl, hB⟩
    go_wp2_with fail
    go_ret3
    exact ⟨rfl, hB⟩

/-- The reader at p has L left, and no error. -/
def Rd (w : World) (p : Nat) (L : List UInt8) : Prop := w.heap[p]? = some (.cells #[.string (Bl L), .int .i64 0] 94 (0, 0))
theorem Rd.fresh {w w' : World} {p : Nat} {L : List UInt8} (h : Rd w p L) (hB : Below w.heap.size w w') : Rd w' p L := (hB.block p (Array.getElem?_eq_some_iff.1 h).1).trans h
theorem Rd.lt {w : World} {p : Nat} {L : List UInt8} (h : Rd w p L) : p < w.heap.size := (Array.getElem?_eq_some_iff.1 h).1
set_option maxRecDepth 8000 in
theorem number_ok (w : World) (p : Nat) (n : Nat) (hn : n ≤ 1099511627776) (r : List UInt8) (hr : r.length ≤ 100000000) (L : List UInt8) (hL : L = numL n ++ r) (h : Rd w p L) :
    Calls Tryd.prog 65 #[.pointer (some ⟨p, 0, none⟩)] w fun e w' => e = .returned (.int .i64 n) ∧ Rd w' p r ∧ Keeps (fun k => k = p) w w' := by
  have hc := take_num w n hn r hr
  rw [← hL] at hc
  unfold Rd at *
  clear hL
  have c0 : w.cell? ⟨p, 0, none⟩ = some (.string (Bl L)) := cell_of_row w p 0 _ _ _ h
  have c1 : w.cell? ⟨p, 1, none⟩ = some (.int .i64 0) := cell_of_row w p 1 _ _ _ h
  have HH := Lib.hid h
  have HC := Lib.hid hc
  clear hc h
  go_enter Tryd.func65, Tryd.ntmps65
  go_wp2_with fail
  refine HC.out.mono ?_
  rintro e w1 ⟨rfl, hB1⟩
  have k1 := (hB1.block p (Array.getElem?_eq_some_iff.1 HH.out).1).trans HH.out
  have c0 : w1.cell? ⟨p, 0, none⟩ = some (.string (Bl L)) := cell_of_row w1 p 0 _ _ _ k1
  have c1 : w1.cell? ⟨p, 1, none⟩ = some (.int .i64 0) := cell_of_row w1 p 1 _ _ _ k1
  have f0 : w1.frozen? ⟨p, 0, none⟩ = false := frozen_block k1 0
  have f1 : w1.frozen? ⟨p, 1, none⟩ = false := frozen_block k1 1
  have K1 := Lib.hid k1
  have HB1 := Lib.hid hB1
  clear k1 hB1
  go_wp2_with fail
  go_ret
  have k3 := setCell_block' (o := 1) (setCell_block' (o := 0) K1.out (.string (Bl r))) (.int .i64 0)
  have hk3 : Keeps (fun k => k = p) w1 _ := ((Keeps.refl (fun k => k = p) w1).setCell (p := ⟨p, 0, none⟩) (fun _ => rfl) (.string (Bl r))).setCell (p := ⟨p, 1, none⟩) (fun _ => rfl) (.int .i64 0)
  exact ⟨rfl, k3, (Keeps.of_fresh HB1.out (fun k => k = p)).trans hk3⟩
set_option maxRecDepth 8000 in
theorem signed_ok (w : World) (p : Nat) (n : Int) (h1 : -1 ≤ n) (h2 : n ≤ 274877906944) (r : List UInt8) (hr : r.length ≤ 100000000) (L : List UInt8) (hL : L = numL (zig n) ++ r) (h : Rd w p L) :
    Calls Tryd.prog 64 #[.pointer (some ⟨p, 0, none⟩)] w fun e w' => e = .returned (.int .i64 n) ∧ Rd w' p r ∧ Keeps (fun k => k = p) w w' := by
  have hc := takeInt_ok w n h1 h2 r hr
  rw [← hL] at hc
  unfold Rd at *
  clear hL
  have c0 : w.cell? ⟨p, 0, none⟩ = some (.string (Bl L)) := cell_of_row w p 0 _ _ _ h
  have c1 : w.cell? ⟨p, 1, none⟩ = some (.int .i64 0) := cell_of_row w p 1 _ _ _ h
  have HH := Lib.hid h
  have HC := Lib.hid hc
  clear hc h
  go_enter Tryd.func64, Tryd.ntmps64
  go_wp2_with fail
  refine HC.out.mono ?_
  rintro e w1 ⟨rfl, hB1⟩
  have k1 := (hB1.block p (Array.getElem?_eq_some_iff.1 HH.out).1).trans HH.out
  have c0 : w1.cell? ⟨p, 0, none⟩ = some (.string (Bl L)) := cell_of_row w1 p 0 _ _ _ k1
  have c1 : w1.cell? ⟨p, 1, none⟩ = some (.int .i64 0) := cell_of_row w1 p 1 _ _ _ k1
  have f0 : w1.frozen? ⟨p, 0, none⟩ = false := frozen_block k1 0
  have f1 : w1.frozen? ⟨p, 1, none⟩ = false := frozen_block k1 1
  have K1 := Lib.hid k1
  have HB1 := Lib.hid hB1
  clear k1 hB1
  go_wp2_with fail
  go_ret
  have k3 := setCell_block' (o := 1) (setCell_block' (o := 0) K1.out (.string (Bl r))) (.int .i64 0)
  have hk3 : Keeps (fun k => k = p) w1 _ := ((Keeps.refl (fun k => k = p) w1).setCell (p := ⟨p, 0, none⟩) (fun _ => rfl) (.string (Bl r))).setCell (p := ⟨p, 1, none⟩) (fun _ => rfl) (.int .i64 0)
  exact ⟨rfl, k3, (Keeps.of_fresh HB1.out (fun k => k = p)).trans hk3⟩
set_option maxRecDepth 8000 in
theorem rname_ok (w : World) (p : Nat) (t : ByteArray) (ht : t.size ≤ 200) (r : List UInt8) (hr : r.length ≤ 10000000) (L : List UInt8) (hL : L = txtL (Lb t) ++ r) (h : Rd w p L) :
    Calls Tryd.prog 63 #[.pointer (some ⟨p, 0, none⟩)] w fun e w' => e = .returned (.string t) ∧ Rd w' p r ∧ Keeps (fun k => k = p) w w' := by
  have hc := takeText_ok w t 200 (by omega) (by omega) r hr
  rw [← hL] at hc
  unfold Rd at *
  clear hL
  have c0 : w.cell? ⟨p, 0, none⟩ = some (.string (Bl L)) := cell_of_row w p 0 _ _ _ h
  have c1 : w.cell? ⟨p, 1, none⟩ = some (.int .i64 0) := cell_of_row w p 1 _ _ _ h
  have HH := Lib.hid h
  have HC := Lib.hid hc
  clear hc h
  go_enter Tryd.func63, Tryd.ntmps63
  go_wp2_with fail
  refine HC.out.mono ?_
  rintro e w1 ⟨rfl, hB1⟩
  have k1 := (hB1.block p (Array.getElem?_eq_some_iff.1 HH.out).1).trans HH.out
  have c0 : w1.cell? ⟨p, 0, none⟩ = some (.string (Bl L)) := cell_of_row w1 p 0 _ _ _ k1
  have c1 : w1.cell? ⟨p, 1, none⟩ = some (.int .i64 0) := cell_of_row w1 p 1 _ _ _ k1
  have f0 : w1.frozen? ⟨p, 0, none⟩ = false := frozen_block k1 0
  have f1 : w1.frozen? ⟨p, 1, none⟩ = false := frozen_block k1 1
  have K1 := Lib.hid k1
  have HB1 := Lib.hid hB1
  clear k1 hB1
  go_wp2_with fail
  go_ret
  have k3 := setCell_block' (o := 1) (setCell_block' (o := 0) K1.out (.string (Bl r))) (.int .i64 0)
  have hk3 : Keeps (fun k => k = p) w1 _ := ((Keeps.refl (fun k => k = p) w1).setCell (p := ⟨p, 0, none⟩) (fun _ => rfl) (.string (Bl r))).setCell (p := ⟨p, 1, none⟩) (fun _ => rfl) (.int .i64 0)
  exact ⟨rfl, k3, (Keeps.of_fresh HB1.out (fun k => k = p)).trans hk3⟩
set_option maxRecDepth 8000 in
set_option maxHeartbeats 1000000 in
theorem event_ok (w : World) (p : Nat) (e : Ev) (h1 : e.kind.size ≤ 200) (h2 : e.data.size ≤ 200) (r : List UInt8) (hr : r.length ≤ 1000000) (h : Rd w p (evbL e ++ r)) :
    Calls Tryd.prog 67 #[.pointer (some ⟨p, 0, none⟩)] w fun x w' => x = .returned (.agg #[.string e.kind, .string e.data]) ∧ Rd w' p r ∧ Keeps (fun k => k = p) w w' := by
  have hl := txtL_len (l := Lb e.data) (by rw [Lb_len]; omega)
  rw [Lb_len] at hl
  have e0 : evbL e ++ r = txtL (Lb e.kind) ++ (txtL (Lb e.data) ++ r) := by unfold evbL; rw [List.append_assoc]
  have hB0 : Below w.heap.size w (w.alloc (.cells #[.string ⟨#[]⟩, .string ⟨#[]⟩] 55)) := (Below.refl _ w).alloc (Nat.le_refl _) _
  have hblk := heap_alloc_new w (.cells #[.string ⟨#[]⟩, .string ⟨#[]⟩] 55)
  have hpl := h.lt
  have HR := Lib.hid (h.fresh hB0)
  have E0 := Lib.hid e0
  clear h e0
  go_enter Tryd.func67, Tryd.ntmps67
  go_upto_region 2 with (fail)
  generalize w.alloc (.cells #[.string ⟨#[]⟩, .string ⟨#[]⟩] 55) = w1 at hB0 hblk HR ⊢
  obtain ⟨g, hg⟩ : ∃ g, w.heap.size = g := ⟨_, rfl⟩
  rw [hg] at hblk hpl ⊢
  have HG := Lib.hid hg
  have HB0 := Lib.hid hB0
  have HBK := Lib.hid hblk
  clear hg hB0 hblk
  go_wp2_with fail
  refine (rname_ok w1 p e.kind h1 (txtL (Lb e.data) ++ r) (by rw [List.length_append]; omega) _ E0.out HR.out).mono ?_
  rintro x w2 ⟨rfl, hR2, hK2⟩
  have HR2 := Lib.hid hR2
  have HBK2 := Lib.hid (hK2.grownTo HBK.out (fun e => by omega))
  have HK2 := Lib.hid hK2
  clear hR2 hK2
  go_wp2_with fail
  refine (rname_ok w2 p e.data h2 r (by omega) _ rfl HR2.out).mono ?_
  rintro x w3 ⟨rfl, hR3, hK3⟩
  have hbk3 := hK3.grownTo HBK2.out (fun e => by omega)
  have HR3 := Lib.hid hR3
  have HK3 := Lib.hid ((Keeps.of_fresh HB0.out (fun k => k = p)).trans (HK2.out.trans hK3))
  have z0 : w3.cell? ⟨g, 0, none⟩ = some (.string ⟨#[]⟩) := cell_of_row w3 g 0 _ _ _ hbk3
  have z1 : w3.cell? ⟨g, 1, none⟩ = some (.string ⟨#[]⟩) := cell_of_row w3 g 1 _ _ _ hbk3
  have f0 : w3.frozen? ⟨g, 0, none⟩ = false := frozen_block hbk3 0
  have f1 : w3.frozen? ⟨g, 1, none⟩ = false := frozen_block hbk3 1
  have HBK3 := Lib.hid hbk3
  clear hR3 hK3 hbk3
  go_wp2_with fail
  have hk4 := setCell_block' (o := 1) (v := .string e.data) (setCell_block' (o := 0) (v := .string e.kind) HBK3.out)
  have hkS : Keeps (fun k => k = g) w3 _ := ((Keeps.refl (fun k => k = g) w3).setCell (p := ⟨g, 0, none⟩) (fun _ => rfl) (.string e.kind)).setCell (p := ⟨g, 1, none⟩) (fun _ => rfl) (.string e.data)
  generalize (w3.setCell ⟨g, 0, none⟩ (.string e.kind)).setCell ⟨g, 1, none⟩ (.string e.data) = w4 at hk4 hkS ⊢
  have q0 : w4.cell? ⟨g, 0, none⟩ = some (.string e.kind) := cell_of_row w4 _ 0 _ _ _ hk4
  have q1 : w4.cell? ⟨g, 1, none⟩ = some (.string e.data) := cell_of_row w4 _ 1 _ _ _ hk4
  refine bodyPost_ret (v := .agg #[.string e.kind, .string e.data]) (by simp [results, Tryd.results67, go_sem, q0, q1]) rfl ⟨rfl, hkS.grownTo HR3.out (fun e => by omega), ?_⟩
  exact HK3.out.andThen hkS (fun i hi e => by have := HG.out; omega)
end Go.Proofs.YtimfoijajafdpaaDoor
