/- The master takes a message that is neither a Beat nor a Join: it is told, if it asks. Under the stated premises on sizes. -/
import Derived.Test.YtoegdpcfhmjnaaaGreatDoorMstJ
import Derived.Handy
namespace Go.Proofs.YtoegdpcfhmjnaaaGreatDoor
open Go.RowKit Go.Bl
attribute [local go_sem ↓] Go.wp_at_zero Go.wp_at_succ

theorem zeroBeat (w : World) : (zeroValue 76).run Tryz.prog w = .ok (.agg #[.int .i64 0, .int .i64 0, .int .i64 0]) w := by kernel_rfl
theorem zeroJoin (w : World) : (zeroValue 48).run Tryz.prog w = .ok (.agg #[.int .i64 0, .int .i64 0]) w := by kernel_rfl
theorem not_beat (T : TypeId) (hT : T ≠ 76) (v : Value) (xT : TypeId) (w : World) : (Instr.typeAssert (.iface T v) xT 76 true).run Tryz.prog w = .ok (.tuple #[.agg #[.int .i64 0, .int .i64 0, .int .i64 0], .bool false]) w := by
  simp [Instr.typeAssert, run_underlying Tryz.underlying76, hT]
theorem not_join (T : TypeId) (hT : T ≠ 48) (v : Value) (xT : TypeId) (w : World) : (Instr.typeAssert (.iface T v) xT 48 true).run Tryz.prog w = .ok (.tuple #[.agg #[.int .i64 0, .int .i64 0], .bool false]) w := by
  simp [Instr.typeAssert, run_underlying Tryz.underlying48, hT]
theorem as_join (v : Value) (xT : TypeId) (w : World) : (Instr.typeAssert (.iface 48 v) xT 48 true).run Tryz.prog w = .ok (.tuple #[v, .bool true]) w := by
  simp [Instr.typeAssert, run_underlying Tryz.underlying48]
theorem kindW_any (w : World) (id : Int) : Calls Tryz.prog 157 #[.agg #[.int .i64 id]] w fun e w' => e = .returned (.int .i64 5) ∧ Below w.heap.size w w' := by
  go_enter Tryz.func157, Tryz.ntmps157
  go_wp2_with fail
  go_ret
  exact ⟨rfl, (Below.refl _ w).alloc (Nat.le_refl _) _⟩
set_option maxRecDepth 8000 in
set_option maxHeartbeats 4000000 in
theorem takeW_any {X : Nat → Prop} {w : World} {m p : Nat} {room fail : Int} {vs : List Vw} {s : Ms} {c : Nat} (h : Mst X w m p room fail vs s c) (id frm now : Int) :
    Calls Tryz.prog 9 #[.pointer (some ⟨m, 0, none⟩), .int .i64 frm, .iface 37 (.agg #[.int .i64 id]), .int .i64 now] w fun e w' => ∃ v o, e = .returned v ∧ Sl w' (fun k => w.heap.size ≤ k) 2 outc v [o] ∧ o.rcv = frm ∧ VOut w' (fun k => w.heap.size ≤ k) s.v o ∧ Below w.heap.size w w' := by
  have H := Lib.hid h
  have hb := fun W => not_beat 37 (by decide) (.agg #[.int .i64 id]) 39 W
  have hj := fun W => not_join 37 (by decide) (.agg #[.int .i64 id]) 39 W
  clear h
  go_enter Tryz.func9, Tryz.ntmps9
  go_upto_region 9 with (fail)
  have hB : Below w.heap.size w ((w.alloc (.cells #[.int .i64 0, .int .i64 0, .int .i64 0] 76)).alloc (.cells #[.int .i64 0, .int .i64 0] 48)) := ((Below.refl _ w).alloc (Nat.le_refl _) _).alloc (by simp) _
  generalize (w.alloc (.cells #[.int .i64 0, .int .i64 0, .int .i64 0] 76)).alloc (.cells #[.int .i64 0, .int .i64 0] 48) = w1 at hB ⊢
  have HB := Lib.hid hB
  have HT := Lib.hid fun W (hW : Below w1.heap.size w1 W) => tell_any ((H.out.fresh hB).fresh hW) frm
  clear hB hb hj
  go_wp2_with fail
  refine (kindW_any w1 id).mono ?_
  rintro e w2 ⟨rfl, hB2⟩
  have HC := Lib.hid (HT.out w2 hB2)
  have HB2 := Lib.hid (HB.out.trans (hB2.mono HB.out.size))
  clear hB2
  go_wp2_with fail
  refine HC.out.mono ?_
  rintro e w3 ⟨v, o, rfl, hS, hr, hV, hB3⟩
  have HE := Lib.hid (And.intro hS (And.intro hr (And.intro hV hB3)))
  clear hS hr hV hB3
  go_wp2_with fail
  go_ret
  obtain ⟨hS, hr, hV, hB3⟩ := HE.out
  have hs := HB2.out.size
  exact ⟨_, o, rfl, hS.mono fun k _ hk => Nat.le_trans hs hk, hr, hV.mono fun k _ hk => Nat.le_trans hs hk, HB2.out.trans (hB3.mono hs)⟩
theorem kindB_any (w : World) (a b c : Int) : Calls Tryz.prog 160 #[.agg #[.int .i64 a, .int .i64 b, .int .i64 c]] w fun e w' => e = .returned (.int .i64 1) ∧ Below w.heap.size w w' := by
  go_enter Tryz.func160, Tryz.ntmps160
  go_wp2_with fail
  go_ret
  exact ⟨rfl, (Below.refl _ w).alloc (Nat.le_refl _) _⟩
set_option maxRecDepth 8000 in
set_option maxHeartbeats 4000000 in
theorem takeX_any {X : Nat → Prop} {w : World} {m p : Nat} {room fail : Int} {vs : List Vw} {s : Ms} {c : Nat} (h : Mst X w m p room fail vs s c) (node epoch last frm now : Int) (hk : frm ∉ s.v.nodes) :
    Calls Tryz.prog 9 #[.pointer (some ⟨m, 0, none⟩), .int .i64 frm, .iface 76 (.agg #[.int .i64 node, .int .i64 epoch, .int .i64 last]), .int .i64 now] w fun e w' => ∃ v o, e = .returned v ∧ Sl w' (fun k => w.heap.size ≤ k) 2 outc v [o] ∧ o.rcv = frm ∧ VOut w' (fun k => w.heap.size ≤ k) s.v o ∧ Below w.heap.size w w' := by
  have hB0 : Below w.heap.size w (w.alloc (.cells #[.int .i64 node, .int .i64 epoch, .int .i64 last] 76)) := (Below.refl _ w).alloc (Nat.le_refl _) _
  have H := Lib.hid (h.fresh hB0)
  have HB0 := Lib.hid hB0
  have hin := in_any (h.fresh hB0) frm
  rw [decide_eq_false hk] at hin
  have HIN := Lib.hid hin
  have hb := fun W => as_beat (.agg #[.int .i64 node, .int .i64 epoch, .int .i64 last]) 39 W
  have hj := fun W => not_join 76 (by decide) (.agg #[.int .i64 node, .int .i64 epoch, .int .i64 last]) 39 W
  clear h hB0 hin hk
  go_enter Tryz.func9, Tryz.ntmps9
  go_upto_region 2 with (fail)
  generalize w.alloc (.cells #[.int .i64 node, .int .i64 epoch, .int .i64 last] 76) = w1 at HB0 H HIN ⊢
  go_wp2_with fail
  refine HIN.out.mono ?_
  rintro e w2 ⟨rfl, rfl⟩
  go_upto_region 9 with (fail)
  have hB : Below w1.heap.size w1 (w1.alloc (.cells #[.int .i64 0, .int .i64 0] 48)) := (Below.refl _ w1).alloc (Nat.le_refl _) _
  generalize w1.alloc (.cells #[.int .i64 0, .int .i64 0] 48) = w3 at hB ⊢
  have HT := Lib.hid fun W (hW : Below w3.heap.size w3 W) => tell_any ((H.out.fresh hB).fresh hW) frm
  have HB := Lib.hid (HB0.out.trans (hB.mono HB0.out.size))
  clear hB hb hj
  go_wp2_with fail
  refine (kindB_any w3 node epoch last).mono ?_
  rintro e w4 ⟨rfl, hB2⟩
  have HC := Lib.hid (HT.out w4 hB2)
  have HB2 := Lib.hid (HB.out.trans (hB2.mono HB.out.size))
  clear hB2
  go_wp2_with fail
  refine HC.out.mono ?_
  rintro e w5 ⟨v, o, rfl, hS, hr, hV, hB3⟩
  have HE := Lib.hid (And.intro hS (And.intro hr (And.intro hV hB3)))
  clear hS hr hV hB3
  go_wp2_with fail
  go_ret
  obtain ⟨hS, hr, hV, hB3⟩ := HE.out
  have hs := HB2.out.size
  exact ⟨_, o, rfl, hS.mono fun k _ hk => Nat.le_trans hs hk, hr, hV.mono fun k _ hk => Nat.le_trans hs hk, HB2.out.trans (hB3.mono hs)⟩
theorem kindJ_any (w : World) (a b : Int) : Calls Tryz.prog 158 #[.agg #[.int .i64 a, .int .i64 b]] w fun e w' => e = .returned (.int .i64 2) ∧ Below w.heap.size w w' := by
  go_enter Tryz.func158, Tryz.ntmps158
  go_wp2_with fail
  go_ret
  exact ⟨rfl, (Below.refl _ w).alloc (Nat.le_refl _) _⟩
set_option maxRecDepth 8000 in
set_option maxHeartbeats 4000000 in
theorem takeJ_any {X : Nat → Prop} {w : World} {m p : Nat} {room fail : Int} {vs : List Vw} {s : Ms} {c : Nat} (h : Mst X w m p room fail vs s c) (node boot frm now : Int) (hk : frm ∈ s.v.nodes) :
    Calls Tryz.prog 9 #[.pointer (some ⟨m, 0, none⟩), .int .i64 frm, .iface 48 (.agg #[.int .i64 node, .int .i64 boot]), .int .i64 now] w fun e w' => ∃ v o, e = .returned v ∧ Sl w' (fun k => w.heap.size ≤ k) 2 outc v [o] ∧ o.rcv = frm ∧ VOut w' (fun k => w.heap.size ≤ k) s.v o ∧ Below w.heap.size w w' := by
  have hB0 : Below w.heap.size w ((w.alloc (.cells #[.int .i64 0, .int .i64 0, .int .i64 0] 76)).alloc (.cells #[.int .i64 node, .int .i64 boot] 48)) := ((Below.refl _ w).alloc (Nat.le_refl _) _).alloc (by simp) _
  have H := Lib.hid (h.fresh hB0)
  have HB0 := Lib.hid hB0
  have hin := in_any (h.fresh hB0) frm
  rw [decide_eq_true hk] at hin
  have HIN := Lib.hid hin
  have hb := fun W => not_beat 48 (by decide) (.agg #[.int .i64 node, .int .i64 boot]) 39 W
  have hj := fun W => as_join (.agg #[.int .i64 node, .int .i64 boot]) 39 W
  clear h hB0 hin hk
  go_enter Tryz.func9, Tryz.ntmps9
  go_upto_region 5 with (fail)
  generalize (w.alloc (.cells #[.int .i64 0, .int .i64 0, .int .i64 0] 76)).alloc (.cells #[.int .i64 node, .int .i64 boot] 48) = w3 at HB0 H HIN ⊢
  go_wp2_with fail
  refine HIN.out.mono ?_
  rintro e w2 ⟨rfl, rfl⟩
  go_upto_region 9 with (fail)
  have HT := Lib.hid fun W (hW : Below w3.heap.size w3 W) => tell_any (H.out.fresh hW) frm
  have HB := Lib.hid HB0.out
  clear hb hj
  go_wp2_with fail
  refine (kindJ_any w3 node boot).mono ?_
  rintro e w4 ⟨rfl, hB2⟩
  have HC := Lib.hid (HT.out w4 hB2)
  have HB2 := Lib.hid (HB.out.trans (hB2.mono HB.out.size))
  clear hB2
  go_wp2_with fail
  refine HC.out.mono ?_
  rintro e w5 ⟨v, o, rfl, hS, hr, hV, hB3⟩
  have HE := Lib.hid (And.intro hS (And.intro hr (And.intro hV hB3)))
  clear hS hr hV hB3
  go_wp2_with fail
  go_ret
  obtain ⟨hS, hr, hV, hB3⟩ := HE.out
  have hs := HB2.out.size
  exact ⟨_, o, rfl, hS.mono fun k _ hk => Nat.le_trans hs hk, hr, hV.mono fun k _ hk => Nat.le_trans hs hk, HB2.out.trans (hB3.mono hs)⟩
end Go.Proofs.YtoegdpcfhmjnaaaGreatDoor
