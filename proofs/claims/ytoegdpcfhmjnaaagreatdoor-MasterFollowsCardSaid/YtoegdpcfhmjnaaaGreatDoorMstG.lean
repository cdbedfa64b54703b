/- The master hears a node. Under the stated premises on sizes. -/
import Derived.Test.YtoegdpcfhmjnaaaGreatDoorBlR
import Derived.BigQuiet
import Derived.Test.YtoegdpcfhmjnaaaGreatDoorMstF
/- A still walk by the quiet one. Proved for every program; no condition. -/
namespace Go.Bl

theorem still_op {P : Program} {o : Oper} {a : Act} {w : World} {K : Act → Prop} (hh : o.quiet P a (fun w' => w' = w) K) : o.still P a w K := by
  obtain ⟨v, h1, h2⟩ := hh
  have h3 := h1 w rfl
  unfold Oper.quietAt at h3
  unfold Oper.still
  generalize (execOp a.eval o).run P w = r at *
  cases r with
  | ok n w' =>
    cases n <;> simp only [Oper.quietUpon] at h3 <;> simp only [Oper.stillUpon]
    case value u =>
      obtain ⟨e1, e2⟩ := h3
      rw [e1, e2]
      exact ⟨rfl, h2⟩
    case skip =>
      obtain ⟨e1, e2⟩ := h3
      rw [e1, ← e2]
      exact ⟨rfl, h2⟩
    case enter f args =>
      obtain ⟨e1, hc⟩ := h3
      exact ⟨e1, v, hc, h2⟩
  | halt x w' => simp only [Oper.quietUpon] at h3
theorem still_of_quiet {P : Program} {ops : Array Oper} {w : World} {Q : Act → Prop} : ∀ {l : List Oper} {a : Act}, wpQuiet P ops (fun w' => w' = w) Q l a → wpStill P ops w Q l a
  | [], _, h => h
  | o :: rest, a, h => by
    unfold wpQuiet at h
    unfold wpStill
    split
    · rename_i hw
      rw [if_pos hw] at h
      obtain ⟨v, h1, h2⟩ := h
      exact still_op ⟨v, h1, still_of_quiet h2⟩
    · rename_i hw
      rw [if_neg hw] at h
      exact still_of_quiet h
end Go.Bl

namespace Go.Proofs.YtoegdpcfhmjnaaaGreatDoor
open Go.RowKit Go.Bl
attribute [local go_sem ↓] Go.wp_at_zero Go.wp_at_succ

theorem Qd.write {Y G : Nat → Prop} {w w' : World} {p : Nat} {d : Dk} (h : Qd Y w p d) (hk : Keeps G w w') (hG : ∀ k, G k → Y k ∧ 2 ≤ k) : Qd Y w' p d :=
  h.keep (hk.mono fun k _ h1 => (hG k h1).1) (h.tabs.keep hk (fun k h1 => (hG k h1).2) h.tabs.lt)
theorem MapI.store {w : World} {b c : Nat} {g : Int → Option Value} (h : MapI w b g c) (hc : c < 1000000000) {x : Int} (hx : i64 x) (val : Value) :
    ∃ w', (Instr.mapUpdate 87 (.map (some b)) (.int .i64 x) val).run Tryz.prog w = .ok () w' ∧ MapI w' b (fun y => if y = x then some val else g y) (c + 1) ∧ Keeps (fun k => k = b) w w' ∧ w'.heap.size = w.heap.size := by
  obtain ⟨n, hn, h1⟩ := h
  obtain ⟨w', hr, h2, h3, h4, _⟩ := h1.store lawI intLit_inj Tryz.underlying87 (by unfold maxLen; omega) (keyI hx) val
  exact ⟨w', hr, ⟨_, by split <;> omega, h2⟩, (Keeps.of_grown h3).mono fun k _ e => (Option.some.inj e).symm, h4⟩
theorem MapI.delete {w : World} {b c : Nat} {g : Int → Option Value} (h : MapI w b g c) {x : Int} (hx : i64 x) (ty : TypeId) :
    ∃ w', (Builtin.delete_ #[87, 3] ty #[.map (some b), .int .i64 x]).run Tryz.prog w = .ok (.tuple #[]) w' ∧ MapI w' b (fun y => if y = x then none else g y) c ∧ Keeps (fun k => k = b) w w' ∧ w'.heap.size = w.heap.size := by
  obtain ⟨n, hn, h1⟩ := h
  obtain ⟨w', hr, h2, h3, h4, _⟩ := h1.delete lawI intLit_inj Tryz.underlying87 (keyI hx) ty
  exact ⟨w', hr, ⟨_, by split <;> omega, h2⟩, (Keeps.of_grown h3).mono fun k _ e => (Option.some.inj e).symm, h4⟩
theorem MapI.congr {w : World} {b c : Nat} {g g' : Int → Option Value} (h : MapI w b g c) (hg : ∀ x, g x = g' x) : MapI w b g' c := by
  obtain ⟨n, hn, h1⟩ := h
  exact ⟨n, hn, h1.congr rfl hg⟩
theorem MapI.more {w : World} {b c c' : Nat} {g : Int → Option Value} (h : MapI w b g c) (hc : c ≤ c') : MapI w b g c' := by
  obtain ⟨n, hn, h1⟩ := h
  exact ⟨n, Nat.le_trans hn hc, h1⟩
section
variable {X : Nat → Prop} {w w' : World} {m p : Nat} {room fail : Int} {vs : List Vw} {s : Ms} {c : Nat} {Y F : Nat → Prop} {bh br : Nat} {va vb vc : Value}
theorem MstIn.two (h : MstIn X w m p room fail vs s c Y F bh br va vb vc) : 2 ≤ m ∧ 2 ≤ bh ∧ 2 ≤ br := by
  have h1 := h.lx
  obtain ⟨a, b, d⟩ := h.xm
  refine ⟨Nat.le_of_not_lt fun e => a (h1 m e), Nat.le_of_not_lt fun e => b (h1 bh e), Nat.le_of_not_lt fun e => d (h1 br e)⟩
theorem MstIn.more {c' : Nat} (h : MstIn X w m p room fail vs s c Y F bh br va vb vc) (hc : c ≤ c') : MstIn X w m p room fail vs s c' Y F bh br va vb vc := { h with heard := h.heard.more hc, ready := h.ready.more hc }
/-- A node is heard. -/
theorem MstIn.hear (h : MstIn X w m p room fail vs s c Y F bh br va vb vc) (hc : c < 1000000000) {k now : Int} (hk : k ∈ s.v.nodes) :
    ∃ w', (Instr.mapUpdate 87 (.map (some bh)) (.int .i64 k) (.int .i64 now)).run Tryz.prog w = .ok () w' ∧ MstIn X w' m p room fail vs (s.hear k now) (c + 1) Y F bh br va vb vc ∧ Keeps (fun b => b = bh) w w' ∧ w'.heap.size = w.heap.size := by
  have hn := h.nodes hk
  obtain ⟨w', hr, h2, h3, h4⟩ := h.heard.store hc (x := k) (by unfold i64; omega) (.int .i64 now)
  refine ⟨w', hr, ?_, h3, h4⟩
  have hb : ∀ b, b ≠ bh → b < w.heap.size → w'.heap[b]? = w.heap[b]? := fun b hb hl => h3.block b hl hb
  exact { h with
    disk := h.disk.write h3 (fun k e => by rw [show k = bh from e]; exact ⟨h.ym.2.1, h.two.2.1⟩)
    blk := (hb m h.mh h.lt).trans h.blk
    sl := h.sl.keep h3 (fun k _ h1 e => h.fm.2.1 (by have e2 : k = bh := e; exact e2 ▸ h1))
    heard := h2.congr fun y => by
      show (if y = k then _ else hdF s y) = if y ∈ s.v.nodes then some (.int .i64 (if y = k then now else s.hd y)) else none
      unfold hdF
      by_cases e : y = k
      · rw [if_pos e, if_pos e, if_pos (e ▸ hk)]
      · rw [if_neg e, if_neg e]
    ready := (h.ready.keep h3 (fun e => h.hne (show br = bh from e).symm)).more (Nat.le_succ c) }
/-- A node is ready. -/
theorem MstIn.mark (h : MstIn X w m p room fail vs s c Y F bh br va vb vc) (hc : c < 1000000000) {k e : Int} (hk : k ∈ s.v.nodes) (he : 1 ≤ e) :
    ∃ w', (Instr.mapUpdate 87 (.map (some br)) (.int .i64 k) (.int .i64 e)).run Tryz.prog w = .ok () w' ∧ MstIn X w' m p room fail vs (s.makeReady k e) (c + 1) Y F bh br va vb vc ∧ Keeps (fun b => b = br) w w' ∧ w'.heap.size = w.heap.size := by
  have hn := h.nodes hk
  obtain ⟨w', hr, h2, h3, h4⟩ := h.ready.store hc (x := k) (by unfold i64; omega) (.int .i64 e)
  refine ⟨w', hr, ?_, h3, h4⟩
  have hb : ∀ b, b ≠ br → b < w.heap.size → w'.heap[b]? = w.heap[b]? := fun b hb hl => h3.block b hl hb
  exact { h with
    disk := h.disk.write h3 (fun k e => by rw [show k = br from e]; exact ⟨h.ym.2.2, h.two.2.2⟩)
    blk := (hb m h.mr h.lt).trans h.blk
    sl := h.sl.keep h3 (fun k _ h1 e => h.fm.2.2 (by have e2 : k = br := e; exact e2 ▸ h1))
    ready := h2.congr fun y => by
      show (if y = k then _ else rdF s y) = if (if y = k then e else s.rd y) = 0 then none else some (.int .i64 (if y = k then e else s.rd y))
      unfold rdF
      by_cases e2 : y = k
      · rw [if_pos e2, if_pos e2, if_neg (by omega)]
      · rw [if_neg e2, if_neg e2]
    heard := (h.heard.keep h3 (fun e => h.hne (show bh = br from e))).more (Nat.le_succ c)
    rdge := fun x => by
      show 0 ≤ if x = k then e else s.rd x
      split
      · omega
      · exact h.rdge x }
end
/-- What a Beat makes. -/
def BeatR (X : Nat → Prop) (w w' : World) (m p : Nat) (room fail : Int) (vs : List Vw) (s : Ms) (c : Nat) (node epoch frm now : Int) (os : List OutE) : Prop :=
  if node ≠ frm then os = [] ∧ Mst X w' m p room fail vs s c
  else if epoch ≠ s.v.ep then (∃ o, os = [o] ∧ o.rcv = frm ∧ VOut w' (fun k => w.heap.size ≤ k) s.v o) ∧ Mst X w' m p room fail vs (s.hear frm now) (c + 2)
  else os = [⟨frm, 64, .agg #[.int .i64 epoch, .int .i64 (now + fail / 2)]⟩] ∧ Mst X w' m p room fail vs ((s.hear frm now).makeReady frm epoch) (c + 2)
set_option maxRecDepth 8000 in
set_option maxHeartbeats 4000000 in
theorem beat_any {X : Nat → Prop} {w : World} {m p : Nat} {room fail : Int} {vs : List Vw} {s : Ms} {c : Nat} (h : Mst X w m p room fail vs s c) (hc : c < 999999999) (node epoch last frm now : Int) (hk : frm ∈ s.v.nodes) (hn0 : 0 ≤ now) (hn1 : now ≤ 1000000000000000) (hf0 : 4 ≤ fail) (hf1 : fail ≤ 1073741824) :
    Calls Tryz.prog 33 #[.pointer (some ⟨m, 0, none⟩), .agg #[.int .i64 node, .int .i64 epoch, .int .i64 last], .int .i64 frm, .int .i64 now] w fun e w' => ∃ v os, e = .returned v ∧ Sl w' (fun k => w.heap.size ≤ k) 2 outc v os ∧ BeatR X w w' m p room fail vs s c node epoch frm now os ∧ Kx X w w' := by
  have hepr := h.right.ep1
  by_cases e1 : node = frm
  · have e1 := e1.symm
    subst e1
    have d1 : (frm != frm) = false := by simp
    by_cases e2 : epoch = s.v.ep
    · have d2 : (epoch != s.v.ep) = false := bne_eq_false_iff_eq.2 e2
      have HE := Lib.hid e2
      have he1 : 1 ≤ epoch := by omega
      clear e2
      have hB0 : Below w.heap.size w (w.alloc (.cells #[.int .i64 frm, .int .i64 epoch, .int .i64 last] 76)) := (Below.refl _ w).alloc (Nat.le_refl _) _
      have hblk := heap_alloc_new w (.cells #[.int .i64 frm, .int .i64 epoch, .int .i64 last] 76)
      have H0 := Lib.hid (h.fresh hB0)
      have HB0 := Lib.hid hB0
      have HK0 := Lib.hid hblk
      have HKN := Lib.hid hk
      clear hB0 hblk h hk
      go_enter Tryz.func33, Tryz.ntmps33
      go_upto_region 1 with (fail)
      obtain ⟨g, hg⟩ : ∃ g, w.heap.size = g := ⟨_, rfl⟩
      have HG := Lib.hid hg
      rw [hg] at HK0 ⊢
      generalize w.alloc (.cells #[.int .i64 frm, .int .i64 epoch, .int .i64 last] 76) = w1 at HB0 HK0 H0 ⊢
      have k0 : w1.cell? ⟨g, 0, none⟩ = some (.int .i64 frm) := cell_of_row w1 g 0 _ _ _ HK0.out
      clear hg
      go_upto_region 3 with (fail)
      obtain ⟨Y, F, bh, br, va, vb, vc, h1⟩ := H0.out
      obtain ⟨_, _, _, _, _, _, c6, _⟩ := h1.cells
      obtain ⟨w2, hr, h2, hk2, hs2⟩ := h1.hear (Nat.lt_of_lt_of_le hc (by omega)) HKN.out (now := now)
      have hgb : g ≠ bh := fun e => by
        obtain ⟨n, _, D, ⟨es, cl, h5, _⟩, _⟩ := h1.heard
        have := HK0.out
        rw [e, h5] at this
        cases this
      have HK2 := Lib.hid ((hk2.block g (Array.getElem?_eq_some_iff.1 HK0.out).1 hgb).trans HK0.out)
      have HX2 := Lib.hid ((Kx.of_below (X := X) HB0.out).trans (hk2.mono fun k _ e hx => h1.xm.2.1 (by have e2 : k = bh := e; exact e2 ▸ hx)))
      have H2 := Lib.hid h2
      have hsz2 : w.heap.size ≤ w2.heap.size := by rw [hs2]; exact HB0.out.size
      have hr1 := hr
      clear h1 h2 hk2 hs2 hgb hr
      go_upto_region 4 with (fail)
      clear hr1 c6 k0
      have k1 : w2.cell? ⟨g, 1, none⟩ = some (.int .i64 epoch) := cell_of_row w2 g 1 _ _ _ HK2.out
      obtain ⟨_, c1, _, _, _, c5, _, c7⟩ := H2.out.cells
      rw [show (s.hear frm now).v = s.v from rfl] at c1
      go_quiet (fail)
      go_wp2_with fail
      refine region_mid 7 rfl (by kernel_rfl) (by kernel_rfl) ?_
      simp only [List.take_succ_cons, List.take_zero, List.drop_succ_cons, List.drop_zero]
      change wpStill _ _ (World.drew _) _ _ _
      generalize hw3 : World.drew _ = w3
      have hB3 : Below w2.heap.size w2 w3 := hw3 ▸ ⟨rfl, rfl, rfl, Nat.le_refl _, fun _ _ => rfl⟩
      have H3 := Lib.hid (H2.out.fresh hB3)
      have HK3 := Lib.hid ((hB3.block g (Array.getElem?_eq_some_iff.1 HK2.out).1).trans HK2.out)
      have HX3 := Lib.hid (HX2.out.trans (Kx.of_below hB3))
      have hsz3 : w.heap.size ≤ w3.heap.size := Nat.le_trans hsz2 hB3.size
      clear hB3 k1 c1 c5 c7
      have k1 : w3.cell? ⟨g, 1, none⟩ = some (.int .i64 epoch) := cell_of_row w3 g 1 _ _ _ HK3.out
      obtain ⟨_, _, _, _, _, _, _, c7⟩ := H3.out.cells
      refine still_of_quiet ?_
      repeat (go_big_quiet_step (fail))
      refine wpQuiet_nil ?_
      change wpList _ _ _ _ _ (World.drew _)
      rw [hw3]
      clear hw3
      obtain ⟨w4, hr4, h4, hk4, hs4⟩ := H3.out.mark (by omega) HKN.out (e := epoch) he1
      have hg4 : g ≠ br := fun e => by
        obtain ⟨n, _, D, ⟨es, cl, h5, _⟩, _⟩ := H3.out.ready
        have := HK3.out
        rw [e, h5] at this
        cases this
      have HK4 := Lib.hid ((hk4.block g (Array.getElem?_eq_some_iff.1 HK3.out).1 hg4).trans HK3.out)
      have HX4 := Lib.hid (HX3.out.trans (hk4.mono fun k _ e hx => H3.out.xm.2.2 (by have e2 : k = br := e; exact e2 ▸ hx)))
      have H4 := Lib.hid h4
      have hsz4 : w.heap.size ≤ w4.heap.size := by rw [hs4]; exact hsz3
      clear h4 hk4 hs4 hg4
      go_wp2_with fail
      clear hr4 c7 k1
      unfold Go.Bl.Rest
      refine still_of_quiet ?_
      refine wpQuiet_nil ?_
      go_wp2_with fail
      refine region_mid 13 rfl (by kernel_rfl) (by kernel_rfl) ?_
      simp only [List.take_succ_cons, List.take_zero, List.drop_succ_cons, List.drop_zero]
      change wpStill _ _ (World.drew _) _ _ _
      generalize hw5 : World.drew _ = w5
      have hB5 : Below w4.heap.size w4 w5 := hw5 ▸ ⟨rfl, rfl, rfl, Nat.le_refl _, fun _ _ => rfl⟩
      have H5 := Lib.hid (H4.out.fresh hB5)
      have HX5 := Lib.hid (HX4.out.trans (Kx.of_below hB5))
      have hsz5 : w.heap.size ≤ w5.heap.size := Nat.le_trans hsz4 hB5.size
      have k1 : w5.cell? ⟨g, 1, none⟩ = some (.int .i64 epoch) := cell_of_row w5 g 1 _ _ _ ((hB5.block g (Array.getElem?_eq_some_iff.1 HK4.out).1).trans HK4.out)
      clear hB5
      obtain ⟨_, _, _, _, _, c5, _, _⟩ := H5.out.cells
      refine still_of_quiet ?_
      repeat (go_big_quiet_step (fail))
      refine wpQuiet_nil ?_
      change wpList _ _ _ _ _ (World.drew _)
      rw [hw5]
      clear hw5
      go_wp2_with fail
      unfold Go.Bl.Rest
      refine still_of_quiet ?_
      repeat (go_big_quiet_step (fail))
      refine wpQuiet_nil ?_
      go_wp2_with fail
      go_ret
      have hb := heap_alloc_new w5 (.cells #[.int .i64 frm, .iface 64 (.agg #[.int .i64 epoch, .int .i64 (now + fail / 2)])] 41)
      have hal : Below w5.heap.size w5 (w5.alloc (.cells #[.int .i64 frm, .iface 64 (.agg #[.int .i64 epoch, .int .i64 (now + fail / 2)])] 41)) := (Below.refl _ w5).alloc (Nat.le_refl _) _
      refine ⟨_, [⟨frm, 64, .agg #[.int .i64 epoch, .int .i64 (now + fail / 2)]⟩], rfl, ?_, ?_, HX5.out.trans (Kx.of_below hal)⟩
      · exact (Sl.single (enc := outc) (x := ⟨frm, 64, .agg #[.int .i64 epoch, .int .i64 (now + fail / 2)]⟩) hb rfl).mono fun k _ hk => by
          have hk2 : k = w5.heap.size := hk
          show w.heap.size ≤ k
          omega
      · unfold BeatR
        rw [if_neg (by simp), if_neg (by simpa using HE.out)]
        exact ⟨rfl, Mst.fresh ⟨Y, F, bh, br, va, vb, vc, H5.out⟩ hal⟩
    · have d2 : (epoch != s.v.ep) = true := by rw [bne_iff_ne]; exact e2
      have HE := Lib.hid e2
      clear e2
      have hB0 : Below w.heap.size w (w.alloc (.cells #[.int .i64 frm, .int .i64 epoch, .int .i64 last] 76)) := (Below.refl _ w).alloc (Nat.le_refl _) _
      have hblk := heap_alloc_new w (.cells #[.int .i64 frm, .int .i64 epoch, .int .i64 last] 76)
      have H0 := Lib.hid (h.fresh hB0)
      have HB0 := Lib.hid hB0
      have HK0 := Lib.hid hblk
      have HKN := Lib.hid hk
      clear hB0 hblk h hk
      go_enter Tryz.func33, Tryz.ntmps33
      go_upto_region 1 with (fail)
      obtain ⟨g, hg⟩ : ∃ g, w.heap.size = g := ⟨_, rfl⟩
      have HG := Lib.hid hg
      rw [hg] at HK0 ⊢
      generalize w.alloc (.cells #[.int .i64 frm, .int .i64 epoch, .int .i64 last] 76) = w1 at HB0 HK0 H0 ⊢
      have k0 : w1.cell? ⟨g, 0, none⟩ = some (.int .i64 frm) := cell_of_row w1 g 0 _ _ _ HK0.out
      clear hg
      go_upto_region 3 with (fail)
      obtain ⟨Y, F, bh, br, va, vb, vc, h1⟩ := H0.out
      obtain ⟨_, _, _, _, _, _, c6, _⟩ := h1.cells
      obtain ⟨w2, hr, h2, hk2, hs2⟩ := h1.hear (Nat.lt_of_lt_of_le hc (by omega)) HKN.out (now := now)
      have hgb : g ≠ bh := fun e => by
        obtain ⟨n, _, D, ⟨es, cl, h5, _⟩, _⟩ := h1.heard
        have := HK0.out
        rw [e, h5] at this
        cases this
      have HK2 := Lib.hid ((hk2.block g (Array.getElem?_eq_some_iff.1 HK0.out).1 hgb).trans HK0.out)
      have HX2 := Lib.hid ((Kx.of_below (X := X) HB0.out).trans (hk2.mono fun k _ e hx => h1.xm.2.1 (by have e2 : k = bh := e; exact e2 ▸ hx)))
      have H2 := Lib.hid h2
      have hsz2 : w.heap.size ≤ w2.heap.size := by rw [hs2]; exact HB0.out.size
      have hr1 := hr
      clear h1 h2 hk2 hs2 hgb hr
      go_upto_region 4 with (fail)
      clear hr1 c6 k0
      have k1 : w2.cell? ⟨g, 1, none⟩ = some (.int .i64 epoch) := cell_of_row w2 g 1 _ _ _ HK2.out
      obtain ⟨_, c1, _, _, _, c5, _, c7⟩ := H2.out.cells
      rw [show (s.hear frm now).v = s.v from rfl] at c1
      clear c5
      go_quiet (fail)
      have hB3 : Below w2.heap.size w2 (w2.drewN nq) := ⟨rfl, rfl, rfl, Nat.le_refl _, fun _ _ => rfl⟩
      have HC := Lib.hid (tell_any (Mst.fresh (⟨Y, F, bh, br, va, vb, vc, H2.out⟩ : Mst X w2 m p room fail vs (s.hear frm now) (c + 1)) hB3) frm)
      clear hB3
      go_wp2_with fail
      refine HC.out.mono ?_
      rintro e w3 ⟨v3, o, rfl, hS3, ho, hV3, hB3⟩
      have HO := Lib.hid (And.intro hS3 (And.intro ho (And.intro hV3 hB3)))
      clear hS3 ho hV3 hB3
      go_wp2_with fail
      go_ret
      obtain ⟨hS3, ho, hV3, hB3⟩ := HO.out
      have hB4 : Below w2.heap.size w2 w3 := (show Below w2.heap.size w2 (w2.drewN nq) from ⟨rfl, rfl, rfl, Nat.le_refl _, fun _ _ => rfl⟩).trans hB3
      refine ⟨_, [o], rfl, hS3.mono fun k _ hk => Nat.le_trans hsz2 hk, ?_, HX2.out.trans (Kx.of_below hB4)⟩
      unfold BeatR
      rw [if_neg (by simp), if_pos HE.out]
      exact ⟨⟨o, rfl, ho, hV3.mono fun k _ hk => Nat.le_trans hsz2 hk⟩, Mst.fresh ⟨Y, F, bh, br, va, vb, vc, H2.out.more (Nat.le_succ _)⟩ hB4⟩
  · have d1 : (node != frm) = true := by rw [bne_iff_ne]; exact e1
    have HE := Lib.hid e1
    have hB0 : Below w.heap.size w (w.alloc (.cells #[.int .i64 node, .int .i64 epoch, .int .i64 last] 76)) := (Below.refl _ w).alloc (Nat.le_refl _) _
    have hblk := heap_alloc_new w (.cells #[.int .i64 node, .int .i64 epoch, .int .i64 last] 76)
    have H0 := Lib.hid (h.fresh hB0)
    have HB0 := Lib.hid hB0
    have HK0 := Lib.hid hblk
    have HKN := Lib.hid hk
    clear hB0 hblk h hk
    clear e1
    go_enter Tryz.func33, Tryz.ntmps33
    go_upto_region 1 with (fail)
    obtain ⟨g, hg⟩ : ∃ g, w.heap.size = g := ⟨_, rfl⟩
    rw [hg] at HK0 ⊢
    generalize w.alloc (.cells #[.int .i64 node, .int .i64 epoch, .int .i64 last] 76) = w1 at HB0 HK0 H0 ⊢
    have k0 : w1.cell? ⟨g, 0, none⟩ = some (.int .i64 node) := cell_of_row w1 g 0 _ _ _ HK0.out
    clear hg
    go_wp2_with fail
    go_ret
    exact ⟨_, [], rfl, Sl.nil_ _ _ _ _, by unfold BeatR; rw [if_pos HE.out]; exact ⟨rfl, H0.out⟩, Kx.of_below HB0.out⟩
end Go.Proofs.YtoegdpcfhmjnaaaGreatDoor
