/- The master takes a Beat of a node of the view. Under the stated premises on sizes. -/
import Derived.Test.YtoegdpcfhmjnaaaGreatDoorMstG
import Derived.Test.YtoegdpcfhmjnaaaGreatDoorMstE
namespace Go.Proofs.YtoegdpcfhmjnaaaGreatDoor
open Go.RowKit Go.Bl
attribute [local go_sem ↓] Go.wp_at_zero Go.wp_at_succ

theorem as_beat (v : Value) (xT : TypeId) (w : World) : (Instr.typeAssert (.iface 76 v) xT 76 true).run Tryz.prog w = .ok (.tuple #[v, .bool true]) w := by
  simp [Instr.typeAssert, run_underlying Tryz.underlying76]
theorem BeatR.lower {X : Nat → Prop} {w w1 w' : World} {m p : Nat} {room fail : Int} {vs : List Vw} {s : Ms} {c : Nat} {node epoch frm now : Int} {os : List OutE} (h : BeatR X w1 w' m p room fail vs s c node epoch frm now os) (hs : w.heap.size ≤ w1.heap.size) : BeatR X w w' m p room fail vs s c node epoch frm now os := by
  unfold BeatR at h ⊢
  split at h
  · rw [if_pos (by assumption)]
    exact h
  · rw [if_neg (by assumption)]
    split at h
    · rw [if_pos (by assumption)]
      obtain ⟨⟨o, h1, h2, h3⟩, h4⟩ := h
      exact ⟨⟨o, h1, h2, h3.mono fun k _ hk => Nat.le_trans hs hk⟩, h4⟩
    · rw [if_neg (by assumption)]
      exact h
set_option maxRecDepth 8000 in
set_option maxHeartbeats 4000000 in
theorem takeB_any {X : Nat → Prop} {w : World} {m p : Nat} {room fail : Int} {vs : List Vw} {s : Ms} {c : Nat} (h : Mst X w m p room fail vs s c) (hc : c < 999999999) (node epoch last frm now : Int) (hk : frm ∈ s.v.nodes) (hn0 : 0 ≤ now) (hn1 : now ≤ 1000000000000000) (hf0 : 4 ≤ fail) (hf1 : fail ≤ 1073741824) :
    Calls Tryz.prog 9 #[.pointer (some ⟨m, 0, none⟩), .int .i64 frm, .iface 76 (.agg #[.int .i64 node, .int .i64 epoch, .int .i64 last]), .int .i64 now] w fun e w' => ∃ v os, e = .returned v ∧ Sl w' (fun k => w.heap.size ≤ k) 2 outc v os ∧ BeatR X w w' m p room fail vs s c node epoch frm now os ∧ Kx X w w' := by
  have hB0 : Below w.heap.size w (w.alloc (.cells #[.int .i64 node, .int .i64 epoch, .int .i64 last] 76)) := (Below.refl _ w).alloc (Nat.le_refl _) _
  have hblk := heap_alloc_new w (.cells #[.int .i64 node, .int .i64 epoch, .int .i64 last] 76)
  have hin := in_any (h.fresh hB0) frm
  have H0 := Lib.hid (h.fresh hB0)
  have HB0 := Lib.hid hB0
  have HK0 := Lib.hid hblk
  have HKN := Lib.hid hk
  rw [decide_eq_true hk] at hin
  have HIN := Lib.hid hin
  clear h hB0 hblk hin hk
  have h2 := as_beat (.agg #[.int .i64 node, .int .i64 epoch, .int .i64 last]) 39 w
  go_enter Tryz.func9, Tryz.ntmps9
  go_upto_region 2 with (fail)
  clear h2
  obtain ⟨g, hg⟩ : ∃ g, w.heap.size = g := ⟨_, rfl⟩
  have HG := Lib.hid hg
  rw [hg] at HK0 ⊢
  generalize w.alloc (.cells #[.int .i64 node, .int .i64 epoch, .int .i64 last] 76) = w1 at HB0 HK0 H0 HIN ⊢
  have k0 : w1.cell? ⟨g, 0, none⟩ = some (.int .i64 node) := cell_of_row w1 g 0 _ _ _ HK0.out
  have k1 : w1.cell? ⟨g, 1, none⟩ = some (.int .i64 epoch) := cell_of_row w1 g 1 _ _ _ HK0.out
  have k2 : w1.cell? ⟨g, 2, none⟩ = some (.int .i64 last) := cell_of_row w1 g 2 _ _ _ HK0.out
  have HBE := Lib.hid (beat_any H0.out hc node epoch last frm now HKN.out hn0 hn1 hf0 hf1)
  clear hg
  go_wp2_with fail
  refine HIN.out.mono ?_
  rintro e w2 ⟨rfl, rfl⟩
  go_wp2_with fail
  refine HBE.out.mono ?_
  rintro e w3 ⟨v, os, rfl, hS, hR, hK⟩
  have HR := Lib.hid (And.intro hS (And.intro hR hK))
  clear hS hR hK k0 k1 k2
  go_wp2_with fail
  go_ret
  obtain ⟨hS, hR, hK⟩ := HR.out
  exact ⟨_, os, rfl, hS.mono fun k _ hk => Nat.le_trans HB0.out.size hk, hR.lower HB0.out.size, (Kx.of_below HB0.out).trans hK⟩
end Go.Proofs.YtoegdpcfhmjnaaaGreatDoor
