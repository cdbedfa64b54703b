/- The history: Check, Places: what they answer. Under the stated premises on sizes. -/
import Derived.Test.YthdcnknjjbdefaaGreatDoorHisG
namespace Go.Proofs.YthdcnknjjbdefaaGreatDoor.His
open Go.RowKit Go.Bl
attribute [local go_sem ↓] Go.wp_at_zero Go.wp_at_succ

/-- The least right places; -1 where none counts. -/
structure Least (log : List Ent) (ops : List Hop) (P : Nat → Int) : Prop where
  right : (gm log ops).Valid (mayV log ops) P
  off : ∀ i, countsB (ops.getD i default) = false → P i = -1
  least : ∀ Q, (gm log ops).Valid (mayV log ops) Q → ∀ i, i < ops.length → countsB (ops.getD i default) = true → P i ≤ Q i
theorem AllPost.iff {w w' : World} {log : List Ent} {ops : List Hop} {e : Ending} (hs : Spans ops) (h : AllPost w log ops e w') :
    ∃ v, ∃ z : Nat, e = .returned (.tuple #[v, .int .i64 z]) ∧ (z = 0 ↔ Fine log ops) ∧ z ≤ ops.length ∧ Below w.heap.size w w' ∧
      ((Fine log ops ∧ ∃ g P, v = .slice (some ⟨g, 0, none⟩) ops.length ops.length ∧ w.heap.size ≤ g ∧ RowI w' g (plL ops.length P) ∧ Least log ops P) ∨ (¬ Fine log ops ∧ v = .slice none 0 0)) := by
  obtain ⟨ord, v, h1, h2, h3, h4⟩ := h
  have hM := gm_may log ops hs
  have hi := Gm.run_iff hM h1
  refine ⟨v, _, h2, hi, Gm.run_bad ord _ (fun i hi => (h1.mem i).1 hi), h3, ?_⟩
  by_cases hz : ((gm log ops).run ord (fun _ => -1)).2 = 0
  · rw [if_pos hz] at h4
    obtain ⟨g, e1, e2, e3⟩ := h4
    obtain ⟨l1, l2, l3⟩ := Gm.run_least hM h1 hz
    exact .inl ⟨hi.1 hz, g, _, e1, e2, e3, l1, l2, l3⟩
  · rw [if_neg hz] at h4
    exact .inr ⟨fun hf => hz (hi.2 hf), h4⟩
section
variable (w : World) (hT : Tabs w) (vl : Value) (log : List Ent) (h : EntsOk w (fun b => b < w.heap.size) vl log) (hok : LogOk log) (hl : log.length ≤ 100) (vo : Value) (ops : List Hop) (hS : Sl w (fun b => b < w.heap.size) 17 opc vo ops) (ho : ∀ o ∈ ops, OpOk w (fun b => b < w.heap.size) o) (h20 : ops.length ≤ 20) (hs : Spans ops)
include hT h hok hl hS ho h20 hs
theorem check_any : Calls Tryz.prog 14 #[vl, vo] w fun e w' => ∃ z : Nat, e = .returned (.int .i64 z) ∧ (z = 0 ↔ Fine log ops) ∧ z ≤ ops.length ∧ Below w.heap.size w w' := by
  have HA := Lib.hid (all_any w hT vl log h hok hl vo ops hS ho h20)
  have HSP := Lib.hid hs
  clear hT h hok hl hS ho h20 hs
  go_enter Tryz.func14, Tryz.ntmps14
  go_wp2_with fail
  refine HA.out.mono ?_
  intro e w1 hp
  obtain ⟨v, z, rfl, h1, h2, h3, _⟩ := hp.iff HSP.out
  have H1 := Lib.hid h1
  have H3 := Lib.hid h3
  clear h1 h3 hp
  go_wp2_with fail
  go_ret
  exact ⟨z, rfl, H1.out, h2, H3.out⟩
theorem places_any : Calls Tryz.prog 15 #[vl, vo] w fun e w' => ∃ v, e = .returned v ∧ Below w.heap.size w w' ∧
      ((Fine log ops ∧ ∃ g P, v = .slice (some ⟨g, 0, none⟩) ops.length ops.length ∧ w.heap.size ≤ g ∧ RowI w' g (plL ops.length P) ∧ Least log ops P) ∨ (¬ Fine log ops ∧ v = .slice none 0 0)) := by
  have HA := Lib.hid (all_any w hT vl log h hok hl vo ops hS ho h20)
  have HSP := Lib.hid hs
  clear hT h hok hl hS ho h20 hs
  go_enter Tryz.func15, Tryz.ntmps15
  go_wp2_with fail
  refine HA.out.mono ?_
  intro e w1 hp
  obtain ⟨v, z, rfl, _, _, h3, h4⟩ := hp.iff HSP.out
  have H3 := Lib.hid h3
  have H4 := Lib.hid h4
  clear h3 h4 hp
  go_wp2_with fail
  go_ret
  exact ⟨v, rfl, H3.out, H4.out⟩
end
end Go.Proofs.YthdcnknjjbdefaaGreatDoor.His
