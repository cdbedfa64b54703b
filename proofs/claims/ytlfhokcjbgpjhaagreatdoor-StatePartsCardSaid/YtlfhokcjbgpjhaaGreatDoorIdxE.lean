/- The examples at the head of all statements: shown() is true. -/
import Derived.Test.YtlfhokcjbgpjhaaGreatDoorIdxC
import Derived.Test.YtlfhokcjbgpjhaaGreatDoorIdxD
namespace Go.Proofs.YtlfhokcjbgpjhaaGreatDoor.Idx
open Go.RowKit Go.Bl

theorem Sl.of_block {α : Type} {w : World} {k : Nat} {enc : α → List Value} {l : List α} {g : Nat} {cs : Array Value} {e : TypeId} {fr : Nat × Nat} {n : Nat} (hk : ∀ x, (enc x).length = k)
    (hg : w.heap[g]? = some (.cells cs e fr)) (hc : cs.toList = l.flatMap enc) (hn : n = l.length) (hm : n ≤ maxLen) : Sl w (fun b => b = g) k enc (.slice (some ⟨g, 0, none⟩) n n) l := by
  subst hn
  refine ⟨_, _, rfl, Nat.le_refl _, hm, fun _ => ⟨g, 0, rfl, rfl, (Array.getElem?_eq_some_iff.1 hg).1, fun i hi j u hu => ?_⟩⟩
  have hj : j < k := by
    have := (List.getElem?_eq_some_iff.1 hu).1
    rwa [hk] at this
  have h1 := flatMap_at enc k hk l i hi j hj
  rw [hu, ← hc] at h1
  rw [Nat.zero_add, cell_of_row w g (i * k + j) cs e fr hg]
  simpa using h1

theorem IdxAt.mono {w : World} {p : Nat} {L : List One} {F F' : Nat → Prop} (h : IdxAt w p L F) (hF : ∀ k, F k → F' k) (hl : ∀ k, F' k → k < w.heap.size) : IdxAt w p L F' := by
  obtain ⟨bm, V, n, h⟩ := h
  exact ⟨bm, V, n, h.blk, h.map, h.le, h.rows, h.nil, h.apart, hF _ h.fp, hF _ h.fm, fun s b hb => hF _ (h.fv s b hb), hl⟩
theorem IdxAt.lt {w : World} {p : Nat} {L : List One} {F : Nat → Prop} (h : IdxAt w p L F) : ∀ k, F k → k < w.heap.size := by
  obtain ⟨bm, V, n, h⟩ := h
  exact h.lt

end Go.Proofs.YtlfhokcjbgpjhaaGreatDoor.Idx
