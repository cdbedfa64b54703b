/- String keys that rise: equal ones; pure words on bytes. Proved for every program; no condition. -/
import Derived.Test.YthdcnknjjbdefaaGreatDoorBlD
namespace Go.Bl
open Go.RowKit

theorem bLt_transB {a b c : ByteArray} (h : bLt a b) (k : bLt b c) : bLt a c := by rw [bLt_iff] at *; exact List.lt_trans h k
theorem bLt_irreflB (a : ByteArray) : ¬ bLt a a := by rw [bLt_iff]; exact List.lt_irrefl _
theorem rising_extB : ∀ {xs ys : List ByteArray}, Rising xs → Rising ys → (∀ s, s ∈ xs ↔ s ∈ ys) → xs = ys
  | [], [], _, _, _ => rfl
  | [], y :: ys, _, _, h => absurd ((h y).2 (by simp)) (by simp)
  | x :: xs, [], _, _, h => absurd ((h x).1 (by simp)) (by simp)
  | x :: xs, y :: ys, hx, hy, h => by
    obtain ⟨a1, a2⟩ := List.pairwise_cons.1 hx
    obtain ⟨b1, b2⟩ := List.pairwise_cons.1 hy
    have e : x = y := by
      rcases List.mem_cons.1 ((h x).1 (by simp)) with e | e
      · exact e
      · rcases List.mem_cons.1 ((h y).2 (by simp)) with e' | e'
        · exact e'.symm
        · exact absurd (bLt_transB (a1 y e') (b1 x e)) (bLt_irreflB x)
    subst e
    rw [rising_extB a2 b2 (fun s => ?_)]
    have := h s
    rw [List.mem_cons, List.mem_cons] at this
    constructor
    · intro hs
      rcases this.1 (.inr hs) with e | e
      · exact absurd (e ▸ a1 s hs) (bLt_irreflB _)
      · exact e
    · intro hs
      rcases this.2 (.inr hs) with e | e
      · exact absurd (e ▸ b1 s hs) (bLt_irreflB _)
      · exact e
theorem bytes_extB {a b : ByteArray} (h : a.toList = b.toList) : a = b := by
  rw [ByteArray.toList_eq, ByteArray.toList_eq] at h
  obtain ⟨⟨x⟩⟩ := a
  obtain ⟨⟨y⟩⟩ := b
  simpa using h
theorem strEq_true {a b : ByteArray} (h : a = b) : (a.toList == b.toList) = true := by subst h; simp
theorem strEq_false {a b : ByteArray} (h : a ≠ b) : (a.toList == b.toList) = false := by
  rw [beq_eq_false_iff_ne]; intro e; exact h (bytes_extB e)
theorem strEq_dec (a b : ByteArray) : (a.toList == b.toList) = decide (a = b) := by
  by_cases h : a = b
  · rw [strEq_true h, decide_eq_true h]
  · rw [strEq_false h, decide_eq_false h]
/-- What keeps away from the old blocks turns nothing below. -/
theorem below_notB {X : Nat → Prop} {w w' : World} {B : Nat} (h : Keeps (fun k => ¬ X k) w w') (hB : B ≤ w.heap.size) (hX : ∀ k, k < B → X k) : Below B w w' :=
  h.below hB fun k hk => Decidable.byContradiction fun hc => hk (hX k (by omega))
end Go.Bl
