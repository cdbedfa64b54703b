/- The versions of all streams make the number of all events: plain. No condition. -/
import Derived.Test.YtlfhokcjbgpjhaaGreatDoorIdxH
namespace Go.Proofs.YtlfhokcjbgpjhaaGreatDoor.Idx
open Go.RowKit Go.Bl

theorem bLt_irrefl_ (a : ByteArray) : ¬ bLt a a := by rw [bLt_iff]; exact List.lt_irrefl _
def sumS (L : List One) (ks : List ByteArray) : Nat := (ks.map fun s => (ofS L s).length).sum
theorem sumS_snoc (L : List One) (ks : List ByteArray) (s : ByteArray) : sumS L (ks ++ [s]) = sumS L ks + (ofS L s).length := by
  simp only [sumS, List.map_append, List.map_cons, List.map_nil, List.sum_append, List.sum_cons, List.sum_nil]
  omega
theorem sumS_take (L : List One) (ks : List ByteArray) {j : Nat} (hj : j < ks.length) : sumS L (ks.take (j + 1)) = sumS L (ks.take j) + (ofS L ks[j]).length := by
  rw [List.take_succ_eq_append_getElem hj, sumS_snoc]
theorem sumS_le (L : List One) (ks : List ByteArray) (j : Nat) : sumS L (ks.take j) ≤ sumS L ks := by
  have : sumS L ks = sumS L (ks.take j) + sumS L (ks.drop j) := by
    conv => lhs; rw [← List.take_append_drop j ks]
    simp only [sumS, List.map_append, List.sum_append]
  omega
theorem ofS_nil (s : ByteArray) : ofS [] s = [] := rfl
theorem ofS_cons (o : One) (L : List One) (s : ByteArray) : (ofS (o :: L) s).length = (if o.stream = s then 1 else 0) + (ofS L s).length := by
  by_cases h : o.stream = s <;> simp [ofS, h]
  omega
theorem sumS_cons_not (o : One) (L : List One) : ∀ ks : List ByteArray, (∀ s ∈ ks, o.stream ≠ s) → sumS (o :: L) ks = sumS L ks
  | [], _ => rfl
  | s :: ks, h => by
    have ih := sumS_cons_not o L ks (fun t ht => h t (List.mem_cons_of_mem _ ht))
    simp only [sumS, List.map_cons, List.sum_cons] at ih ⊢
    rw [ih, ofS_cons, if_neg (h s (by simp)), Nat.zero_add]
theorem sumS_cons (o : One) (L : List One) : ∀ ks : List ByteArray, ks.Nodup → o.stream ∈ ks → sumS (o :: L) ks = 1 + sumS L ks
  | [], _, h => by cases h
  | s :: ks, hn, h => by
    rw [List.nodup_cons] at hn
    by_cases e : o.stream = s
    · have h1 := sumS_cons_not o L ks (fun t ht he => hn.1 (by rw [← e, he]; exact ht))
      simp only [sumS, List.map_cons, List.sum_cons] at h1 ⊢
      rw [h1, ofS_cons, if_pos e]
      omega
    · have h2 : o.stream ∈ ks := by
        cases h with
        | head => exact absurd rfl e
        | tail _ h => exact h
      have ih := sumS_cons o L ks hn.2 h2
      simp only [sumS, List.map_cons, List.sum_cons] at ih ⊢
      rw [ih, ofS_cons, if_neg e]
      omega
theorem sumS_nil : ∀ ks : List ByteArray, sumS [] ks = 0
  | [] => rfl
  | s :: ks => by
    have ih := sumS_nil ks
    simp only [sumS, List.map_cons, List.sum_cons, ofS_nil, List.length_nil] at ih ⊢
    omega
theorem sumS_all (ks : List ByteArray) (hn : ks.Nodup) : ∀ L : List One, (∀ o ∈ L, o.stream ∈ ks) → sumS L ks = L.length
  | [], _ => sumS_nil ks
  | o :: L, h => by
    rw [sumS_cons o L ks hn (h o (by simp)), sumS_all ks hn L (fun x hx => h x (List.mem_cons_of_mem _ hx)), List.length_cons]
    omega
theorem streams_sum {L : List One} {ks : List ByteArray} (h : Streams L ks) : sumS L ks = L.length := by
  refine sumS_all ks (h.1.imp fun {a b} hab e => by subst e; exact bLt_irrefl_ _ hab) L fun o ho => ?_
  rw [h.2]
  intro hc
  unfold ofS at hc
  rw [List.map_eq_nil_iff, List.filter_eq_nil_iff] at hc
  exact hc o ho (by simp)
theorem streams_size {L : List One} {ks : List ByteArray} (h : Streams L ks) {n : Nat} (hs : ∀ o ∈ L, o.stream.size ≤ n) : ∀ s ∈ ks, s.size ≤ n := by
  intro s hk
  have hc := (h.2 s).1 hk
  apply Decidable.byContradiction
  intro hn
  apply hc
  unfold ofS
  rw [List.map_eq_nil_iff, List.filter_eq_nil_iff]
  intro o ho he
  simp only [decide_eq_true_eq] at he
  exact hn (he ▸ hs o ho)
theorem streams_len {L : List One} {ks : List ByteArray} (h : Streams L ks) : ks.length ≤ L.length := by
  have h1 := streams_sum h
  have h2 : ∀ l : List ByteArray, (∀ s ∈ l, ofS L s ≠ []) → l.length ≤ sumS L l := by
    intro l
    induction l with
    | nil => intro _; simp
    | cons s l ih =>
      intro hl
      have := ih (fun t ht => hl t (List.mem_cons_of_mem _ ht))
      have h3 : 0 < (ofS L s).length := List.length_pos_iff.2 (hl s List.mem_cons_self)
      simp only [sumS, List.map_cons, List.sum_cons, List.length_cons] at this ⊢
      omega
  have := h2 ks (fun s hs => (h.2 s).1 hs)
  omega
end Go.Proofs.YtlfhokcjbgpjhaaGreatDoor.Idx
