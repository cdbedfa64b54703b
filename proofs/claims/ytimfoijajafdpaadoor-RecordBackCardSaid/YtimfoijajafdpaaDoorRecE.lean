/- Records: where two runs part, in plain words. No condition. -/
import Derived.Test.YtimfoijajafdpaaDoorRecD
namespace Go.Proofs.YtimfoijajafdpaaDoor
open Go.RowKit Go.Bl

theorem fork_plain {A B : List (Int × Int)} (hA : ∀ i, i < A.length → ((A[i]?).getD (0, 0)).1 = 1 + i) (hB : ∀ i, i < B.length → ((B[i]?).getD (0, 0)).1 = 1 + i) {k : Nat} (h1 : k ≤ A.length) (h2 : k ≤ B.length)
    (hag : ∀ i, i < k → epA A i = epA B i) (hne : ∀ i, i < A.length → epA A i ≠ 0) (hmin : k = A.length ∨ k = B.length ∨ (k < A.length ∧ k < B.length ∧ epA A k ≠ epA B k ∧ ((k = 0 ∨ epA A k ≠ epA A (k - 1)) ∨ (k = 0 ∨ epA B k ≠ epA B (k - 1))))) :
    forkOf (marksN A A.length) (marksN B B.length) (gmax (gmin (A.length : Nat) (B.length : Nat)) 0) ((1 :: (marksN A A.length ++ marksN B B.length).map (·.first)).mergeSort fun x y => decide (x ≤ y)) = k := by
  have hat : ∀ (C : List (Int × Int)) (_ : ∀ i, i < C.length → ((C[i]?).getD (0, 0)).1 = 1 + i) (i : Nat), i < C.length → atM (marksN C C.length) (i + 1) = epA C i := by
    intro C hC i hi
    obtain ⟨n, hn⟩ : ∃ n, C.length = n + 1 := ⟨C.length - 1, by omega⟩
    rw [hn, at_marks hC (by omega) n (by omega), show min ((i : Int) + 1 - 1).toNat n = i by omega]
  refine forkOf_sorted (by unfold gmax gmin; omega) (fun p q1 q2 => ?_) (fun hlt => ?_)
  · have hi : ((p - 1).toNat : Int) + 1 = p := by omega
    have a1 := hat A hA (p - 1).toNat (by omega)
    have a2 := hat B hB (p - 1).toNat (by omega)
    have a3 := hag (p - 1).toNat (by omega)
    have a4 := hne (p - 1).toNat (by omega)
    rw [hi] at a1 a2
    rw [← a1] at a4
    rw [← a1, ← a2] at a3
    unfold forkP
    rw [decide_eq_false a4, decide_eq_false (show ¬ (atM (marksN A A.length) p ≠ atM (marksN B B.length) p) from fun h => h a3)]
    simp
  · have hl1 : k < A.length := by unfold gmax gmin at hlt; omega
    have hl2 : k < B.length := by unfold gmax gmin at hlt; omega
    rcases hmin with h | h | ⟨_, _, h3, h4⟩
    · omega
    · omega
    · refine ⟨?_, ?_⟩
      · right
        rcases h4 with h | h
        · exact ⟨_, List.mem_append_left _ (marks_mem h A.length hl1), by show ((A[k]?).getD (0, 0)).1 = _; rw [hA k hl1]; omega⟩
        · exact ⟨_, List.mem_append_right _ (marks_mem h B.length hl2), by show ((B[k]?).getD (0, 0)).1 = _; rw [hB k hl2]; omega⟩
      · have a1 := hat A hA k hl1
        have a2 := hat B hB k hl2
        simp [forkP, a1, a2, h3]
        unfold gmax gmin
        omega

/-- Plain entries, one behind another, of rising epochs. -/
def Run (pos ep : Int) : List Ent → Prop
  | [] => True
  | a :: l => (∃ g, a = plainE g (pos + 1) a.epoch) ∧ ep ≤ a.epoch ∧ Run (pos + 1) a.epoch l
def lastE (ep : Int) (l : List Ent) : Int := l.foldl (fun _ a => a.epoch) ep
theorem Run.snoc {pos ep : Int} {l : List Ent} (h : Run pos ep l) {g : Nat} {e : Int} (he : lastE ep l ≤ e) : Run pos ep (l ++ [plainE g (pos + l.length + 1) e]) := by
  induction l generalizing pos ep with
  | nil => exact ⟨⟨g, by simp [plainE]⟩, he, trivial⟩
  | cons a l ih =>
    refine ⟨h.1, h.2.1, ?_⟩
    have := ih h.2.2 he
    rwa [show pos + 1 + (l.length : Int) + 1 = pos + ((a :: l).length : Int) + 1 by simp; omega] at this
theorem lastE_snoc (ep : Int) (l : List Ent) (a : Ent) : lastE ep (l ++ [a]) = a.epoch := by simp [lastE]
theorem Run.le {pos ep : Int} {l : List Ent} (h : Run pos ep l) : ep ≤ lastE ep l := by
  induction l generalizing pos ep with
  | nil => exact Int.le_refl _
  | cons a l ih => exact Int.le_trans h.2.1 (ih h.2.2)
theorem Run.take {pos ep : Int} {l : List Ent} (h : Run pos ep l) (k : Nat) : Run pos ep (l.take k) := by
  induction l generalizing pos ep k with
  | nil => simp; trivial
  | cons a l ih =>
    cases k with
    | zero => trivial
    | succ k => exact ⟨h.1, h.2.1, ih h.2.2 k⟩
theorem Run.at {pos ep : Int} {l : List Ent} (h : Run pos ep l) {i : Nat} (hi : i < l.length) : (∃ g, l[i] = plainE g (pos + 1 + i) l[i].epoch) ∧ ep ≤ l[i].epoch ∧ l[i].epoch ≤ lastE ep l := by
  induction l generalizing pos ep i with
  | nil => simp at hi
  | cons a l ih =>
    cases i with
    | zero => exact ⟨by simpa using h.1, h.2.1, Run.le (pos := pos + 1) h.2.2⟩
    | succ i =>
      have := ih h.2.2 (i := i) (by simpa using hi)
      refine ⟨?_, Int.le_trans h.2.1 this.2.1, this.2.2⟩
      obtain ⟨g, hg⟩ := this.1
      exact ⟨g, by rw [show pos + 1 + ((i + 1 : Nat) : Int) = pos + 1 + 1 + (i : Int) by omega]; exact hg⟩
theorem Run.follows {pos ep : Int} {l : List Ent} (h : Run pos ep l) (h1 : 0 ≤ pos) (h2 : pos + l.length ≤ 274877906944) (h3 : ∀ a ∈ l, 1 ≤ a.epoch) (h4 : lastE ep l ≤ 274877906944) : followsB l pos ep = true := by
  induction l generalizing pos ep with
  | nil => rfl
  | cons a l ih =>
    obtain ⟨⟨g, hg⟩, h5, h6⟩ := h
    have hp : a.pos = pos + 1 := by rw [hg]; rfl
    have hw : wrap64 (pos + 1) = pos + 1 := by simp at h2; unfold wrap64; omega
    have hle : a.epoch ≤ 274877906944 := Int.le_trans (Run.le h6) h4
    have hr : rightB a = true := by rw [hg]; exact right_plain g (by omega) (by simp at h2; omega) (h3 a List.mem_cons_self) hle
    have := ih h6 (by omega) (by simp at h2 ⊢; omega) (fun b hb => h3 b (List.mem_cons_of_mem _ hb)) h4
    show (if (a.pos != wrap64 (pos + 1)) = true then false else if a.epoch < ep then false else if rightB a = false then false else followsB l a.pos a.epoch) = true
    rw [if_neg (by rw [hp, hw]; simp), if_neg (by omega), if_neg (by rw [hr]; decide), hp]
    exact this
theorem Run.pe {pos ep : Int} {l : List Ent} (h : Run pos ep l) {i : Nat} (hi : i < (peOf l).length) : (((peOf l)[i]?).getD (0, 0)).1 = pos + 1 + i := by
  rw [peOf_len] at hi
  rw [peOf_get hi]
  obtain ⟨g, hg⟩ := (h.at hi).1
  rw [hg]
  rfl
theorem epA_pe {l : List Ent} {i : Nat} (hi : i < l.length) : epA (peOf l) i = l[i].epoch := by unfold epA; rw [peOf_get hi]
theorem Run.weak {pos ep ep' : Int} {l : List Ent} (h : Run pos ep l) (he : ep' ≤ ep) : Run pos ep' l := by
  cases l with
  | nil => trivial
  | cons a l => exact ⟨h.1, Int.le_trans he h.2.1, h.2.2⟩
theorem lastE_mono {ep ep' : Int} (l : List Ent) (he : ep' ≤ ep) : lastE ep' l ≤ lastE ep l := by
  cases l with
  | nil => exact he
  | cons a l => exact Int.le_refl _
theorem Run.follows0 {l : List Ent} (h : Run 0 1 l) (h2 : l.length ≤ 1000000) (h4 : lastE 1 l ≤ 1000000) : followsB l 0 0 = true :=
  (h.weak (ep' := 0) (by decide)).follows (by decide) (by omega) (fun a ha => by
    obtain ⟨i, hi, rfl⟩ := List.getElem_of_mem ha
    exact (h.at hi).2.1) (by have := lastE_mono (ep := 1) (ep' := 0) l (by decide); omega)
theorem Run.last_take {pos ep : Int} {l : List Ent} (h : Run pos ep l) (k : Nat) : lastE ep (l.take k) ≤ lastE ep l := by
  induction l generalizing pos ep k with
  | nil => simp
  | cons a l ih =>
    cases k with
    | zero => exact Int.le_trans h.2.1 (Run.le h.2.2)
    | succ k => exact ih h.2.2 k
theorem forks_law {la lb : List Ent} {K : Nat} {d : Int} (hRa : Run 0 1 la) (hRb : Run 0 1 lb) (hK : K ≤ la.length) (hKb : K ≤ lb.length) (htk : lb.take K = la.take K) (hlast : lastE 1 la < d) (hex : ∀ i (h : i < lb.length), K ≤ i → lb[i].epoch = d) :
    forkOf (marksN (peOf la) la.length) (marksN (peOf lb) lb.length) (gmax (gmin (la.length : Nat) (lb.length : Nat)) 0) ((1 :: (marksN (peOf la) la.length ++ marksN (peOf lb) lb.length).map (·.first)).mergeSort fun x y => decide (x ≤ y)) = K ∧
    forkOf (marksN (peOf lb) lb.length) (marksN (peOf la) la.length) (gmax (gmin (lb.length : Nat) (la.length : Nat)) 0) ((1 :: (marksN (peOf lb) lb.length ++ marksN (peOf la) la.length).map (·.first)).mergeSort fun x y => decide (x ≤ y)) = K ∧
    forkOf (marksN (peOf la) la.length) (marksN (peOf la) la.length) (gmax (gmin (la.length : Nat) (la.length : Nat)) 0) ((1 :: (marksN (peOf la) la.length ++ marksN (peOf la) la.length).map (·.first)).mergeSort fun x y => decide (x ≤ y)) = la.length := by
  have hpa : ∀ i, i < (peOf la).length → (((peOf la)[i]?).getD (0, 0)).1 = 1 + i := fun i hi => by have := hRa.pe hi; omega
  have hpb : ∀ i, i < (peOf lb).length → (((peOf lb)[i]?).getD (0, 0)).1 = 1 + i := fun i hi => by have := hRb.pe hi; omega
  have hna : ∀ i, i < (peOf la).length → epA (peOf la) i ≠ 0 := fun i hi => by
    rw [peOf_len] at hi
    have := (hRa.at hi).2.1
    rw [epA_pe hi]; omega
  have hnb : ∀ i, i < (peOf lb).length → epA (peOf lb) i ≠ 0 := fun i hi => by
    rw [peOf_len] at hi
    have := (hRb.at hi).2.1
    rw [epA_pe hi]; omega
  have hag : ∀ i, i < K → epA (peOf la) i = epA (peOf lb) i := fun i hi => by
    rw [epA_pe (show i < la.length by omega), epA_pe (show i < lb.length by omega)]
    have h1 : (lb.take K)[i]? = (la.take K)[i]? := by rw [htk]
    rw [List.getElem?_take_of_lt hi, List.getElem?_take_of_lt hi, List.getElem?_eq_getElem (by omega), List.getElem?_eq_getElem (by omega)] at h1
    injection h1 with h1
    rw [h1]
  have hsp : K < la.length → K < lb.length → epA (peOf la) K ≠ epA (peOf lb) K ∧ (K = 0 ∨ epA (peOf lb) K ≠ epA (peOf lb) (K - 1)) := fun h1 h2 => by
    have e1 := (hRa.at h1).2.2
    have e2 := hex K h2 (Nat.le_refl _)
    rw [epA_pe h1, epA_pe h2]
    refine ⟨by omega, ?_⟩
    by_cases h0 : K = 0
    · exact .inl h0
    · right
      rw [← hag (K - 1) (by omega), epA_pe (show K - 1 < la.length by omega)]
      have := (hRa.at (show K - 1 < la.length by omega)).2.2
      omega
  refine ⟨?_, ?_, ?_⟩
  · have := fork_plain hpa hpb (by rw [peOf_len]; exact hK) (by rw [peOf_len]; exact hKb) hag hna (by
      rw [peOf_len, peOf_len]
      by_cases h1 : K < la.length
      · by_cases h2 : K < lb.length
        · exact .inr (.inr ⟨h1, h2, (hsp h1 h2).1, .inr (hsp h1 h2).2⟩)
        · exact .inr (.inl (by omega))
      · exact .inl (by omega))
    simp only [peOf_len] at this
    exact this
  · have := fork_plain hpb hpa (by rw [peOf_len]; exact hKb) (by rw [peOf_len]; exact hK) (fun i hi => (hag i hi).symm) hnb (by
      rw [peOf_len, peOf_len]
      by_cases h1 : K < la.length
      · by_cases h2 : K < lb.length
        · exact .inr (.inr ⟨h2, h1, fun e => (hsp h1 h2).1 e.symm, .inl (hsp h1 h2).2⟩)
        · exact .inl (by omega)
      · exact .inr (.inl (by omega)))
    simp only [peOf_len] at this
    exact this
  · have := fork_plain hpa hpa (Nat.le_refl _) (Nat.le_refl _) (fun _ _ => rfl) hna (.inl rfl)
    simp only [peOf_len] at this
    exact this
end Go.Proofs.YtimfoijajafdpaaDoor
