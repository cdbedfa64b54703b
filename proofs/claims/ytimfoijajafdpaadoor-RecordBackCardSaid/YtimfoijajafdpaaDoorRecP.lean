/- Marks and where two logs part, in plain words. No condition. -/
import Derived.Test.YtimfoijajafdpaaDoorBlA
namespace Go.Proofs.YtimfoijajafdpaaDoor

structure Mk where
  epoch : Int
  first : Int
  deriving DecidableEq
def atM (l : List Mk) (p : Int) : Int := l.foldl (fun n m => if m.first ≤ p then m.epoch else n) 0
theorem atM_snoc (l : List Mk) (m : Mk) (p : Int) : atM (l ++ [m]) p = if m.first ≤ p then m.epoch else atM l p := by simp [atM]
/-- The marks of the first k entries; an entry: its place and its epoch. -/
def marksN (l : List (Int × Int)) : Nat → List Mk
  | 0 => []
  | k + 1 => if k = 0 ∨ ((l[k]?).getD (0, 0)).2 ≠ ((l[k - 1]?).getD (0, 0)).2 then marksN l k ++ [⟨((l[k]?).getD (0, 0)).2, ((l[k]?).getD (0, 0)).1⟩] else marksN l k
theorem marksN_len (l : List (Int × Int)) : ∀ k, (marksN l k).length ≤ k
  | 0 => Nat.le_refl _
  | k + 1 => by
    unfold marksN
    have := marksN_len l k
    split
    · rw [List.length_append, List.length_singleton]; omega
    · omega
def epA (l : List (Int × Int)) (i : Nat) : Int := ((l[i]?).getD (0, 0)).2
theorem at_before {l : List (Int × Int)} {f : Int} (hpos : ∀ i, i < l.length → ((l[i]?).getD (0, 0)).1 = f + i) {p : Int} (hp : p < f) : ∀ k, k ≤ l.length → atM (marksN l k) p = 0
  | 0, _ => rfl
  | k + 1, hk => by
    unfold marksN
    have ih := at_before hpos hp k (by omega)
    split
    · rw [atM_snoc, hpos k (by omega)]
      simp only
      rw [if_neg (by omega), ih]
    · exact ih
theorem at_marks {l : List (Int × Int)} {f : Int} (hpos : ∀ i, i < l.length → ((l[i]?).getD (0, 0)).1 = f + i) {p : Int} (hp : f ≤ p) : ∀ k, k + 1 ≤ l.length → atM (marksN l (k + 1)) p = epA l (min (p - f).toNat k)
  | 0, hk => by
    show atM (if 0 = 0 ∨ _ then _ else _) p = _
    rw [if_pos (.inl rfl), atM_snoc, hpos 0 (by omega)]
    simp only
    rw [if_pos (by simpa using hp), Nat.min_zero]
    rfl
  | k + 1, hk => by
    have ih := at_marks hpos hp k (by omega)
    show atM (if k + 1 = 0 ∨ epA l (k + 1) ≠ epA l (k + 1 - 1) then marksN l (k + 1) ++ [_] else marksN l (k + 1)) p = _
    by_cases hc : epA l (k + 1) ≠ epA l k
    · rw [if_pos (.inr (by simpa using hc)), atM_snoc, hpos (k + 1) (by omega)]
      simp only
      by_cases h1 : f + ((k + 1 : Nat) : Int) ≤ p
      · rw [if_pos h1, show min (p - f).toNat (k + 1) = k + 1 by omega]
        rfl
      · rw [if_neg h1, ih, show min (p - f).toNat k = min (p - f).toNat (k + 1) by omega]
    · rw [if_neg (by simp only [Nat.add_sub_cancel]; exact fun h => h.elim (by omega) hc), ih]
      by_cases h1 : f + ((k + 1 : Nat) : Int) ≤ p
      · rw [show min (p - f).toNat (k + 1) = k + 1 by omega, show min (p - f).toNat k = k by omega]
        exact (Decidable.not_not.1 hc).symm
      · rw [show min (p - f).toNat k = min (p - f).toNat (k + 1) by omega]
theorem marks_mem {l : List (Int × Int)} {i : Nat} (hc : i = 0 ∨ epA l i ≠ epA l (i - 1)) : ∀ k, i < k → (⟨epA l i, ((l[i]?).getD (0, 0)).1⟩ : Mk) ∈ marksN l k
  | 0, h => by omega
  | k + 1, h => by
    show _ ∈ (if k = 0 ∨ epA l k ≠ epA l (k - 1) then marksN l k ++ [_] else marksN l k)
    by_cases e : i = k
    · subst e
      rw [if_pos hc]
      exact List.mem_append_right _ (List.mem_singleton.2 rfl)
    · have ih := marks_mem hc k (by omega)
      split
      · exact List.mem_append_left _ ih
      · exact ih

/-- Where two logs part, of places in rising order. -/
def forkP (a b : List Mk) (last p : Int) : Bool := decide (1 ≤ p) && decide (p ≤ last) && (decide (atM a p = 0) || decide (atM a p ≠ atM b p))
def forkOf (a b : List Mk) (last : Int) (S : List Int) : Int := match S.find? (forkP a b last) with | some p => p - 1 | none => last
theorem fork_eq {a b : List Mk} {last : Int} {S : List Int} (hS : S.Pairwise (· ≤ ·)) {k : Int} (hk : k ≤ last) (hlow : ∀ p, 1 ≤ p → p ≤ k → forkP a b last p = false) (hup : k < last → k + 1 ∈ S ∧ forkP a b last (k + 1) = true) : forkOf a b last S = k := by
  unfold forkOf
  cases hf : S.find? (forkP a b last) with
  | none =>
    rw [List.find?_eq_none] at hf
    by_cases h : k < last
    · obtain ⟨h1, h2⟩ := hup h
      exact absurd h2 (hf _ h1)
    · show last = k; omega
  | some p =>
    have hp := List.find?_some hf
    have hp' := hp
    simp only [forkP, Bool.and_eq_true, decide_eq_true_eq] at hp'
    have h1 : ¬ p ≤ k := fun h => by rw [hlow p hp'.1.1 h] at hp; exact absurd hp (by decide)
    obtain ⟨h2, h3⟩ := hup (by omega)
    have h4 : p ≤ k + 1 := by
      obtain ⟨xs, ys, e, hn⟩ := List.find?_eq_some_iff_append.1 hf |>.2
      rw [e] at h2 hS
      rcases List.mem_append.1 h2 with h | h
      · have := hn _ h
        rw [h3] at this
        exact absurd this (by decide)
      · rcases List.mem_cons.1 h with h | h
        · omega
        · exact (List.pairwise_cons.1 (List.pairwise_append.1 hS).2.1).1 _ h
    show p - 1 = k
    omega
end Go.Proofs.YtimfoijajafdpaaDoor
