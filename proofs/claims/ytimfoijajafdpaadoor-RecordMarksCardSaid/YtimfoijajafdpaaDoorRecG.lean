/- Records: what the marks of a run are, in plain words. No condition. -/
import Derived.Test.YtimfoijajafdpaaDoorRecF
namespace Go.Proofs.YtimfoijajafdpaaDoor
open Go.RowKit Go.Bl

theorem marksN_append (l m : List (Int × Int)) : ∀ k, k ≤ l.length → marksN (l ++ m) k = marksN l k
  | 0, _ => rfl
  | k + 1, hk => by
    have ih := marksN_append l m k (by omega)
    unfold marksN
    rw [ih, List.getElem?_append_left (by omega), List.getElem?_append_left (by omega)]
theorem peOf_append (l m : List Ent) : peOf (l ++ m) = peOf l ++ peOf m := by simp [peOf]
theorem Run.last {pos ep : Int} {l : List Ent} (_h : Run pos ep l) (hn : l ≠ []) : ∃ h : l.length - 1 < l.length, l[l.length - 1].epoch = lastE ep l := by
  obtain ⟨b, x, rfl⟩ : ∃ b x, l = b ++ [x] := ⟨l.dropLast, l.getLast hn, (List.dropLast_concat_getLast hn).symm⟩
  exact ⟨by simp, by simp [lastE_snoc]⟩
/-- One entry more. -/
theorem marks_snoc {pos ep : Int} {l : List Ent} (h : Run pos ep l) (a : Ent) : marksN (peOf (l ++ [a])) (l.length + 1) = if l.length = 0 ∨ a.epoch ≠ lastE ep l then marksN (peOf l) l.length ++ [⟨a.epoch, a.pos⟩] else marksN (peOf l) l.length := by
  have e1 : ((peOf (l ++ [a]))[l.length]?).getD (0, 0) = (a.pos, a.epoch) := by
    rw [peOf_get (by simp)]; simp
  show (if l.length = 0 ∨ _ ≠ _ then _ else _) = _
  rw [e1, peOf_append, marksN_append _ _ _ (by rw [peOf_len]; exact Nat.le_refl _)]
  by_cases h0 : l.length = 0
  · rw [if_pos (.inl h0), if_pos (.inl h0)]
  · obtain ⟨hl, he⟩ := h.last (fun e => h0 (by rw [e]; rfl))
    rw [List.getElem?_append_left (by rw [peOf_len]; exact hl), peOf_get hl, he]

theorem marks_rise {l : List (Int × Int)} {f : Int} (hpos : ∀ i, i < l.length → ((l[i]?).getD (0, 0)).1 = f + i) (hup : ∀ i, i + 1 < l.length → epA l i ≤ epA l (i + 1)) : ∀ k, k ≤ l.length →
    (marksN l k).Pairwise (fun a b => a.epoch < b.epoch ∧ a.first < b.first) ∧ ∀ m ∈ marksN l k, m.epoch ≤ epA l (k - 1) ∧ m.first ≤ f + ((k - 1 : Nat) : Int)
  | 0, _ => ⟨List.Pairwise.nil, fun _ h => by cases h⟩
  | k + 1, hk => by
    obtain ⟨h1, h2⟩ := marks_rise hpos hup k (by omega)
    have hp := hpos k (by omega)
    show (if k = 0 ∨ epA l k ≠ epA l (k - 1) then marksN l k ++ [_] else marksN l k).Pairwise _ ∧ ∀ m ∈ (if k = 0 ∨ epA l k ≠ epA l (k - 1) then marksN l k ++ [_] else marksN l k), _
    by_cases h0 : k = 0
    · subst h0
      rw [if_pos (.inl rfl)]
      refine ⟨by simp [marksN], fun m hm => ?_⟩
      have : m = ⟨epA l 0, ((l[0]?).getD (0, 0)).1⟩ := by simpa [marksN, epA] using hm
      subst this
      exact ⟨Int.le_refl _, by show ((l[0]?).getD (0, 0)).1 ≤ _; rw [hp]; simp⟩
    · have hu := hup (k - 1) (by omega)
      rw [show k - 1 + 1 = k by omega] at hu
      by_cases hc : epA l k ≠ epA l (k - 1)
      · rw [if_pos (.inr hc)]
        refine ⟨List.pairwise_append.2 ⟨h1, List.pairwise_singleton _ _, fun a ha b hb => ?_⟩, fun m hm => ?_⟩
        · rw [List.mem_singleton.1 hb]
          have := h2 a ha
          exact ⟨by show a.epoch < epA l k; omega, by show a.first < ((l[k]?).getD (0, 0)).1; rw [hp]; omega⟩
        · rcases List.mem_append.1 hm with hm | hm
          · have := h2 m hm
            exact ⟨by rw [Nat.add_sub_cancel]; omega, by omega⟩
          · rw [List.mem_singleton.1 hm]
            exact ⟨Int.le_refl _, by show ((l[k]?).getD (0, 0)).1 ≤ _; rw [hp]; simp⟩
      · rw [if_neg (fun h => h.elim h0 hc)]
        refine ⟨h1, fun m hm => ?_⟩
        have := h2 m hm
        exact ⟨by rw [Nat.add_sub_cancel]; omega, by omega⟩
theorem Run.up {pos ep : Int} {l : List Ent} (h : Run pos ep l) : ∀ i (hi : i + 1 < l.length), l[i].epoch ≤ l[i + 1].epoch := by
  induction l generalizing pos ep with
  | nil => intro i hi; simp at hi
  | cons a l ih =>
    intro i hi
    cases i with
    | zero =>
      have := (h.2.2.at (i := 0) (by simpa using hi)).2.1
      simpa using this
    | succ i => exact ih h.2.2 i (by simpa using hi)
/-- The marks of a run: they rise, and tell each place's epoch. -/
theorem marks_law {f : Int} {l : List Ent} (h : Run (f - 1) 1 l) : (marksN (peOf l) l.length).Pairwise (fun a b => a.epoch < b.epoch ∧ a.first < b.first) ∧ ∀ i (hi : i < l.length), l[i].pos = f + i ∧ atM (marksN (peOf l) l.length) l[i].pos = l[i].epoch := by
  have hpos : ∀ i, i < (peOf l).length → (((peOf l)[i]?).getD (0, 0)).1 = f + i := fun i hi => by have := h.pe hi; omega
  have hup : ∀ i, i + 1 < (peOf l).length → epA (peOf l) i ≤ epA (peOf l) (i + 1) := fun i hi => by
    rw [peOf_len] at hi
    rw [epA_pe (show i < l.length by omega), epA_pe hi]
    exact h.up i hi
  refine ⟨(marks_rise hpos hup l.length (by rw [peOf_len]; exact Nat.le_refl _)).1, fun i hi => ?_⟩
  have hp : l[i].pos = f + i := by
    have := hpos i (by rw [peOf_len]; exact hi)
    rw [peOf_get hi] at this
    exact this
  refine ⟨hp, ?_⟩
  obtain ⟨n, hn⟩ : ∃ n, l.length = n + 1 := ⟨l.length - 1, by omega⟩
  have := at_marks hpos (p := l[i].pos) (by omega) n (by rw [peOf_len]; omega)
  rw [← hn] at this
  rw [this, hp, show min (f + (i : Int) - f).toNat n = i by omega, epA_pe hi]
end Go.Proofs.YtimfoijajafdpaaDoor
