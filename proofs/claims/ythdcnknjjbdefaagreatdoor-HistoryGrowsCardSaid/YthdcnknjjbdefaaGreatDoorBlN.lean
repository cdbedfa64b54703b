/- 'for x, v := range m' over a map that reads as a function: which keys are still to come, and how many. Proved for every program; no condition. -/
import Derived.Test.YthdcnknjjbdefaaGreatDoorBlA
import Derived.Maps.RangeWalk
namespace Go.Bl
open Go.RowKit

/-- The loop at block r over the map at block b, of n entries, which has 'g x' at the key 'mk x'; 'left x' are still to come: cnt of them. -/
def RangeV {κ : Type} (w : World) (P : Program) (k : TypeId) (mk : κ → Lit) (b r n : Nat) (g : κ → Option Value) (left : κ → Bool) (cnt : Nat) : Prop :=
  ∃ (D : DataW Value) (lf : Lit → Bool), w.ranges P k Rv b r n D lf cnt ∧ Maps.size D = n ∧
    (∀ x z, D.atKey (mk x) z = match g x with | some v => .held v | none => z) ∧ (∀ x, Maps.has D (mk x) = (g x).isSome) ∧ ∀ x, lf (mk x) = left x
section
variable {κ : Type} {w w' : World} {P : Program} {k : TypeId} {mk : κ → Lit} {b r n cnt : Nat} {g : κ → Option Value} {left : κ → Bool}
theorem RangeV.map (h : RangeV w P k mk b r n g left cnt) : MapV w P k mk b n g := by
  obtain ⟨D, lf, h1, h2, h3, h4, _⟩ := h
  exact ⟨D, h1.owns, h2, h3, h4⟩
theorem RangeV.lt (h : RangeV w P k mk b r n g left cnt) : r < w.heap.size := by
  obtain ⟨D, lf, h1, _⟩ := h
  exact h1.lt
theorem RangeV.ne (h : RangeV w P k mk b r n g left cnt) : r ≠ b := by
  obtain ⟨D, lf, h1, _⟩ := h
  exact h1.ne
theorem RangeV.left_eq (h : RangeV w P k mk b r n g left cnt) : w.rangeLeft b r = cnt := by
  obtain ⟨D, lf, h1, _⟩ := h
  exact h1.left_eq
theorem RangeV.keep {G : Nat → Prop} (h : RangeV w P k mk b r n g left cnt) (hk : Keeps G w w') (hb : ¬ G b) (hr : ¬ G r) : RangeV w' P k mk b r n g left cnt := by
  obtain ⟨D, lf, h1, h2⟩ := h
  obtain ⟨es, clock, since, seen, c0, hb1, F, hs, hD, hr1, rest⟩ := h1
  exact ⟨D, lf, ⟨es, clock, since, seen, c0, hk.grownTo hb1 hb, F, hs, hD, hk.grownTo hr1 hr, rest⟩, h2⟩

variable {ops : Array Oper} {rest : List Oper} {o : Oper} {a : Act} {Q : Exit → Act → World → Prop}
theorem wpList_rangeV (w : World) (hg : o.guard = none) (m : Operand) (t : TypeId) (hop : o.op = Op.range t m) (k e : TypeId) (K : Maps.Keyed P k) (ht : P.underlying t = some (.map k e)) (mk : κ → Lit) (b n : Nat) (g : κ → Option Value)
    (hm : a.eval m = .map (some b)) (h : MapV w P k mk b n g)
    (hK : ∀ w', RangeV w' P k mk b w.heap.size n g (fun x => (g x).isSome) n → Keeps (fun _ => False) w w' → w'.heap.size = w.heap.size + 1 → wpList P ops Q rest (a.put o.dst (.pointer (some ⟨w.heap.size, 0, none⟩))) w') :
    wpList P ops Q (o :: rest) a w := by
  obtain ⟨D, h1, h2, h3, h4⟩ := h
  exact wpList_range_own w hg m t hop k e K ht Rv b n D hm h1 fun w' r1 r2 r3 => hK w' ⟨D, _, by rw [← h2]; rw [← h2] at r1; exact r1, h2, h3, h4, h4⟩ ((Keeps.of_grown r2).mono fun _ _ e => by simp at e) r3
theorem wpList_nextV (w : World) (hg : o.guard = none) (it : Operand) (hop : o.op = Op.next it false) (k : TypeId) (K : Maps.Keyed P k) (mk : κ → Lit) (mkK : κ → Value) (inv : ∀ key kl, keyOf P k key = some kl → ∃ x, key = mkK x ∧ kl = mk x)
    (hkey : ∀ x kl, keyOf P k (mkK x) = some kl → kl = mk x) (hinj : ∀ x y, mk x = mk y → x = y) (hself : ∀ x, (mk x).sameKey (mk x) = true) (b r n cnt : Nat) (g : κ → Option Value) (left : κ → Bool)
    (hit : a.eval it = .pointer (some ⟨r, 0, none⟩)) (h : RangeV w P k mk b r n g left cnt)
    (hDone : (∀ x, left x = false) → wpList P ops Q rest (a.put o.dst (.tuple #[.bool false])) w)
    (hMore : ∀ x v w' cnt' left', keyOf P k (mkK x) = some (mk x) → left x = true → g x = some v → (∀ y, left' y = true ↔ left y = true ∧ y ≠ x) → RangeV w' P k mk b r n g left' cnt' → cnt' < cnt → Keeps (fun z => z = r) w w' → w'.heap.size = w.heap.size →
      (Instr.entry (.pointer (some ⟨r, 0, none⟩))).run P w' = .ok (.tuple #[mkK x, v]) w' → wpList P ops Q rest (a.put o.dst (.tuple #[.bool true, mkK x, v])) w') :
    wpList P ops Q (o :: rest) a w := by
  obtain ⟨D, lf, h1, h2, h3, h4, h5⟩ := h
  refine wpList_next_ranges w hg it hop k K Rv mkK (fun v : Value => v) (fun key kl hk => by obtain ⟨x, e, _⟩ := inv key kl hk; exact ⟨x, e⟩) (fun v _ _ => ⟨v, rfl⟩) b r n D lf cnt hit h1 (fun _ hl => hDone fun x => by rw [← h5, hl]) (fun x v kl y w' cnt' hk hl hy hat hr hlt hg hs hen => ?_)
  obtain rfl := hkey x kl hk
  simp only [Rv, Option.some.injEq] at hy
  subst hy
  have hget : g x = some v := by
    cases hgA : g x with
    | none =>
      have e1 := hat (.held (.bool true))
      have e2 := hat (.held (.bool false))
      rw [h3, hgA] at e1 e2
      simp only [DataW.held.injEq] at e1 e2
      rw [← e1] at e2
      simp at e2
    | some u =>
      have e1 := hat (.held v)
      rw [h3, hgA] at e1
      have e2 : u = v := by simpa using e1
      rw [e2]
  refine hMore x v w' cnt' (fun y => lf (mk y) && !(mk y).sameKey (mk x)) hk (by rw [← h5]; exact hl) hget (fun y => ?_) ⟨D, _, hr, h2, h3, h4, fun _ => rfl⟩ hlt ((Keeps.of_grown hg).mono fun _ _ e => by simpa using e.symm) hs hen
  rw [Bool.and_eq_true, h5]
  by_cases e : y = x
  · subst e
    simp [hself]
  · rw [Maps.sameKey_ne (fun e2 => e (hinj _ _ e2))]
    simp [e]
end
end Go.Bl
