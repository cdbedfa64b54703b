/- 'for x, v := range m' over a map that reads as a list of rows: what is still to come, as a list of rows. Proved for every program; no condition. -/
import Derived.Test.YthdcnknjjbdefaaGreatDoorBlP
import Derived.Maps.RangeWalk
namespace Go.Bl
open Go.RowKit

/-- The loop at block r over the map at block b, whose rows are A; the rows 'rem' are still to come. -/
def RangeL {κ : Type} [DecidableEq κ] (w : World) (P : Program) (k : TypeId) (mk : κ → Lit) (b r : Nat) (A rem : List (κ × Value)) : Prop :=
  (A.map Prod.fst).Nodup ∧ ∃ (D : DataW Value) (left : Lit → Bool) (cnt : Nat), w.ranges P k Rv b r A.length D left cnt ∧ Maps.size D = A.length ∧
    (∀ x z, D.atKey (mk x) z = match getL A x with | some v => .held v | none => z) ∧ (∀ x, Maps.has D (mk x) = (getL A x).isSome) ∧ rem = A.filter fun q => left (mk q.1)
section
variable {κ : Type} [DecidableEq κ] {w w' : World} {P : Program} {k : TypeId} {mk : κ → Lit} {b r : Nat} {A rem : List (κ × Value)}
theorem RangeL.map (h : RangeL w P k mk b r A rem) : MapL w P k mk b A := by
  obtain ⟨h0, D, left, cnt, h1, h2, h3, h4, _⟩ := h
  exact ⟨h0, D, h1.owns, h2, h3, h4⟩
theorem RangeL.lt (h : RangeL w P k mk b r A rem) : r < w.heap.size := by
  obtain ⟨h0, D, left, cnt, h1, _⟩ := h
  exact h1.lt
theorem RangeL.ne (h : RangeL w P k mk b r A rem) : r ≠ b := by
  obtain ⟨h0, D, left, cnt, h1, _⟩ := h
  exact h1.ne
theorem RangeL.sub (h : RangeL w P k mk b r A rem) : ∀ q ∈ rem, q ∈ A := by
  obtain ⟨h0, D, left, cnt, _, _, _, _, rfl⟩ := h
  exact fun q hq => (List.mem_filter.1 hq).1
theorem RangeL.keep {G : Nat → Prop} (h : RangeL w P k mk b r A rem) (hk : Keeps G w w') (hb : ¬ G b) (hr : ¬ G r) : RangeL w' P k mk b r A rem ∧ w'.rangeLeft b r = w.rangeLeft b r := by
  obtain ⟨h0, D, left, cnt, h1, h2⟩ := h
  have e1 := h1.left_eq
  obtain ⟨es, clock, since, seen, c0, hb1, F, hs, hD, hr1, rest⟩ := h1
  have h1' : w'.ranges P k Rv b r A.length D left cnt := ⟨es, clock, since, seen, c0, hk.grownTo hb1 hb, F, hs, hD, hk.grownTo hr1 hr, rest⟩
  exact ⟨⟨h0, D, left, cnt, h1', h2⟩, h1'.left_eq.trans e1.symm⟩

variable {ops : Array Oper} {rest : List Oper} {o : Oper} {a : Act} {Q : Exit → Act → World → Prop}
theorem wpList_rangeL (w : World) (hg : o.guard = none) (m : Operand) (t : TypeId) (hop : o.op = Op.range t m) (k e : TypeId) (K : Maps.Keyed P k) (ht : P.underlying t = some (.map k e)) (mk : κ → Lit) (b : Nat) (A : List (κ × Value))
    (hm : a.eval m = .map (some b)) (h : MapL w P k mk b A)
    (hK : ∀ w', RangeL w' P k mk b w.heap.size A A → Keeps (fun _ => False) w w' → w'.heap.size = w.heap.size + 1 → wpList P ops Q rest (a.put o.dst (.pointer (some ⟨w.heap.size, 0, none⟩))) w') :
    wpList P ops Q (o :: rest) a w := by
  obtain ⟨h0, D, h1, h2, h3, h4⟩ := h
  refine wpList_range_own w hg m t hop k e K ht Rv b A.length D hm h1 fun w' r1 r2 r3 => hK w' ⟨h0, D, _, _, r1, h2, h3, h4, ?_⟩ ((Keeps.of_grown r2).mono fun _ _ e => by simp at e) r3
  symm
  rw [List.filter_eq_self]
  intro q hq
  rw [h4, getL_of_mem h0 (show (q.1, q.2) ∈ A from hq)]
  rfl
theorem wpList_nextL (w : World) (hg : o.guard = none) (it : Operand) (hop : o.op = Op.next it false) (k : TypeId) (K : Maps.Keyed P k) (mk : κ → Lit) (mkK : κ → Value) (inv : ∀ key kl, keyOf P k key = some kl → ∃ x, key = mkK x ∧ kl = mk x)
    (hkey : ∀ x kl, keyOf P k (mkK x) = some kl → kl = mk x) (hinj : ∀ x y, mk x = mk y → x = y) (hself : ∀ x, (mk x).sameKey (mk x) = true) (b r : Nat) (A rem : List (κ × Value))
    (hit : a.eval it = .pointer (some ⟨r, 0, none⟩)) (h : RangeL w P k mk b r A rem)
    (hDone : rem = [] → wpList P ops Q rest (a.put o.dst (.tuple #[.bool false])) w)
    (hMore : ∀ x v w', (x, v) ∈ rem → RangeL w' P k mk b r A (rem.filter fun q => decide (q.1 ≠ x)) → Keeps (fun z => z = r) w w' → w'.heap.size = w.heap.size → w'.rangeLeft b r < w.rangeLeft b r →
      (Instr.entry (.pointer (some ⟨r, 0, none⟩))).run P w' = .ok (.tuple #[mkK x, v]) w' → wpList P ops Q rest (a.put o.dst (.tuple #[.bool true, mkK x, v])) w') :
    wpList P ops Q (o :: rest) a w := by
  obtain ⟨h0, D, left, cnt, h1, h2, h3, h4, hrem⟩ := h
  refine wpList_next_ranges w hg it hop k K Rv mkK (fun v : Value => v) (fun key kl hk => by obtain ⟨x, e, _⟩ := inv key kl hk; exact ⟨x, e⟩) (fun v _ _ => ⟨v, rfl⟩) b r A.length D left cnt hit h1 (fun _ hl => hDone ?_) (fun x v kl y w' cnt' hk hl hy hat hr hlt hg hs hen => ?_)
  · rw [hrem, List.filter_eq_nil_iff]
    intro q _
    rw [hl]
    simp
  · obtain rfl := hkey x kl hk
    simp only [Rv, Option.some.injEq] at hy
    subst hy
    have hget : getL A x = some v := by
      cases hgA : getL A x with
      | none =>
        have e1 := hat (.held (.bool true))
        have e2 := hat (.held (.bool false))
        rw [h3, hgA] at e1 e2
        simp only [DataW.held.injEq] at e1 e2
        rw [← e1] at e2
        simp at e2
      | some u =>
        have e1 := hat (.held v)
        rw [h3, hgA] at e1
        have e2 : u = v := by simpa using e1
        rw [e2]
    refine hMore x v w' ?_ ⟨h0, D, _, _, hr, h2, h3, h4, ?_⟩ ((Keeps.of_grown hg).mono fun _ _ e => by simpa using e.symm) hs (by rw [hr.left_eq, h1.left_eq]; exact hlt) hen
    · rw [hrem, List.mem_filter]
      exact ⟨getL_mem hget, hl⟩
    · rw [hrem, List.filter_filter]
      refine List.filter_congr fun q _ => ?_
      by_cases e : q.1 = x
      · rw [e, hself]; simp
      · rw [Maps.sameKey_ne (fun e2 => e (hinj _ _ e2))]
        simp [e]
end
end Go.Bl
