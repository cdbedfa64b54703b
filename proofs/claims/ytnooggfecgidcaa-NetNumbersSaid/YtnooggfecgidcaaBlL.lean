/- Slices of one element type: what an append of one list to another one leaves. Proved for every program; no condition. -/
import Derived.Test.YtnooggfecgidcaaBlE
namespace Go.Bl
open Go.RowKit

/-- t is the type of the slices of e; an element is the cells 'enc', size of them, of so many bytes. -/
structure El {α : Type} (P : Program) (t e : TypeId) (size bytes : Nat) (enc : α → List Value) : Prop where
  ht : P.underlying t = some (.slice e)
  hi : ∃ z, (P.info? e).map (fun i => (i.zero, i.size, i.bytes)) = some (some z, size, bytes) ∧ z.cells.size = size
  sz : 0 < size
  by_ : bytes ≤ 100000
  len : ∀ x, (enc x).length = size
  one : ∀ x, ∀ u ∈ enc x, u.oneCell' = true

/-- v is nil or begins a row of its own, behind the block base, that reads as l. -/
def Own {α : Type} (w : World) (base : Nat) (e : TypeId) (size : Nat) (enc : α → List Value) (v : Value) (l : List α) : Prop := w.ownsRow base e size v l.length (l.flatMap enc)

section
variable {α : Type} {P : Program} {t e : TypeId} {size bytes : Nat} {enc : α → List Value} {w w' : World} {base : Nat} {v : Value} {l m : List α}
theorem Own.nil_ (w : World) (base : Nat) (e : TypeId) (size : Nat) (enc : α → List Value) : Own w base e size enc (.slice none 0 0) ([] : List α) := World.ownsRow_nil _ _ _ _
theorem Own.made (w : World) {base : Nat} (hb : base ≤ w.heap.size) (e : TypeId) (size : Nat) (enc : α → List Value) : Own (w.alloc (.cells #[] e)) base e size enc (.slice (some ⟨w.heap.size, 0, none⟩) 0 0) ([] : List α) :=
  World.ownsRow_made w #[] 0 hb (Nat.zero_le _) (by simp)
theorem Own.sl (h : Own w base e size enc v l) (E : ∀ x, (enc x).length = size) : Sl w (fun b => v.ownBlock = some b) size enc v l := Sl.of_own E h
theorem Own.lt (h : Own w base e size enc v l) : ∀ k, v.ownBlock = some k → base ≤ k ∧ k < w.heap.size := World.ownsRow.lt h
theorem Own.lower {base' : Nat} (h : Own w base e size enc v l) (hb : base' ≤ base) : Own w base' e size enc v l := by
  obtain ⟨h1, h2⟩ := h
  exact ⟨h1, h2.imp id fun ⟨g, cap, cur, e1, e2, e3⟩ => ⟨g, cap, cur, e1, Nat.le_trans hb e2, e3⟩⟩
theorem Own.keep {G : Nat → Prop} (h : Own w base e size enc v l) (hk : Keeps G w w') (hv : ∀ b, v.ownBlock = some b → ¬ G b) : Own w' base e size enc v l := by
  obtain ⟨h1, h2⟩ := h
  refine ⟨h1, ?_⟩
  rcases h2 with h2 | ⟨g, cap, cur, e1, e2, e3, e4⟩
  · exact .inl h2
  · exact .inr ⟨g, cap, cur, e1, e2, hk.grownTo e3 (hv g (by rw [e1]; rfl)), e4⟩
theorem Own.fresh (h : Own w base e size enc v l) (hb : Below w.heap.size w w') : Own w' base e size enc v l := h.keep (Keeps.of_fresh hb fun _ => False) (fun _ _ => id)
theorem Own.shape_ (h : Own w base e size enc v l) {n : Nat} (hn : l.length = n) : ∃ a c, v = .slice a n c ∧ n ≤ c ∧ c ≤ maxLen := by
  subst hn
  rcases h.2 with ⟨rfl, h0⟩ | ⟨g, cap, cur, rfl, _, _, h1, h2, _⟩
  · exact ⟨none, 0, by rw [h0], by omega, by unfold maxLen; omega⟩
  · exact ⟨_, _, rfl, h1, h2⟩
theorem Own.drewN (h : Own w base e size enc v l) (n : Nat) : Own (w.drewN n) base e size enc v l := h
/-- A block of one element reads as the list of it. -/
theorem Sl.single {α : Type} {w : World} {k : Nat} {enc : α → List Value} {x : α} {g : Nat} {cs : Array Value} {e : TypeId} {fr : Nat × Nat}
    (hg : w.heap[g]? = some (.cells cs e fr)) (hc : cs.toList = enc x) : Sl w (fun b => b = g) k enc (.slice (some ⟨g, 0, none⟩) 1 1) [x] := by
  refine ⟨_, _, rfl, Nat.le_refl _, by show 1 ≤ maxLen; unfold maxLen; omega, fun _ => ⟨g, 0, rfl, rfl, (Array.getElem?_eq_some_iff.1 hg).1, fun i hi j u hu => ?_⟩⟩
  have hi0 : i = 0 := by simp at hi; omega
  subst hi0
  simp only [List.getElem_cons_zero, Nat.zero_mul, Nat.zero_add] at hu ⊢
  rw [cell_of_row w g j cs e fr hg, ← Array.getElem?_toList, hc]
  exact hu

/-- What the place of an append leaves. -/
def AtOf (w : World) (v v' : Value) : Prop := v'.ownBlock = v.ownBlock ∨ v'.ownBlock = some w.heap.size

theorem El.append (E : El P t e size bytes enc) (w : World) {ops : Array Oper} {rest : List Oper} {o : Oper} {a : Act} {Q : Exit → Act → World → Prop} (hw : Region.wanted o (yielded ops a.tmps) = true) (s x : Operand)
    (ho : o.op = .call { callee := .builtin .append, args := #[s, x], argTypes := #[t, t] })
    (base : Nat) (v : Value) (l : List α) (hs : a.eval s = v) (hown : Own w base e size enc v l)
    (F : Nat → Prop) (vx : Value) (m : List α) (hvx : a.eval x = vx) (hx : Sl w F size enc vx m)
    (hn : l.length + m.length ≤ 1073741824) (hbase : base ≤ w.heap.size)
    (h : ∀ v' w', Own w' base e size enc v' (l ++ m) → w.grownBy w' v.ownBlock → AtOf w v v' → wpList P ops Q rest (a.put o.dst v') w') : wpList P ops Q (o :: rest) a w := by
  obtain ⟨z, hi, hzs⟩ := E.hi
  obtain ⟨i, hi, h1, h2, h3⟩ := info_parts hi
  refine wpList_append_sl w hw s x t ho base e i z size bytes E.ht hi h1 h2 h3 hzs E.sz v l.length (l.flatMap enc) hs hown F enc E.len E.one vx m hvx hx (by unfold maxLen; omega)
    (Nat.le_trans (Nat.mul_le_mul hn E.by_) (by omega)) hbase (fun v' w' q1 q2 q3 => h v' w' ?_ q2 q3)
  rw [← List.flatMap_append, ← List.length_append] at q1
  exact q1
theorem El.step (E : El P t e size bytes enc) (w : World) {ops : Array Oper} {o : Oper} {a : Act} {K : Act → World → Prop} {Q : Exit → Act → World → Prop} {X : Prop} (hgd : o.guard = none) (s x : Operand)
    (ho : o.op = .call { callee := .builtin .append, args := #[s, x], argTypes := #[t, t] })
    (base : Nat) (v : Value) (l : List α) (hs : a.eval s = v) (hown : Own w base e size enc v l)
    (F : Nat → Prop) (vx : Value) (m : List α) (hvx : a.eval x = vx) (hx : Sl w F size enc vx m)
    (hn : l.length + m.length ≤ 1073741824) (hbase : base ≤ w.heap.size)
    (h : ∀ v' w', Own w' base e size enc v' (l ++ m) → w.grownBy w' v.ownBlock → AtOf w v v' → K (a.put o.dst v') w') :
    if Region.wanted o (yielded ops a.tmps) = true then Oper.wp P o a w K Q else X := by
  obtain ⟨z, hi, hzs⟩ := E.hi
  obtain ⟨i, hi, h1, h2, h3⟩ := info_parts hi
  refine step_append_sl hgd s x t ho base e i z size bytes E.ht hi h1 h2 h3 hzs E.sz v l.length (l.flatMap enc) hs hown F enc E.len E.one vx m hvx hx (by unfold maxLen; omega)
    (Nat.le_trans (Nat.mul_le_mul hn E.by_) (by omega)) hbase (fun v' w' q1 q2 q3 => h v' w' ?_ q2 q3)
  rw [← List.flatMap_append, ← List.length_append] at q1
  exact q1
end
end Go.Bl
