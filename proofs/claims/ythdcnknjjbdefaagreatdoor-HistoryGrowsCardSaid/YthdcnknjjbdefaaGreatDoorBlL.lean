/- Slices of one element type: what an append of one list to another one leaves. Proved for every program; no condition. -/
import Derived.Test.YthdcnknjjbdefaaGreatDoorBlE
namespace Go.Bl
open Go.RowKit

theorem setCell_block' {w : World} {b o : Nat} {cs : Array Value} {t : TypeId} {fr : Nat × Nat} (h : w.heap[b]? = some (.cells cs t fr)) (v : Value) : (w.setCell ⟨b, o, none⟩ v).heap[b]? = some (.cells (cs.set! o v) t fr) := by
  simp [World.setCell, Array.getElem?_modify, h]
/-- t is the type of the slices of e; an element is the cells 'enc', size of them, of so many bytes. -/
structure El {α : Type} (P : Program) (t e : TypeId) (size bytes : Nat) (enc : α → List Value) : Prop where
  ht : P.underlying t = some (.slice e)
  hi : ∃ z, (P.info? e).map (fun i => (i.zero, i.size, i.bytes)) = some (some z, size, bytes) ∧ z.cells.size = size
  sz : 0 < size
  by_ : bytes ≤ 100000
  len : ∀ x, (enc x).length = size
  one : ∀ x, ∀ u ∈ enc x, u.oneCell' = true

/-- v is nil or begins a row of its own, behind the block base, that reads as l. -/
def Own {α : Type} (w : World) (base : Nat) (e : TypeId) (size : Nat) (enc : α → List Value) (v : Value) (l : List α) : Prop := w.ownsRow base e size v l.length (l.flatMap enc)

section
variable {α : Type} {P : Program} {t e : TypeId} {size bytes : Nat} {enc : α → List Value} {w w' : World} {base : Nat} {v : Value} {l m : List α}
theorem Own.nil_ (w : World) (base : Nat) (e : TypeId) (size : Nat) (enc : α → List Value) : Own w base e size enc (.slice none 0 0) ([] : List α) := World.ownsRow_nil _ _ _ _
theorem Own.made (w : World) {base : Nat} (hb : base ≤ w.heap.size) (e : TypeId) (size : Nat) (enc : α → List Value) : Own (w.alloc (.cells #[] e)) base e size enc (.slice (some ⟨w.heap.size, 0, none⟩) 0 0) ([] : List α) :=
  World.ownsRow_made w #[] 0 hb (Nat.zero_le _) (by simp)
theorem Own.sl (h : Own w base e size enc v l) (E : ∀ x, (enc x).length = size) : Sl w (fun b => v.ownBlock = some b) size enc v l := Sl.of_own E h
theorem Own.lt (h : Own w base e size enc v l) : ∀ k, v.ownBlock = some k → base ≤ k ∧ k < w.heap.size := World.ownsRow.lt h
theorem Own.lower {base' : Nat} (h : Own w base e size enc v l) (hb : base' ≤ base) : Own w base' e size enc v l := by
  obtain ⟨h1, h2⟩ := h
  exact ⟨h1, h2.imp id fun ⟨g, cap, cur, e1, e2, e3⟩ => ⟨g, cap, cur, e1, Nat.le_trans hb e2, e3⟩⟩
theorem Own.keep {G : Nat → Prop} (h : Own w base e size enc v l) (hk : Keeps G w w') (hv : ∀ b, v.ownBlock = some b → ¬ G b) : Own w' base e size enc v l := by
  obtain ⟨h1, h2⟩ := h
  refine ⟨h1, ?_⟩
  rcases h2 with h2 | ⟨g, cap, cur, e1, e2, e3, e4⟩
  · exact .inl h2
  · exact .inr ⟨g, cap, cur, e1, e2, hk.grownTo e3 (hv g (by rw [e1]; rfl)), e4⟩
theorem Own.fresh (h : Own w base e size enc v l) (hb : Below w.heap.size w w') : Own w' base e size enc v l := h.keep (Keeps.of_fresh hb fun _ => False) (fun _ _ => id)
theorem Own.shape_ (h : Own w base e size enc v l) {n : Nat} (hn : l.length = n) : ∃ a c, v = .slice a n c ∧ n ≤ c ∧ c ≤ maxLen := by
  subst hn
  rcases h.2 with ⟨rfl, h0⟩ | ⟨g, cap, cur, rfl, _, _, h1, h2, _⟩
  · exact ⟨none, 0, by rw [h0], by omega, by unfold maxLen; omega⟩
  · exact ⟨_, _, rfl, h1, h2⟩
theorem Own.drewN (h : Own w base e size enc v l) (n : Nat) : Own (w.drewN n) base e size enc v l := h
/-- A block of one element reads as the list of it. -/
theorem Sl.single {α : Type} {w : World} {k : Nat} {enc : α → List Value} {x : α} {g : Nat} {cs : Array Value} {e : TypeId} {fr : Nat × Nat}
    (hg : w.heap[g]? = some (.cells cs e fr)) (hc : cs.toList = enc x) : Sl w (fun b => b = g) k enc (.slice (some ⟨g, 0, none⟩) 1 1) [x] := by
  refine ⟨_, _, rfl, Nat.le_refl _, by show 1 ≤ maxLen; unfold maxLen; omega, fun _ => ⟨g, 0, rfl, rfl, (Array.getElem?_eq_some_iff.1 hg).1, fun i hi j u hu => ?_⟩⟩
  have hi0 : i = 0 := by simp at hi; omega
  subst hi0
  simp only [List.getElem_cons_zero, Nat.zero_mul, Nat.zero_add] at hu ⊢
  rw [cell_of_row w g j cs e fr hg, ← Array.getElem?_toList, hc]
  exact hu

/-- One cell of one element, written. -/
theorem flatMap_set {α : Type} (enc : α → List Value) (k : Nat) (hk : ∀ x, (enc x).length = k) : ∀ (l : List α) (i : Nat) (h : i < l.length) (x : α) (j : Nat) (u : Value), j < k → enc x = (enc l[i]).set j u →
    (l.set i x).flatMap enc = (l.flatMap enc).set (i * k + j) u
  | [], i, h, _, _, _, _, _ => by simp at h
  | y :: l, 0, _, x, j, u, hj, he => by
    simp only [List.set_cons_zero, List.flatMap_cons, List.getElem_cons_zero, Nat.zero_mul, Nat.zero_add] at he ⊢
    rw [List.set_append_left _ _ (by rw [hk]; exact hj), he]
  | y :: l, i + 1, h, x, j, u, hj, he => by
    simp only [List.getElem_cons_succ] at he
    simp only [List.set_cons_succ, List.flatMap_cons]
    rw [List.set_append_right _ _ (by rw [hk, Nat.add_mul]; omega), hk, show (i + 1) * k + j - k = i * k + j by rw [Nat.add_mul]; omega, flatMap_set enc k hk l i (by simpa using h) x j u hj he]
theorem Own.set {g n c : Nat} (h : Own w base e size enc (.slice (some ⟨g, 0, none⟩) n c) l) (E : ∀ x, (enc x).length = size) {i : Nat} (hi : i < l.length) {j : Nat} (hj : j < size) {x : α} {u : Value} (hx : enc x = (enc l[i]).set j u) :
    Own (w.setCell ⟨g, i * size + j, none⟩ u) base e size enc (.slice (some ⟨g, 0, none⟩) n c) (l.set i x) := by
  obtain ⟨h1, h2⟩ := h
  have hfl := flatMap_len enc size E l
  have hlt : i * size + j < l.length * size := by
    have h1 : (i + 1) * size ≤ l.length * size := Nat.mul_le_mul_right _ hi
    rw [Nat.add_mul] at h1; omega
  rcases h2 with ⟨hc, _⟩ | ⟨g', cap, cur, hc, e2, e3, e4, e5, e6, e7⟩
  · simp at hc
  · simp only [Value.slice.injEq, Option.some.injEq, Addr.mk.injEq, and_true] at hc
    obtain ⟨rfl, rfl, rfl⟩ := hc
    refine ⟨by rw [flatMap_len enc size E, List.length_set], .inr ⟨g, c, cur.set! (i * size + j) u, by rw [List.length_set], e2, ?_, by rw [List.length_set]; exact e4, e5, by simpa using e6, ?_⟩⟩
    · have := setCell_block' (w := w) (o := i * size + j) e3 u
      exact this
    · rw [List.length_set, flatMap_set enc size E l i hi x j u hj hx, ← e7]
      simp only [Array.set!_eq_setIfInBounds, Array.toList_setIfInBounds]
      rw [List.take_set]
/-- What the place of an append leaves. -/
def AtOf (w : World) (v v' : Value) : Prop := v'.ownBlock = v.ownBlock ∨ v'.ownBlock = some w.heap.size

theorem El.append (E : El P t e size bytes enc) (w : World) {ops : Array Oper} {rest : List Oper} {o : Oper} {a : Act} {Q : Exit → Act → World → Prop} (hw : Region.wanted o (yielded ops a.tmps) = true) (s x : Operand)
    (ho : o.op = .call { callee := .builtin .append, args := #[s, x], argTypes := #[t, t] })
    (base : Nat) (v : Value) (l : List α) (hs : a.eval s = v) (hown : Own w base e size enc v l)
    (F : Nat → Prop) (vx : Value) (m : List α) (hvx : a.eval x = vx) (hx : Sl w F size enc vx m)
    (hn : l.length + m.length ≤ 1073741824) (hbase : base ≤ w.heap.size)
    (h : ∀ v' w', Own w' base e size enc v' (l ++ m) → w.grownBy w' v.ownBlock → AtOf w v v' → wpList P ops Q rest (a.put o.dst v') w') : wpList P ops Q (o :: rest) a w := by
  obtain ⟨z, hi, hzs⟩ := E.hi
  obtain ⟨i, hi, h1, h2, h3⟩ := info_parts hi
  refine wpList_append_sl w hw s x t ho base e i z size bytes E.ht hi h1 h2 h3 hzs E.sz v l.length (l.flatMap enc) hs hown F enc E.len E.one vx m hvx hx (by unfold maxLen; omega)
    (Nat.le_trans (Nat.mul_le_mul hn E.by_) (by omega)) hbase (fun v' w' q1 q2 q3 => h v' w' ?_ q2 q3)
  rw [← List.flatMap_append, ← List.length_append] at q1
  exact q1
theorem El.step (E : El P t e size bytes enc) (w : World) {ops : Array Oper} {o : Oper} {a : Act} {K : Act → World → Prop} {Q : Exit → Act → World → Prop} {X : Prop} (hgd : o.guard = none) (s x : Operand)
    (ho : o.op = .call { callee := .builtin .append, args := #[s, x], argTypes := #[t, t] })
    (base : Nat) (v : Value) (l : List α) (hs : a.eval s = v) (hown : Own w base e size enc v l)
    (F : Nat → Prop) (vx : Value) (m : List α) (hvx : a.eval x = vx) (hx : Sl w F size enc vx m)
    (hn : l.length + m.length ≤ 1073741824) (hbase : base ≤ w.heap.size)
    (h : ∀ v' w', Own w' base e size enc v' (l ++ m) → w.grownBy w' v.ownBlock → AtOf w v v' → K (a.put o.dst v') w') :
    if Region.wanted o (yielded ops a.tmps) = true then Oper.wp P o a w K Q else X := by
  obtain ⟨z, hi, hzs⟩ := E.hi
  obtain ⟨i, hi, h1, h2, h3⟩ := info_parts hi
  refine step_append_sl hgd s x t ho base e i z size bytes E.ht hi h1 h2 h3 hzs E.sz v l.length (l.flatMap enc) hs hown F enc E.len E.one vx m hvx hx (by unfold maxLen; omega)
    (Nat.le_trans (Nat.mul_le_mul hn E.by_) (by omega)) hbase (fun v' w' q1 q2 q3 => h v' w' ?_ q2 q3)
  rw [← List.flatMap_append, ← List.length_append] at q1
  exact q1
end
end Go.Bl
