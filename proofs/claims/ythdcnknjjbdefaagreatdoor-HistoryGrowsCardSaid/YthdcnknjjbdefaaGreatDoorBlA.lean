/- General words for memory: frames of changed blocks, slices that read as lists, maps as functions. Proved for every program; no condition. -/
import Derived.WalkKit
import Derived.WalkSpells
import Derived.WalkLawsBesides
import Derived.Deep.QuietTactic
import Derived.BigQuiet
import Derived.Deep.AppendLies
import Derived.Lib.Hide
import Derived.Maps.OwnSet
import Derived.Maps.RangeWalk
import Derived.Maps.AppendAt
namespace Go.Bl
open Go.RowKit

/-- Only blocks of G may have changed, among those that were there. -/
structure Keeps (G : Nat → Prop) (w w' : World) : Prop where
  os : w'.os = w.os
  tape : w'.tape = w.tape
  output : w'.output = w.output
  size : w.heap.size ≤ w'.heap.size
  block : ∀ k, k < w.heap.size → ¬ G k → w'.heap[k]? = w.heap[k]?

theorem Keeps.refl (G : Nat → Prop) (w : World) : Keeps G w w := ⟨rfl, rfl, rfl, Nat.le_refl _, fun _ _ _ => rfl⟩
theorem Keeps.mono {G G' : Nat → Prop} {w w' : World} (h : Keeps G w w') (hg : ∀ k, k < w.heap.size → G k → G' k) : Keeps G' w w' :=
  ⟨h.os, h.tape, h.output, h.size, fun k hk hn => h.block k hk fun x => hn (hg k hk x)⟩
theorem Keeps.trans {G : Nat → Prop} {a b c : World} (h : Keeps G a b) (k : Keeps G b c) : Keeps G a c :=
  ⟨k.os.trans h.os, k.tape.trans h.tape, k.output.trans h.output, Nat.le_trans h.size k.size,
   fun i hi hn => (k.block i (Nat.lt_of_lt_of_le hi h.size) hn).trans (h.block i hi hn)⟩
/-- Two steps, the second within what the first may change and what is new. -/
theorem Keeps.andThen {G G' : Nat → Prop} {a b c : World} (h : Keeps G a b) (k : Keeps G' b c) (hg : ∀ i, i < a.heap.size → G' i → G i) : Keeps G a c :=
  ⟨k.os.trans h.os, k.tape.trans h.tape, k.output.trans h.output, Nat.le_trans h.size k.size,
   fun i hi hn => (k.block i (Nat.lt_of_lt_of_le hi h.size) fun x => hn (hg i hi x)).trans (h.block i hi hn)⟩
theorem Keeps.drew {G : Nat → Prop} {a w : World} (h : Keeps G a w) : Keeps G a w.drew := ⟨h.os, h.tape, h.output, h.size, h.block⟩
theorem Keeps.drewN {G : Nat → Prop} {a w : World} (h : Keeps G a w) (n : Nat) : Keeps G a (w.drewN n) := ⟨h.os, h.tape, h.output, h.size, h.block⟩
theorem Keeps.alloc {G : Nat → Prop} {a w : World} (h : Keeps G a w) (o : Obj) : Keeps G a (w.alloc o) :=
  ⟨h.os, h.tape, h.output, by have := h.size; simp; omega, fun k hk hn => (Below.heap_alloc w o k (Nat.lt_of_lt_of_le hk h.size)).trans (h.block k hk hn)⟩
theorem Keeps.setCell {G : Nat → Prop} {a w : World} (h : Keeps G a w) {p : Addr} (hp : p.block < a.heap.size → G p.block) (u : Value) : Keeps G a (w.setCell p u) :=
  ⟨h.os, h.tape, h.output, by have := h.size; simp [World.setCell]; omega, fun k hk hn => (Below.heap_setCell w p u k (fun e => hn (by subst e; exact hp hk))).trans (h.block k hk hn)⟩
theorem Keeps.grown {G : Nat → Prop} {a w w' : World} {row : Option Nat} (h : Keeps G a w) (hg : w.grownBy w' row) (hr : ∀ k, row = some k → k < a.heap.size → G k) : Keeps G a w' :=
  ⟨hg.os.trans h.os, hg.tape.trans h.tape, hg.output.trans h.output, Nat.le_trans h.size hg.size,
   fun k hk hn => (hg.block k (Nat.lt_of_lt_of_le hk h.size) (fun e => hn (hr k e.symm hk))).trans (h.block k hk hn)⟩
theorem Keeps.of_grown {w w' : World} {row : Option Nat} (hg : w.grownBy w' row) : Keeps (fun k => row = some k) w w' :=
  ⟨hg.os, hg.tape, hg.output, hg.size, fun k hk hn => hg.block k hk (fun e => hn e.symm)⟩
theorem Keeps.of_below {B : Nat} {w w' : World} (h : Below B w w') : Keeps (fun k => B ≤ k) w w' :=
  ⟨h.os, h.tape, h.output, h.size, fun k _ hn => h.block k (by omega)⟩
theorem Keeps.of_fresh {w w' : World} (h : Below w.heap.size w w') (G : Nat → Prop) : Keeps G w w' :=
  ⟨h.os, h.tape, h.output, h.size, fun k hk _ => h.block k hk⟩
theorem Keeps.fresh {G : Nat → Prop} {a w w' : World} (h : Keeps G a w) (hb : Below w.heap.size w w') : Keeps G a w' := h.trans (Keeps.of_fresh hb G)
theorem Keeps.below {G : Nat → Prop} {w w' : World} {B : Nat} (h : Keeps G w w') (hB : B ≤ w.heap.size) (hG : ∀ k, G k → B ≤ k) : Below B w w' :=
  ⟨h.os, h.tape, h.output, h.size, fun k hk => h.block k (by omega) (fun x => by have := hG k x; omega)⟩
theorem Below.keep {G : Nat → Prop} {a w w' : World} {B : Nat} (h : Below B a w) (hk : Keeps G w w') (hB : B ≤ w.heap.size) (hG : ∀ k, G k → B ≤ k) : Below B a w' := h.trans (hk.below hB hG)
theorem Keeps.cell {G : Nat → Prop} {w w' : World} (h : Keeps G w w') {a : Addr} (ha : a.block < w.heap.size) (hn : ¬ G a.block) : w'.cell? a = w.cell? a := World.cell?_of_block (h.block _ ha hn)
theorem Keeps.frozen {G : Nat → Prop} {w w' : World} (h : Keeps G w w') {a : Addr} (ha : a.block < w.heap.size) (hn : ¬ G a.block) : w'.frozen? a = w.frozen? a := World.frozen?_of_block (h.block _ ha hn)
theorem Keeps.grownTo {G : Nat → Prop} {w w' : World} (h : Keeps G w w') {k : Nat} {o : Obj} (hk : w.heap[k]? = some o) (hn : ¬ G k) : w'.heap[k]? = some o :=
  (h.block k (Array.getElem?_eq_some_iff.1 hk).1 hn).trans hk

/-! ### slices that read as lists -/

/-- v is a slice whose elements read as l: each one by the cells 'enc', k of them; all in one block, of F. -/
def Sl {α : Type} (w : World) (F : Nat → Prop) (k : Nat) (enc : α → List Value) (v : Value) (l : List α) : Prop :=
  ∃ A c, v = .slice A l.length c ∧ l.length ≤ c ∧ c ≤ maxLen ∧ (0 < l.length → ∃ b o, A = some ⟨b, o, none⟩ ∧ F b ∧ b < w.heap.size ∧
    ∀ i (h : i < l.length) j u, (enc l[i])[j]? = some u → w.cell? ⟨b, o + i * k + j, none⟩ = some u)

section
variable {α : Type} {w w' : World} {F F' : Nat → Prop} {k : Nat} {enc : α → List Value} {v : Value} {l : List α}
theorem Sl.nil_ (w : World) (F : Nat → Prop) (k : Nat) (enc : α → List Value) : Sl w F k enc (.slice none 0 0) [] := ⟨none, 0, rfl, Nat.le_refl _, by unfold maxLen; omega, fun h => by simp at h⟩
theorem Sl.mono (h : Sl w F k enc v l) (hF : ∀ k, k < w.heap.size → F k → F' k) : Sl w F' k enc v l := by
  obtain ⟨A, c, h1, h2, h3, h4⟩ := h
  exact ⟨A, c, h1, h2, h3, fun h => by obtain ⟨b, o, a1, a2, a3, a4⟩ := h4 h; exact ⟨b, o, a1, hF b a3 a2, a3, a4⟩⟩
theorem Sl.keep {G : Nat → Prop} (h : Sl w F k enc v l) (hk : Keeps G w w') (hd : ∀ k, k < w.heap.size → F k → ¬ G k) : Sl w' F k enc v l := by
  obtain ⟨A, c, h1, h2, h3, h4⟩ := h
  exact ⟨A, c, h1, h2, h3, fun h => by
    obtain ⟨b, o, a1, a2, a3, a4⟩ := h4 h
    exact ⟨b, o, a1, a2, Nat.lt_of_lt_of_le a3 hk.size, fun i hi j u hu => (hk.cell (a := ⟨b, _, none⟩) a3 (hd b a3 a2)).trans (a4 i hi j u hu)⟩⟩
theorem Sl.below {B : Nat} (h : Sl w F k enc v l) (hb : Below B w w') (hd : ∀ k, k < w.heap.size → F k → k < B) : Sl w' F k enc v l :=
  h.keep (Keeps.of_below hb) (fun k hk hF => by have := hd k hk hF; omega)
theorem Sl.fresh (h : Sl w F k enc v l) (hb : Below w.heap.size w w') : Sl w' F k enc v l := h.below hb (fun _ h _ => h)
theorem Sl.drewN (h : Sl w F k enc v l) (n : Nat) : Sl (w.drewN n) F k enc v l := h
end

theorem flatMap_len {α : Type} (enc : α → List Value) (k : Nat) (hk : ∀ x, (enc x).length = k) : ∀ l : List α, (l.flatMap enc).length = l.length * k
  | [] => by simp
  | x :: l => by simp only [List.flatMap_cons, List.length_append, hk, flatMap_len enc k hk l, List.length_cons]; rw [Nat.add_mul]; omega
theorem flatMap_at {α : Type} (enc : α → List Value) (k : Nat) (hk : ∀ x, (enc x).length = k) : ∀ (l : List α) (i : Nat) (h : i < l.length) (j : Nat), j < k → (l.flatMap enc)[i * k + j]? = (enc l[i])[j]?
  | [], i, h, _, _ => by simp at h
  | x :: l, 0, _, j, hj => by
    simp only [Nat.zero_mul, Nat.zero_add, List.flatMap_cons, List.getElem_cons_zero]
    rw [List.getElem?_append_left (by rw [hk]; exact hj)]
  | x :: l, i + 1, h, j, hj => by
    simp only [List.flatMap_cons, List.getElem_cons_succ]
    rw [List.getElem?_append_right (by rw [hk, Nat.add_mul]; omega), hk]
    rw [show (i + 1) * k + j - k = i * k + j from by rw [Nat.add_mul]; omega]
    exact flatMap_at enc k hk l i (by simpa using h) j hj

/-- A row of the call's own reads as its list. -/
theorem Sl.of_own {α : Type} {w : World} {base : Nat} {e : TypeId} {k : Nat} {enc : α → List Value} {v : Value} {l : List α} (hk : ∀ x, (enc x).length = k)
    (h : w.ownsRow base e k v l.length (l.flatMap enc)) : Sl w (fun b => v.ownBlock = some b) k enc v l := by
  rcases h.2 with ⟨rfl, hl⟩ | ⟨g, cap, cur, rfl, hb, hg, hn, hm, hs, ht⟩
  · have : l = [] := List.eq_nil_of_length_eq_zero hl
    subst this
    exact Sl.nil_ _ _ _ _
  · refine ⟨_, _, rfl, hn, hm, fun _ => ⟨g, 0, rfl, rfl, (Array.getElem?_eq_some_iff.1 hg).1, fun i hi j u hu => ?_⟩⟩
    have hj : j < k := by
      have := (List.getElem?_eq_some_iff.1 hu).1
      rwa [hk] at this
    have hlt : i * k + j < l.length * k := by
      have h1 : (i + 1) * k ≤ l.length * k := Nat.mul_le_mul_right _ hi
      rw [Nat.add_mul] at h1; omega
    have h1 := flatMap_at enc k hk l i hi j hj
    rw [hu, ← ht, List.getElem?_take, if_pos hlt] at h1
    have := cell_of_row w g (i * k + j) cur e (0, 0) hg
    rw [Nat.zero_add, this]
    simpa using h1

/-! ### maps as functions -/

/-- A map's element is read as the value that it is. -/
def Rv (v : Value) : Option (DataW Value × List MemPlace) := some (.held v, [])

/-- Block b is a map of n entries; at the key 'mk x' it has 'g x'. -/
def MapV {κ : Type} (w : World) (P : Program) (k : TypeId) (mk : κ → Lit) (b n : Nat) (g : κ → Option Value) : Prop :=
  ∃ D : DataW Value, w.ownsMap P k Rv b n D ∧ Maps.size D = n ∧ (∀ x z, D.atKey (mk x) z = match g x with | some v => .held v | none => z) ∧ ∀ x, Maps.has D (mk x) = (g x).isSome

section
variable {κ : Type} [DecidableEq κ] {w w' : World} {P : Program} {k : TypeId} {mk : κ → Lit} {b n : Nat} {g : κ → Option Value} {t e : TypeId}

omit [DecidableEq κ] in
theorem MapV.made (w : World) (P : Program) (k : TypeId) (mk : κ → Lit) : MapV (w.alloc (.map #[] 0)) P k mk w.heap.size 0 (fun _ => none) :=
  ⟨_, World.ownsMap_made w P k Rv, rfl, fun _ _ => rfl, fun _ => rfl⟩
omit [DecidableEq κ] in
theorem MapV.lt (h : MapV w P k mk b n g) : b < w.heap.size := h.elim fun _ h => h.1.lt
omit [DecidableEq κ] in
theorem MapV.keep {G : Nat → Prop} (h : MapV w P k mk b n g) (hk : Keeps G w w') (hb : ¬ G b) : MapV w' P k mk b n g := by
  obtain ⟨D, ⟨es, clock, h1, h2⟩, h3⟩ := h
  exact ⟨D, ⟨es, clock, hk.grownTo h1 hb, h2⟩, h3⟩
omit [DecidableEq κ] in
theorem MapV.look (h : MapV w P k mk b n g) (K : Maps.Keyed P k) (ht : P.underlying t = some (.map k e)) {z : Value} (hz : (zeroValue e).run P w = .ok z w) {key : Value} {x : κ} (hkey : keyOf P k key = some (mk x)) :
    (Instr.lookup t (.map (some b)) key false).run P w = .ok ((g x).getD z) w := by
  obtain ⟨D, h1, _, h3, _⟩ := h
  obtain ⟨v, ps, hr, hv⟩ := h1.lookup K ht hz (zd := .held z) (zp := []) rfl hkey
  rw [hr]
  rw [h3] at hv
  have : v = (g x).getD z := by
    cases hg : g x <;> rw [hg] at hv <;> (simp only [Rv, Option.some.injEq, Prod.mk.injEq, DataW.held.injEq] at hv; simpa using hv.1)
  rw [this]
omit [DecidableEq κ] in
theorem MapV.len (h : MapV w P k mk b n g) (ht : P.underlying t = some (.map k e)) (ty : TypeId) : (Builtin.len_ #[t] ty #[.map (some b)]).run P w = .ok (.int .i64 n) w := by
  obtain ⟨D, h1, h2, _, _⟩ := h
  rw [h1.len ht ty, h2]

theorem MapV.store (h : MapV w P k mk b n g) (K : Maps.Keyed P k) (hmk : ∀ x y, mk x = mk y → x = y) (ht : P.underlying t = some (.map k e)) (hn : n < maxLen) {key : Value} {x : κ} (hkey : keyOf P k key = some (mk x)) (val : Value) :
    ∃ w', (Instr.mapUpdate t (.map (some b)) key val).run P w = .ok () w' ∧ MapV w' P k mk b (if (g x).isSome then n else n + 1) (fun y => if y = x then some val else g y) ∧ w.grownBy w' (some b) ∧ w'.heap.size = w.heap.size ∧ w'.drawn = w.drawn := by
  obtain ⟨D, h1, h2, h3, h4⟩ := h
  obtain ⟨w', hr, ho, hm⟩ := h1.store K ht hn hkey (d := .held val) (ps := []) rfl
  have hgr := World.mapTurned.grown hm
  have htd := h1.tidy K
  have hkl := K.key hkey
  have hsz : Maps.size (D.put (mk x) (.held val)) = if (g x).isSome then n else n + 1 := by
    rw [Maps.size_put htd, h2, h4]
  refine ⟨w', hr, ⟨D.put (mk x) (.held val), ?_, hsz, ?_, ?_⟩, hgr, ?_, ?_⟩
  · obtain ⟨es, clock, q1, q2, q3, q4⟩ := ho
    refine ⟨es, clock, q1, q2, ?_, q4⟩
    rw [← hsz, q4]
    show es.size ≤ ((es.toList.map _).foldr DataW.insert []).length
    rw [length_read]
    exact Nat.le_refl _
  · intro y z
    by_cases hy : y = x
    · subst hy
      rw [Maps.atKey_put_same h1.isMap hkl]
      simp
    · rw [Maps.atKey_put_other (fun e => hy (hmk _ _ e)), h3]
      simp [hy]
  · intro y
    by_cases hy : y = x
    · subst hy
      rw [Maps.has_put_same h1.isMap hkl]
      simp
    · rw [Maps.has_put_other (fun e => hy (hmk _ _ e)), h4]
      simp [hy]
  · obtain ⟨es, clock, es', clock', q1, q2⟩ := hm
    subst q2
    simp [ChangeMaps.setBlock]
  · obtain ⟨es, clock, es', clock', q1, q2⟩ := hm
    subst q2
    rfl

theorem MapV.delete (h : MapV w P k mk b n g) (K : Maps.Keyed P k) (hmk : ∀ x y, mk x = mk y → x = y) (ht : P.underlying t = some (.map k e)) {key : Value} {x : κ} (hkey : keyOf P k key = some (mk x)) (ty : TypeId) :
    ∃ w', (Builtin.delete_ #[t, k] ty #[.map (some b), key]).run P w = .ok (.tuple #[]) w' ∧ MapV w' P k mk b (if (g x).isSome then n - 1 else n) (fun y => if y = x then none else g y) ∧ w.grownBy w' (some b) ∧ w'.heap.size = w.heap.size ∧ w'.drawn = w.drawn := by
  obtain ⟨D, h1, h2, h3, h4⟩ := h
  obtain ⟨w', hr, ho, hm⟩ := h1.drop K ht hkey ty
  have hgr := World.mapTurned.grown hm
  have htd := h1.tidy K
  have hsz : Maps.size (D.del (mk x)) = if (g x).isSome then n - 1 else n := by
    have := Maps.size_del (k := mk x) htd
    rw [h2, h4] at this
    split at this <;> simp_all <;> omega
  refine ⟨w', hr, ⟨D.del (mk x), ?_, hsz, ?_, ?_⟩, hgr, ?_, ?_⟩
  · obtain ⟨es, clock, q1, q2, q3, q4⟩ := ho
    refine ⟨es, clock, q1, q2, ?_, q4⟩
    rw [← hsz, q4]
    show es.size ≤ ((es.toList.map _).foldr DataW.insert []).length
    rw [length_read]
    exact Nat.le_refl _
  · intro y z
    by_cases hy : y = x
    · subst hy
      rw [Maps.atKey_del_same]
      simp
    · rw [Maps.atKey_del_other (fun e => hy (hmk _ _ e)), h3]
      simp [hy]
  · intro y
    by_cases hy : y = x
    · subst hy
      rw [Maps.has_del_same]
      simp
    · rw [Maps.has_del_other (fun e => hy (hmk _ _ e)), h4]
      simp [hy]
  · obtain ⟨es, clock, es', clock', q1, q2⟩ := hm
    subst q2
    simp [ChangeMaps.setBlock]
  · obtain ⟨es, clock, es', clock', q1, q2⟩ := hm
    subst q2
    rfl
end
end Go.Bl
