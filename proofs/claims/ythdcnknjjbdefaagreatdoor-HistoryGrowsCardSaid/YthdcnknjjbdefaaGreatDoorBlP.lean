/- Maps as lists of rows: keys and what stands there. Proved for every program; no condition. -/
import Derived.Test.YthdcnknjjbdefaaGreatDoorBlA
namespace Go.Bl
open Go.RowKit

/-- What a list of rows holds at a key. -/
def getL {κ β : Type} [DecidableEq κ] : List (κ × β) → κ → Option β
  | [], _ => none
  | r :: A, x => if r.1 = x then some r.2 else getL A x

section
variable {κ β γ : Type} [DecidableEq κ]
theorem getL_none {A : List (κ × β)} {x : κ} : getL A x = none ↔ ∀ r ∈ A, r.1 ≠ x := by
  induction A with
  | nil => simp [getL]
  | cons r A ih =>
    unfold getL
    by_cases h : r.1 = x
    · simp [h]
    · simp [h, ih]
theorem getL_mem {A : List (κ × β)} {x : κ} {v : β} (h : getL A x = some v) : (x, v) ∈ A := by
  induction A with
  | nil => simp [getL] at h
  | cons r A ih =>
    unfold getL at h
    by_cases e : r.1 = x
    · rw [if_pos e] at h
      injection h with h
      subst e h
      exact List.mem_cons_self
    · rw [if_neg e] at h
      exact List.mem_cons_of_mem _ (ih h)
theorem getL_of_mem {A : List (κ × β)} {x : κ} {v : β} (hn : (A.map Prod.fst).Nodup) (h : (x, v) ∈ A) : getL A x = some v := by
  induction A with
  | nil => cases h
  | cons r A ih =>
    rw [List.map_cons, List.nodup_cons] at hn
    unfold getL
    rcases List.mem_cons.1 h with rfl | h
    · simp
    · rw [if_neg (fun e => hn.1 (List.mem_map.2 ⟨(x, v), h, e.symm⟩))]
      exact ih hn.2 h
theorem getL_cons (r : κ × β) (A : List (κ × β)) (x : κ) : getL (r :: A) x = if r.1 = x then some r.2 else getL A x := rfl
theorem getL_append (A B : List (κ × β)) (x : κ) : getL (A ++ B) x = (getL A x).or (getL B x) := by
  induction A with
  | nil => simp [getL]
  | cons r A ih =>
    rw [List.cons_append, getL_cons, getL_cons]
    by_cases e : r.1 = x
    · simp [e]
    · simp [e, ih]
theorem getL_filter (A : List (κ × β)) (x y : κ) : getL (A.filter fun r => r.1 ≠ y) x = if x = y then none else getL A x := by
  induction A with
  | nil => simp [getL]
  | cons r A ih =>
    by_cases e : r.1 = y
    · rw [List.filter_cons_of_neg (by simp [e]), ih]
      by_cases h : x = y
      · simp [h]
      · rw [if_neg h, if_neg h]
        conv => rhs; unfold getL
        rw [if_neg (fun q => h (q.symm.trans e))]
    · rw [List.filter_cons_of_pos (by simp [e])]
      unfold getL
      by_cases h : r.1 = x
      · rw [if_pos h, if_pos h, if_neg (fun q => e (h.trans q))]
      · rw [if_neg h, if_neg h, ih]
theorem getL_len {A : List (κ × β)} (hn : (A.map Prod.fst).Nodup) (y : κ) : (A.filter fun r => r.1 ≠ y).length = if (getL A y).isSome then A.length - 1 else A.length := by
  induction A with
  | nil => simp [getL]
  | cons r A ih =>
    rw [List.map_cons, List.nodup_cons] at hn
    unfold getL
    by_cases e : r.1 = y
    · have hno : A.filter (fun r => decide (r.1 ≠ y)) = A := by
        rw [List.filter_eq_self]
        intro s hs
        simp only [ne_eq, decide_not, Bool.not_eq_true', decide_eq_false_iff_not]
        intro q
        exact hn.1 (List.mem_map.2 ⟨s, hs, q.trans e.symm⟩)
      rw [List.filter_cons_of_neg (by simp [e]), hno, if_pos e]
      simp
    · rw [List.filter_cons_of_pos (by simp [e]), if_neg e, List.length_cons, ih hn.2]
      cases hg : getL A y with
      | none => simp
      | some v =>
        have : 0 < A.length := List.length_pos_of_mem (getL_mem hg)
        simp; omega
omit [DecidableEq κ] in
theorem nodup_filter {A : List (κ × β)} (hn : (A.map Prod.fst).Nodup) (p : κ × β → Bool) : ((A.filter p).map Prod.fst).Nodup :=
  List.Nodup.sublist (List.Sublist.map _ List.filter_sublist) hn
theorem getL_map (f : β → γ) (A : List (κ × β)) (x : κ) : getL (A.map fun r => (r.1, f r.2)) x = (getL A x).map f := by
  induction A with
  | nil => simp [getL]
  | cons r A ih =>
    rw [List.map_cons, getL_cons, getL_cons]
    by_cases e : r.1 = x
    · simp [e]
    · simp [e, ih]
end

theorem MapV.congr {κ : Type} {w : World} {P : Program} {k : TypeId} {mk : κ → Lit} {b n n' : Nat} {g g' : κ → Option Value} (h : MapV w P k mk b n g) (hn : n = n') (hg : ∀ x, g x = g' x) : MapV w P k mk b n' g' := by
  subst hn
  rw [← funext hg]
  exact h

/-- Block b is a map of just these rows. -/
def MapL {κ : Type} [DecidableEq κ] (w : World) (P : Program) (k : TypeId) (mk : κ → Lit) (b : Nat) (A : List (κ × Value)) : Prop :=
  (A.map Prod.fst).Nodup ∧ MapV w P k mk b A.length (getL A)
section
variable {κ : Type} [DecidableEq κ] {w w' : World} {P : Program} {k : TypeId} {mk : κ → Lit} {b : Nat} {A : List (κ × Value)} {t e : TypeId}
theorem MapL.made (w : World) (P : Program) (k : TypeId) (mk : κ → Lit) : MapL (w.alloc (.map #[] 0)) P k mk w.heap.size [] :=
  ⟨List.nodup_nil, (MapV.made w P k mk).congr rfl (fun _ => rfl)⟩
theorem MapL.lt (h : MapL w P k mk b A) : b < w.heap.size := h.2.lt
theorem MapL.keep {G : Nat → Prop} (h : MapL w P k mk b A) (hk : Keeps G w w') (hb : ¬ G b) : MapL w' P k mk b A := ⟨h.1, h.2.keep hk hb⟩
theorem MapL.look (h : MapL w P k mk b A) (K : Maps.Keyed P k) (ht : P.underlying t = some (.map k e)) {z : Value} (hz : ∀ w, (zeroValue e).run P w = .ok z w) {key : Value} {x : κ} (hkey : keyOf P k key = some (mk x)) :
    (Instr.lookup t (.map (some b)) key false).run P w = .ok ((getL A x).getD z) w := h.2.look K ht (hz w) hkey
theorem MapL.len (h : MapL w P k mk b A) (ht : P.underlying t = some (.map k e)) (ty : TypeId) : (Builtin.len_ #[t] ty #[.map (some b)]).run P w = .ok (.int .i64 A.length) w := h.2.len ht ty
/-- A new key. -/
theorem MapL.store (h : MapL w P k mk b A) (K : Maps.Keyed P k) (hmk : ∀ x y, mk x = mk y → x = y) (ht : P.underlying t = some (.map k e)) (hn : A.length < maxLen) {key : Value} {x : κ} (hkey : keyOf P k key = some (mk x)) (hx : getL A x = none) (val : Value) :
    ∃ w', (Instr.mapUpdate t (.map (some b)) key val).run P w = .ok () w' ∧ MapL w' P k mk b (A ++ [(x, val)]) ∧ w.grownBy w' (some b) ∧ w'.heap.size = w.heap.size ∧ w'.drawn = w.drawn := by
  obtain ⟨w', h1, h2, h3⟩ := h.2.store K hmk ht hn hkey val
  refine ⟨w', h1, ⟨?_, h2.congr (by simp [hx]) (fun y => ?_)⟩, h3⟩
  · rw [List.map_append, List.nodup_append]
    refine ⟨h.1, by simp, fun a ha c hc => ?_⟩
    simp only [List.map_cons, List.map_nil, List.mem_singleton] at hc
    subst hc
    obtain ⟨r, hr, rfl⟩ := List.mem_map.1 ha
    exact getL_none.1 hx r hr
  · rw [getL_append]
    by_cases e : y = x
    · subst e
      simp [hx, getL]
    · simp [e, getL, Ne.symm e]
theorem MapL.delete (h : MapL w P k mk b A) (K : Maps.Keyed P k) (hmk : ∀ x y, mk x = mk y → x = y) (ht : P.underlying t = some (.map k e)) {key : Value} {x : κ} (hkey : keyOf P k key = some (mk x)) (ty : TypeId) :
    ∃ w', (Builtin.delete_ #[t, k] ty #[.map (some b), key]).run P w = .ok (.tuple #[]) w' ∧ MapL w' P k mk b (A.filter fun r => r.1 ≠ x) ∧ w.grownBy w' (some b) ∧ w'.heap.size = w.heap.size ∧ w'.drawn = w.drawn := by
  obtain ⟨w', h1, h2, h3⟩ := h.2.delete K hmk ht hkey ty
  exact ⟨w', h1, ⟨nodup_filter h.1 _, h2.congr (getL_len h.1 x).symm (fun y => (getL_filter A y x).symm)⟩, h3⟩
end

/-- A block of one struct. -/
theorem setCell_block {w : World} {b o : Nat} {cs : Array Value} {t : TypeId} {fr : Nat × Nat} (h : w.heap[b]? = some (.cells cs t fr)) (v : Value) : (w.setCell ⟨b, o, none⟩ v).heap[b]? = some (.cells (cs.set! o v) t fr) := by
  simp [World.setCell, Array.getElem?_modify, h]
theorem size_setCell (w : World) (a : Addr) (v : Value) : (w.setCell a v).heap.size = w.heap.size := by simp [World.setCell]
theorem Keeps.one (w : World) (b o : Nat) (v : Value) : Keeps (fun q => q = b) w (w.setCell ⟨b, o, none⟩ v) := Keeps.setCell (p := ⟨b, o, none⟩) (Keeps.refl (fun q => q = b) w) (fun _ => rfl) _
theorem frozen_block {w : World} {b : Nat} {cs : Array Value} {t : TypeId} (h : w.heap[b]? = some (.cells cs t (0, 0))) (o : Nat) : w.frozen? ⟨b, o, none⟩ = false := by simp [World.frozen?, h]
/-- What is no cell block is no row. -/
theorem MapL.not_cells {κ : Type} [DecidableEq κ] {w : World} {P : Program} {k : TypeId} {mk : κ → Lit} {b : Nat} {A : List (κ × Value)} (h : MapL w P k mk b A) {cs : Array Value} {t : TypeId} {fr : Nat × Nat} (hc : w.heap[b]? = some (.cells cs t fr)) : False := by
  obtain ⟨_, D, ⟨es, clock, h1, _⟩, _⟩ := h
  rw [h1] at hc
  simp at hc
end Go.Bl
