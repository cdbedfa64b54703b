/- General words, second part: max and min under a name, cuts of slices, appends from a slice that reads as a list. Proved for every program; no condition. -/
import Derived.Test.YthdcnknjjbdefaaGreatDoorBlA
namespace Go.Bl
open Go.RowKit

/-- max and min of two integers, under names that the walk does not open. -/
def gmax (x y : Int) : Int := max x y
def gmin (x y : Int) : Int := min x y
theorem gmax_def (x y : Int) : gmax x y = max x y := rfl
theorem gmin_def (x y : Int) : gmin x y = min x y := rfl
theorem run_gmax (P : Program) (ts : Array TypeId) (t : TypeId) (k k' : IntKind) (x y : Int) (w : World) : (Builtin.max_ ts t #[.int k x, .int k' y]).run P w = .ok (.int k (gmax x y)) w := by
  rw [run_max_int2]; unfold gmax; congr 2; split <;> omega
theorem run_gmin (P : Program) (ts : Array TypeId) (t : TypeId) (k k' : IntKind) (x y : Int) (w : World) : (Builtin.min_ ts t #[.int k x, .int k' y]).run P w = .ok (.int k (gmin x y)) w := by
  rw [run_min_int2]; unfold gmin; congr 2; split <;> omega

/-- Where a slice begins that is cut at i: s cells an element. -/
def cutA (a : Option Addr) (cap i s : Nat) : Option Addr := if cap = i then a else a.map (·.add (i * s))

section
variable {P : Program} {t e : TypeId} {size : Nat}
theorem run_cut_low (ht : P.underlying t = some (.slice e)) (hs : ∀ w : World, (sizeOf e).run P w = .ok size w) (a : Option Addr) (n c : Nat) (i : Int) (h0 : 0 ≤ i) (h1 : i ≤ n) (w : World) :
    (Instr.slice t (.slice a n c) (some (.int .i64 i)) none none).run P w = .ok (.slice (cutA a c i.toNat size) (n - i.toNat) (c - i.toNat)) w := by
  have he : P.elem t = e := by simp [Program.elem, ht]
  rw [run_slice_l (P := P) w t a n c (by rw [he]; exact ht) .i64 i h0 h1, he, hs]
  simp [Result.andThen, sliced, cutA]
theorem run_cut_high (ht : P.underlying t = some (.slice e)) (hs : ∀ w : World, (sizeOf e).run P w = .ok size w) (a : Option Addr) (n c : Nat) (i : Int) (h0 : 0 ≤ i) (h1 : i ≤ c) (w : World) :
    (Instr.slice t (.slice a n c) none (some (.int .i64 i)) none).run P w = .ok (.slice (cutA a c 0 size) i.toNat c) w := by
  have he : P.elem t = e := by simp [Program.elem, ht]
  rw [run_slice_h (P := P) w t a n c (by rw [he]; exact ht) .i64 i h0 h1, he, hs]
  simp [Result.andThen, sliced, cutA]
end

section
variable {α : Type} {w w' : World} {F F' : Nat → Prop} {k : Nat} {enc : α → List Value} {l : List α}
/-- What is left behind place i. -/
theorem Sl.drop_ {A : Option Addr} {n c : Nat} (h : Sl w F k enc (.slice A n c) l) {i : Nat} (hi : i ≤ l.length) : Sl w F k enc (.slice (cutA A c i k) (n - i) (c - i)) (l.drop i) := by
  obtain ⟨A', c', e, h1, h2, h3⟩ := h
  injection e with e1 e2 e3
  subst e1 e2 e3
  refine ⟨_, _, by rw [List.length_drop], by rw [List.length_drop]; omega, by omega, fun hp => ?_⟩
  rw [List.length_drop] at hp
  obtain ⟨b, o, rfl, a2, a3, a4⟩ := h3 (by omega)
  unfold cutA
  rw [if_neg (by omega)]
  refine ⟨b, o + i * k, ?_, a2, a3, fun j hj q u hu => ?_⟩
  · simp only [Option.map_some, Addr.add]
    split
    · rename_i hz; rw [hz]; rfl
    · rfl
  · have hj' : i + j < l.length := by rw [List.length_drop] at hj; omega
    have := a4 (i + j) hj' q u (by rw [List.getElem_drop] at hu; exact hu)
    rw [show o + i * k + j * k + q = o + (i + j) * k + q by rw [Nat.add_mul]; omega]
    exact this
/-- The first i of them. -/
theorem Sl.take_ {A : Option Addr} {n c : Nat} (h : Sl w F k enc (.slice A n c) l) {i : Nat} (hi : i ≤ l.length) : Sl w F k enc (.slice (cutA A c 0 k) i c) (l.take i) := by
  obtain ⟨A', c', e, h1, h2, h3⟩ := h
  injection e with e1 e2 e3
  subst e1 e2 e3
  have hl : (l.take i).length = i := by rw [List.length_take]; omega
  refine ⟨_, _, by rw [hl], by rw [hl]; omega, h2, fun hp => ?_⟩
  rw [hl] at hp
  obtain ⟨b, o, rfl, a2, a3, a4⟩ := h3 (by omega)
  refine ⟨b, o, ?_, a2, a3, fun j hj q u hu => ?_⟩
  · unfold cutA
    split
    · rfl
    · simp [Addr.add]
  · rw [hl] at hj
    exact a4 j (by omega) q u (by rw [List.getElem_take] at hu; exact hu)
theorem Sl.len_ {A : Option Addr} {n c : Nat} (h : Sl w F k enc (.slice A n c) l) : n = l.length := by
  obtain ⟨A', c', e, _⟩ := h
  injection e
/-- A cell of the element i. -/
theorem Sl.cell_ {A : Option Addr} {n c : Nat} (h : Sl w F k enc (.slice A n c) l) {i : Nat} (hi : i < l.length) : ∃ b o, A = some ⟨b, o, none⟩ ∧ F b ∧ b < w.heap.size ∧ ∀ j u, (enc l[i])[j]? = some u → w.cell? ⟨b, o + i * k + j, none⟩ = some u := by
  obtain ⟨A', c', e, h1, h2, h3⟩ := h
  injection e with e1 e2 e3
  subst e1 e2 e3
  obtain ⟨b, o, rfl, a2, a3, a4⟩ := h3 (by omega)
  exact ⟨b, o, rfl, a2, a3, a4 i hi⟩
theorem Sl.shape {v : Value} (h : Sl w F k enc v l) : ∃ A c, v = .slice A l.length c ∧ l.length ≤ c ∧ c ≤ maxLen := by
  obtain ⟨A, c, h1, h2, h3, _⟩ := h
  exact ⟨A, c, h1, h2, h3⟩
end
theorem Sl.bound {α : Type} {w : World} {F : Nat → Prop} {k : Nat} {enc : α → List Value} {v : Value} {l : List α} (h : Sl w F k enc v l) : Sl w (fun b => F b ∧ b < w.heap.size) k enc v l := h.mono fun _ h1 h2 => ⟨h2, h1⟩
theorem Sl.shape_ {α : Type} {w : World} {F : Nat → Prop} {k : Nat} {enc : α → List Value} {v : Value} {l : List α} (h : Sl w F k enc v l) {n : Nat} (hn : l.length = n) : ∃ A c, v = .slice A n c ∧ n ≤ c ∧ c ≤ maxLen := by
  subst hn; exact h.shape

/-! ### append -/
section
variable {P : Program} (w : World)
theorem run_append_of_nil (base : Nat) (t ty e : TypeId) (i : TypeInfo) (size : Nat) (ht : P.underlying t = some (.slice e)) (hi : P.info? e = some i)
    (v : Value) (n : Nat) (xs : List Value) (hown : w.ownsRow base e size v n xs) (c : Nat) : (Builtin.append_ #[t, t] ty #[v, .slice none 0 c]).run P w = .ok v w := by
  rcases hown.2 with ⟨rfl, rfl⟩ | ⟨g, cap, cur, rfl, _, _, hnc, _⟩
  · simp [Builtin.append_, run_underlying ht, sizeOf, typeInfo, hi, Builtin.lenOf, Builtin.firstCells]
  · simp [Builtin.append_, run_underlying ht, sizeOf, typeInfo, hi, Builtin.lenOf, Builtin.firstCells, hnc, storeCells]

/-- append of a slice that reads as a list, onto a row of the call's own. -/
theorem run_append_sl {α : Type} (base : Nat) (t ty e : TypeId) (i : TypeInfo) (z : Value) (size bytes : Nat) (ht : P.underlying t = some (.slice e)) (hi : P.info? e = some i) (hz : i.zero = some z)
    (hsize : i.size = size) (hby : i.bytes = bytes) (hzs : z.cells.size = size) (hsz : 0 < size)
    (v : Value) (n : Nat) (xs : List Value) (hown : w.ownsRow base e size v n xs)
    (F : Nat → Prop) (enc : α → List Value) (hk : ∀ x, (enc x).length = size) (h1 : ∀ x, ∀ u ∈ enc x, u.oneCell' = true) (vx : Value) (l : List α) (hx : Sl w F size enc vx l)
    (h63 : n + l.length ≤ maxLen) (hbytes : (n + l.length) * bytes ≤ 140737488355328) (hbase : base ≤ w.heap.size) :
    ∃ v' w', (Builtin.append_ #[t, t] ty #[v, vx]).run P w = .ok v' w' ∧ w'.ownsRow base e size v' (n + l.length) (xs ++ l.flatMap enc) ∧ w.grownBy w' v.ownBlock ∧
      (v'.ownBlock = v.ownBlock ∨ v'.ownBlock = some w.heap.size) := by
  obtain ⟨A, c, rfl, _, _, hc⟩ := hx
  by_cases hl : l = []
  · subst hl
    cases A with
    | none => exact ⟨v, w, run_append_of_nil w base t ty e i size ht hi v n xs hown c, by simpa using hown, World.grownBy.refl w _, .inl rfl⟩
    | some ad =>
      obtain ⟨v', w', hrun, h2, h3, _, h5⟩ := run_append_own_at (P := P) w base t ty e i z size bytes ht hi hz hsize hby hzs hsz v n xs hown ad 0 c [] (by simp) (fun j u hu => by simp at hu) (by simp) h63 hbytes hbase
      exact ⟨v', w', hrun, by simpa using h2, h3, h5⟩
  · have hpos : 0 < l.length := by
      rcases Nat.eq_zero_or_pos l.length with h0 | h0
      · exact absurd (List.eq_nil_of_length_eq_zero h0) hl
      · exact h0
    obtain ⟨b, o, rfl, _, _, hcell⟩ := hc hpos
    have hlen := flatMap_len enc size hk l
    have hcells : ∀ j u, (l.flatMap enc)[j]? = some u → w.cell? ((⟨b, o, none⟩ : Addr).add j) = some u := by
      intro j u hu
      have hj : j < l.length * size := by rw [← hlen]; exact (List.getElem?_eq_some_iff.1 hu).1
      have hd : j / size < l.length := (Nat.div_lt_iff_lt_mul hsz).2 hj
      have hm := Nat.mod_lt j hsz
      have he : j = j / size * size + j % size := by have := Nat.div_add_mod j size; rw [Nat.mul_comm] at this; omega
      have h := flatMap_at enc size hk l (j / size) hd (j % size) hm
      rw [← he, hu] at h
      have := hcell (j / size) hd (j % size) u h.symm
      rw [show (⟨b, o, none⟩ : Addr).add j = ⟨b, o + (j / size * size) + j % size, none⟩ by unfold Addr.add; split <;> simp <;> omega]
      exact this
    obtain ⟨v', w', hrun, h2, h3, _, h5⟩ := run_append_own_at (P := P) w base t ty e i z size bytes ht hi hz hsize hby hzs hsz v n xs hown ⟨b, o, none⟩ l.length c (l.flatMap enc) hlen hcells (fun u hu => by
      obtain ⟨x, _, hx⟩ := List.mem_flatMap.1 hu
      exact h1 x u hx) h63 hbytes hbase
    exact ⟨v', w', hrun, h2, h3, h5⟩

/-- .. at the operation, guarded or not. -/
theorem wpList_append_sl {α : Type} {ops : Array Oper} {rest : List Oper} {o : Oper} {a : Act} {Q : Exit → Act → World → Prop} (hw : Region.wanted o (yielded ops a.tmps) = true) (s x : Operand) (t : TypeId)
    (ho : o.op = .call { callee := .builtin .append, args := #[s, x], argTypes := #[t, t] })
    (base : Nat) (e : TypeId) (i : TypeInfo) (z : Value) (size bytes : Nat) (ht : P.underlying t = some (.slice e)) (hi : P.info? e = some i) (hz : i.zero = some z)
    (hsize : i.size = size) (hby : i.bytes = bytes) (hzs : z.cells.size = size) (hsz : 0 < size)
    (v : Value) (n : Nat) (xs : List Value) (hs : a.eval s = v) (hown : w.ownsRow base e size v n xs)
    (F : Nat → Prop) (enc : α → List Value) (hk : ∀ x, (enc x).length = size) (h1 : ∀ x, ∀ u ∈ enc x, u.oneCell' = true) (vx : Value) (l : List α) (hvx : a.eval x = vx) (hx : Sl w F size enc vx l)
    (h63 : n + l.length ≤ maxLen) (hbytes : (n + l.length) * bytes ≤ 140737488355328) (hbase : base ≤ w.heap.size)
    (h : ∀ v' w', w'.ownsRow base e size v' (n + l.length) (xs ++ l.flatMap enc) → w.grownBy w' v.ownBlock → (v'.ownBlock = v.ownBlock ∨ v'.ownBlock = some w.heap.size) → wpList P ops Q rest (a.put o.dst v') w') : wpList P ops Q (o :: rest) a w := by
  obtain ⟨v', w', hr, h2, h3, h4⟩ := run_append_sl (P := P) w base t o.type e i z size bytes ht hi hz hsize hby hzs hsz v n xs hown F enc hk h1 vx l hx h63 hbytes hbase
  refine wpList_step fun K hK => ?_
  rw [if_pos hw]
  unfold Oper.wp execOp
  simp only [ho, resolve, invoke, builtin, Sem.run_bind, Sem.run_pure, Result.andThen_ok, List.map_toArray, List.map_cons, List.map_nil, hs, hvx, hr]
  exact hK _ _ (h v' w' h2 h3 h4)
end
end Go.Bl
