/- The index: what a block of it holds, and what New, Version, Pos, Events do. Under the stated premises on sizes. -/
import Derived.Test.YtlfhokcjbgpjhaaGreatDoorProg
import Derived.Test.YtlfhokcjbgpjhaaGreatDoorBlA
import Derived.Test.YtlfhokcjbgpjhaaGreatDoorRecA
namespace Go.Proofs.YtlfhokcjbgpjhaaGreatDoor.Idx
open Go.RowKit Go.Bl

structure Kp where
  pos : Int
  e : Ev
  deriving DecidableEq
def kpc (k : Kp) : List Value := [.int .i64 k.pos, .string k.e.kind, .string k.e.data]
/-- An event, its stream, its place. -/
structure One where
  stream : ByteArray
  pos : Int
  e : Ev
  deriving DecidableEq
def One.kp (o : One) : Kp := ⟨o.pos, o.e⟩
/-- What of a row of all events is of one stream. -/
def ofS (L : List One) (s : ByteArray) : List Kp := (L.filter fun o => o.stream = s).map One.kp
theorem ofS_append (L M : List One) (s : ByteArray) : ofS (L ++ M) s = ofS L s ++ ofS M s := by simp [ofS]
theorem ofS_le (L : List One) (s : ByteArray) : (ofS L s).length ≤ L.length := by simp only [ofS, List.length_map]; exact List.length_filter_le _ _

def strLit (s : ByteArray) : Lit := .string s.data.toList
theorem strLit_inj (a b : ByteArray) (h : strLit a = strLit b) : a = b := by
  obtain ⟨⟨x⟩⟩ := a
  obtain ⟨⟨y⟩⟩ := b
  simpa [strLit] using h
theorem law : Maps.Keyed Tryz.prog 9 := Maps.string_keyed Tryz.underlying9
theorem key_ok (s : ByteArray) (h : s.size ≤ maxLen) : keyOf Tryz.prog 9 (.string s) = some (strLit s) := WideMaps.keyOf_string_mk Tryz.underlying9 h
theorem zeroKs (w : World) : (zeroValue 135).run Tryz.prog w = .ok (.slice none 0 0) w := by kernel_rfl

/-- Block p of w is an index of the events L, whose number of events is ev; it lies in the blocks F. -/
structure IdxIn (w : World) (p : Nat) (L : List One) (ev : Int) (F : Nat → Prop) (bm : Nat) (V : ByteArray → Value) (n : Nat) : Prop where
  blk : w.heap[p]? = some (.cells #[.map (some bm), .int .i64 ev] 134 (0, 0))
  map : MapV w Tryz.prog 9 strLit bm n (fun s => if ofS L s = [] then none else some (V s))
  le : n ≤ L.length
  rows : ∀ s, w.ownsRow 0 138 3 (V s) (ofS L s).length ((ofS L s).flatMap kpc)
  nil : ∀ s, ofS L s = [] → V s = .slice none 0 0
  apart : ∀ s t b, (V s).ownBlock = some b → (V t).ownBlock = some b → s = t
  fp : F p
  fm : F bm
  fv : ∀ s b, (V s).ownBlock = some b → F b
  lt : ∀ k, F k → k < w.heap.size

def IdxAt (w : World) (p : Nat) (L : List One) (F : Nat → Prop) : Prop := ∃ bm V n, IdxIn w p L L.length F bm V n

theorem IdxIn.keep {w w' : World} {p : Nat} {L : List One} {ev : Int} {F G : Nat → Prop} {bm : Nat} {V : ByteArray → Value} {n : Nat} (h : IdxIn w p L ev F bm V n) (hk : Keeps G w w') (hd : ∀ k, F k → ¬ G k) : IdxIn w' p L ev F bm V n := by
  refine ⟨hk.grownTo h.blk (hd _ h.fp), h.map.keep hk (hd _ h.fm), h.le, fun s => ?_, h.nil, h.apart, h.fp, h.fm, h.fv, fun k hF => Nat.lt_of_lt_of_le (h.lt k hF) hk.size⟩
  obtain ⟨h1, h2⟩ := h.rows s
  refine ⟨h1, ?_⟩
  rcases h2 with h2 | ⟨g, cap, cur, e1, e2, e3, e4⟩
  · exact .inl h2
  · exact .inr ⟨g, cap, cur, e1, e2, hk.grownTo e3 (hd _ (h.fv s g (by rw [e1]; rfl))), e4⟩
theorem IdxAt.keep {w w' : World} {p : Nat} {L : List One} {F G : Nat → Prop} (h : IdxAt w p L F) (hk : Keeps G w w') (hd : ∀ k, F k → ¬ G k) : IdxAt w' p L F := by
  obtain ⟨bm, V, n, h⟩ := h
  exact ⟨bm, V, n, h.keep hk hd⟩
theorem IdxAt.fresh {w w' : World} {p : Nat} {L : List One} {F : Nat → Prop} (h : IdxAt w p L F) (hk : Below w.heap.size w w') : IdxAt w' p L F :=
  h.keep (Keeps.of_fresh hk fun _ => False) (fun _ _ => id)

theorem ownsRow_nil_any (w : World) (base : Nat) (e : TypeId) (k : Nat) : w.ownsRow base e k (.slice none 0 0) 0 [] := World.ownsRow_nil w base e k

theorem row_shape {w : World} {base : Nat} {e : TypeId} {k : Nat} {v : Value} {n : Nat} {xs : List Value} (h : w.ownsRow base e k v n xs) : ∃ a c, v = .slice a n c ∧ n ≤ c ∧ c ≤ maxLen := by
  rcases h.2 with ⟨rfl, rfl⟩ | ⟨g, cap, cur, rfl, _, _, h1, h2, _⟩
  · exact ⟨_, _, rfl, Nat.le_refl _, by unfold maxLen; omega⟩
  · exact ⟨_, _, rfl, h1, h2⟩

section
variable {w : World} {p : Nat} {L : List One} {ev : Int} {F : Nat → Prop} {bm : Nat} {V : ByteArray → Value} {n : Nat}
theorem IdxIn.c0 (h : IdxIn w p L ev F bm V n) : w.cell? ⟨p, 0, none⟩ = some (.map (some bm)) := cell_of_row w p 0 _ _ _ h.blk
theorem IdxIn.c1 (h : IdxIn w p L ev F bm V n) : w.cell? ⟨p, 1, none⟩ = some (.int .i64 ev) := cell_of_row w p 1 _ _ _ h.blk
theorem IdxIn.look (h : IdxIn w p L ev F bm V n) (s : ByteArray) (hs : s.size ≤ maxLen) : (Instr.lookup 132 (.map (some bm)) (.string s) false).run Tryz.prog w = .ok (V s) w := by
  rw [h.map.look law Tryz.underlying132 (zeroKs w) (key_ok s hs)]
  by_cases e : ofS L s = []
  · simp [e, h.nil s e]
  · simp [e]
theorem IdxIn.sl (h : IdxIn w p L ev F bm V n) (s : ByteArray) : Sl w F 3 kpc (V s) (ofS L s) := (Sl.of_own (enc := kpc) (fun _ => rfl) (h.rows s)).mono fun k _ hk => h.fv s k hk
end

set_option maxHeartbeats 400000 in
theorem new_any (w : World) : Calls Tryz.prog 48 #[] w fun e w' => e = .returned (.pointer (some ⟨w.heap.size + 1, 0, none⟩)) ∧
    IdxAt w' (w.heap.size + 1) [] (fun k => w.heap.size ≤ k ∧ k < w'.heap.size) ∧ Below w.heap.size w w' := by
  have hmm := @run_makeMap Tryz.prog
  go_enter Tryz.func48, Tryz.ntmps48
  go_wp2
  go_ret
  refine ⟨rfl, ⟨w.heap.size, fun _ => .slice none 0 0, 0, ?_⟩, ((Below.refl _ _).alloc (Nat.le_refl _) _).alloc (by simp) _⟩
  refine ⟨?_, ?_, Nat.le_refl _, fun s => World.ownsRow_nil _ _ _ _, fun _ _ => rfl, ?_, by simp, by simp; omega, ?_, fun k hk => hk.2⟩
  · have := heap_alloc_new (w.alloc (.map #[] 0)) (.cells #[.map (some w.heap.size), .int .i64 0] 134)
    simpa using this
  · have := MapV.made w Tryz.prog 9 strLit
    simpa [ofS] using this.keep (G := fun _ => False) ((Keeps.refl _ _).alloc _) id
  · intro s t b h; simp [Value.ownBlock] at h
  · intro s b h; simp [Value.ownBlock] at h

set_option maxHeartbeats 400000 in
theorem version_any (w : World) (p : Nat) (L : List One) (F : Nat → Prop) (h : IdxAt w p L F) (s : ByteArray) (hs : s.size ≤ maxLen) :
    Calls Tryz.prog 66 #[.pointer (some ⟨p, 0, none⟩), .string s] w fun e w' => e = .returned (.int .i64 (ofS L s).length) ∧ w = w' := by
  obtain ⟨bm, V, n, h⟩ := h
  have c0 := h.c0
  have hl := h.look s hs
  obtain ⟨a, c, hv, _⟩ := row_shape (h.rows s)
  rw [hv] at hl
  clear hv h
  go_enter Tryz.func66, Tryz.ntmps66
  go_wp2
  go_ret
  exact ⟨rfl, rfl⟩

def posOf (l : List Kp) (n : Int) : Int := if n < 1 ∨ (l.length : Int) < n then 0 else ((l[(n - 1).toNat]?).map Kp.pos).getD 0

set_option maxHeartbeats 400000 in
theorem pos_any (w : World) (p : Nat) (L : List One) (F : Nat → Prop) (h : IdxAt w p L F) (s : ByteArray) (hs : s.size ≤ maxLen) (k : Int) (hb : L.length ≤ 1073741824) :
    Calls Tryz.prog 67 #[.pointer (some ⟨p, 0, none⟩), .string s, .int .i64 k] w fun e w' => e = .returned (.int .i64 (posOf (ofS L s) k)) ∧ w = w' := by
  obtain ⟨bm, V, n, h⟩ := h
  have c0 := h.c0
  have hl := h.look s hs
  have hS := h.sl s
  have hle := ofS_le L s
  generalize ofS L s = l at hS hle ⊢
  obtain ⟨A, c, hv, h1, h2, h3⟩ := hS
  rw [hv] at hl
  have H3 := Lib.hid h3
  clear hv h h3 hs
  by_cases hk : 1 ≤ k ∧ k ≤ (l.length : Int)
  · obtain ⟨k1, k2⟩ := hk
    obtain ⟨b, o, rfl, _, _, hc⟩ := H3.out (by omega)
    have d1 : decide (k < 1) = false := by simp; omega
    have d2 : decide ((l.length : Int) < k) = false := by simp; omega
    obtain ⟨j, rfl⟩ : ∃ j : Nat, k = (j : Int) + 1 := ⟨(k - 1).toNat, by omega⟩
    have hj : j < l.length := by omega
    have hcell := hc j hj 0 _ rfl
    have hpos : posOf l ((j : Int) + 1) = l[j].pos := by
      unfold posOf
      rw [if_neg (by omega)]
      simp [hj]
    rw [hpos]
    clear hpos hc
    simp only [Nat.add_zero] at hcell
    go_enter Tryz.func67, Tryz.ntmps67
    go_wp2
    go_ret
    exact ⟨rfl, rfl⟩
  · have hpos : posOf l k = 0 := by
      unfold posOf
      rw [if_pos (by omega)]
    rw [hpos]
    by_cases k1 : k < 1
    · have d1 : decide (k < 1) = true := by simp; omega
      clear hk
      go_enter Tryz.func67, Tryz.ntmps67
      go_wp2
      go_ret
      exact ⟨rfl, rfl⟩
    · have d1 : decide (k < 1) = false := by simp; omega
      have d2 : (l.length : Int) < k := by omega
      clear hk
      go_enter Tryz.func67, Tryz.ntmps67
      go_wp2
      go_ret
      exact ⟨rfl, rfl⟩
end Go.Proofs.YtlfhokcjbgpjhaaGreatDoor.Idx
