/- Dedup: sameInts; two tables that keep away from one another. -/
import Derived.Test.YthdcnknjjbdefaaGreatDoorDedE
namespace Go.Proofs.YthdcnknjjbdefaaGreatDoor.Ded
open Go.RowKit Go.Bl
attribute [local go_sem ↓] Go.wp_at_zero Go.wp_at_succ

theorem Tab.keep {X : Nat → Prop} {w w' : World} {p : Nat} {L : List En} (h : Tab X w p L) (hk : Keeps X w w') : Tab X w' p L := by
  obtain ⟨F, G, h1, h2⟩ := h
  exact ⟨F, G, h1.keep hk h2, h2⟩
theorem Tab.lt {X : Nat → Prop} {w : World} {p : Nat} {L : List En} (h : Tab X w p L) : ∃ F : Nat → Prop, (∀ k, F k → k < w.heap.size) ∧ ∃ G, TabAt w p L F G ∧ ∀ k, F k → ¬ X k := by
  obtain ⟨F, G, h1, h2⟩ := h
  have hl : ∀ k, F k → k < w.heap.size := by obtain ⟨bm, R, h3, _⟩ := h1; exact h3.lt
  exact ⟨F, hl, G, h1, h2⟩
theorem Tab.more {X X' : Nat → Prop} {w : World} {p : Nat} {L : List En} (h : Tab X w p L) (hm : ∀ k, X' k → X k ∨ w.heap.size ≤ k) : Tab X' w p L := by
  obtain ⟨F, hl, G, h1, h2⟩ := h.lt
  exact ⟨F, G, h1, fun k hF hx => by rcases hm k hx with e | e; exact h2 k hF e; have := hl k hF; omega⟩
/-- Two rising lists of the same numbers are one. -/
theorem rising_one {xs ys : List Int} (hx : xs.Pairwise (· < ·)) (hy : ys.Pairwise (· < ·)) (h : ∀ z, z ∈ xs ↔ z ∈ ys) : xs = ys :=
  ((List.perm_ext_iff_of_nodup (hx.imp fun {a b} h e => by omega) (hy.imp fun {a b} h e => by omega)).2 h).eq_of_pairwise (fun a b _ _ h1 h2 => by omega) hx hy

/-- Blocks p and q are tables that share nothing, and keep away from X. -/
def Two (X : Nat → Prop) (w : World) (p : Nat) (L : List En) (q : Nat) (M : List En) : Prop := ∃ F G, TabAt w q M F G ∧ (∀ k, F k → ¬ X k) ∧ Tab (fun k => X k ∨ F k) w p L
section
variable {X X' : Nat → Prop} {w w' : World} {p q : Nat} {L M : List En}
theorem Two.fst (h : Two X w p L q M) : Tab X w p L := by
  obtain ⟨F, G, h1, h2, F2, G2, h3, h4⟩ := h
  exact ⟨F2, G2, h3, fun k hF hx => h4 k hF (.inl hx)⟩
theorem Two.snd (h : Two X w p L q M) : Tab X w q M := by
  obtain ⟨F, G, h1, h2, h3⟩ := h
  exact ⟨F, G, h1, h2⟩
theorem Two.swap (h : Two X w p L q M) : Two X w q M p L := by
  obtain ⟨F, G, h1, h2, F2, G2, h3, h4⟩ := h
  exact ⟨F2, G2, h3, fun k hF hx => h4 k hF (.inl hx), F, G, h1, fun k hF hx => by
    rcases hx with hx | hx
    · exact h2 k hF hx
    · exact h4 k hx (.inr hF)⟩
theorem Two.fresh (h : Two X w p L q M) (hk : Below w.heap.size w w') : Two X w' p L q M := by
  obtain ⟨F, G, h1, h2, h3⟩ := h
  exact ⟨F, G, h1.fresh hk, h2, h3.fresh hk⟩
theorem Tab.two (h : Tab X w q M) (hX : ∀ k, X k → k < w.heap.size) (h' : ∀ Y : Nat → Prop, (∀ k, Y k → k < w.heap.size) → Tab Y w' p L ∧ Below w.heap.size w w') : Two X w' p L q M := by
  obtain ⟨F, hl, G, h1, h2⟩ := h.lt
  exact ⟨F, G, h1.fresh (h' X hX).2, h2, (h' (fun k => X k ∨ F k) fun k hk => hk.elim (hX k) (hl k)).1⟩
end
theorem newTwo (w : World) (X : Nat → Prop) (hX : ∀ k, X k → k < w.heap.size) (q : Nat) (M : List En) (h : Tab X w q M) :
    Calls Tryz.prog 60 #[] w fun e w' => ∃ p, e = .returned (.pointer (some ⟨p, 0, none⟩)) ∧ Two X w' p [] q M ∧ Below w.heap.size w w' := by
  obtain ⟨F, hl, G, h1, h2⟩ := h.lt
  exact (newT w (fun k => X k ∨ F k) (fun k hk => hk.elim (hX k) (hl k))).mono fun _ _ ⟨p, he, hT, hB⟩ => ⟨p, he, ⟨F, G, h1.fresh hB, h2, hT⟩, hB⟩
theorem putTwo (w : World) (X : Nat → Prop) (hX : ∀ k, X k → k < w.heap.size) (p q : Nat) (L M : List En) (h : Two X w p L q M) (x y : Int) (hx : i64 x) (hy : i64 y) (o : Oc) (hL : L.length ≤ 1000000) :
    Calls Tryz.prog 66 #[.pointer (some ⟨p, 0, none⟩), .int .i64 x, .int .i64 y, .agg #[.int .i64 o.code, .int .i64 o.pos, .int .i64 o.first, .int .i64 o.ver]] w fun e w' => e = .returned (.int .i64 (putL L x y o).2) ∧ Two X w' p (putL L x y o).1 q M ∧ Keeps (fun k => ¬ X k) w w' := by
  obtain ⟨F, G, h1, h2, h3⟩ := h
  have hl : ∀ k, F k → k < w.heap.size := by obtain ⟨bm, R, h3, _⟩ := h1; exact h3.lt
  refine (putT w (fun k => X k ∨ F k) (fun k hk => hk.elim (hX k) (hl k)) p L h3 x y hx hy o hL).mono fun _ _ ⟨he, hT, hK⟩ => ⟨he, ⟨F, G, h1.keep hK (fun k hk hn => hn (.inr hk)), h2, hT⟩, hK.mono fun k _ hn hx => hn (.inl hx)⟩

/-- What is known of session x is alike. -/
def Like (x : Int) (L M : List En) : Prop := highL L x = highL M x ∧ ∀ y, findL L x y = findL M x y
theorem Like.look {x : Int} {L M : List En} (h : Like x L M) (y : Int) : lookL L x y = lookL M x y := by
  unfold lookL
  rw [h.1, h.2]
theorem Like.put {x : Int} {L M : List En} (h : Like x L M) (y : Int) (o : Oc) : (putL L x y o).2 = (putL M x y o).2 ∧ Like x (putL L x y o).1 (putL M x y o).1 := by
  unfold putL
  rw [h.look]
  repeat' split
  all_goals first
    | exact ⟨rfl, h⟩
    | exact ⟨rfl, by show highL (_ ++ [_]) _ = highL (_ ++ [_]) _; rw [highL_append, highL_append, h.1], fun z => by show findL (_ ++ [_]) _ _ = findL (_ ++ [_]) _ _; rw [findL_append, findL_append, h.2]⟩
theorem putL_cases (L : List En) (x y : Int) (o : Oc) : (putL L x y o = (L ++ [⟨x, y, o⟩], 0) ∧ lookL L x y = (oc0, 0) ∧ findL L x y = none ∧ 1 ≤ x ∧ 1 ≤ y) ∨ ∃ c : Int, (c = 1 ∨ c = 7 ∨ c = 12) ∧ putL L x y o = (L, c) := by
  unfold putL
  by_cases hb : x < 1 ∨ y < 1
  · exact .inr ⟨1, .inl rfl, if_pos hb⟩
  · rw [if_neg hb]
    rcases lookL_cases L x y with ⟨h0, h1, h2, h3⟩ | h | h
    · refine .inl ⟨by rw [h0]; rfl, lookL_fresh (by omega) h3, h3, by omega, by omega⟩
    · exact .inr ⟨7, .inr (.inl rfl), by rw [h]; rfl⟩
    · exact .inr ⟨12, .inr (.inr rfl), by rw [h]; rfl⟩
theorem putL_fst (L : List En) (x y : Int) (o : Oc) : (putL L x y o).1 = L ∨ (putL L x y o).1 = L ++ [⟨x, y, o⟩] := by
  rcases putL_cases L x y o with ⟨h, _⟩ | ⟨c, _, h⟩
  · exact .inr (by rw [h])
  · exact .inl (by rw [h])
theorem like_other {x a : Int} {L M : List En} (h : Like x L M) (hne : a ≠ x) (y : Int) (o : Oc) : Like x (putL L a y o).1 M := by
  rcases putL_fst L a y o with e | e
  · rw [e]; exact h
  · rw [e]
    refine ⟨by rw [highL_append, if_neg hne, h.1], fun z => ?_⟩
    rw [findL_append, if_neg (fun e => hne e.1), Option.or_none, h.2]
theorem putL_len (L : List En) (x y : Int) (o : Oc) : (putL L x y o).1.length ≤ L.length + 1 := by
  rcases putL_fst L x y o with e | e
  · rw [e]; omega
  · rw [e, List.length_append]; simp
theorem putL_mem {L : List En} {x y z : Int} {o : Oc} (h : ∀ e ∈ L, e.ses = z) (hx : x = z) : ∀ e ∈ (putL L x y o).1, e.ses = z := by
  intro e he
  rcases putL_fst L x y o with q | q
  · rw [q] at he; exact h e he
  · rw [q] at he
    rcases List.mem_append.1 he with he | he
    · exact h e he
    · obtain rfl := List.mem_singleton.1 he; exact hx
end Go.Proofs.YthdcnknjjbdefaaGreatDoor.Ded
