/- The net and the document's net side by side: what each act makes of both. -/
import Derived.Test.YtnooggfecgidcaaNetS
namespace Go.Proofs.Ytnooggfecgidcaa
open Go.RowKit Go.Bl

def nonePk : Pk := ⟨0, 0, 0, ⟨#[]⟩⟩
def Nt.find (s : Nt) (x : Int) : Option Pk := s.L.find? fun q => q.no = x
def Nt.takeR (s : Nt) (x : Int) : Pk × Bool := match s.find x with | some q => (q, true) | none => (nonePk, false)
def Nt.copy (s : Nt) (x : Int) : Nt × Int × Int := match s.find x with | some q => s.send q.frm q.to q.txt | none => (s, 0, 6)
def Nt.turnR (s : Nt) (x at_ by_ : Int) : Nt × Bool := match s.find x with
  | some q => if 0 ≤ at_ ∧ at_ < q.txt.size then (s.turn x (turnB q.txt at_.toNat by_), true) else (s, false)
  | none => (s, false)
theorem find_none {s : Nt} {x : Int} (h : s.find x = none) : ∀ q ∈ s.L, q.no ≠ x := fun q hq e => by
  have := List.find?_eq_none.1 h q hq
  simp [e] at this
theorem find_some {s : Nt} {x : Int} {q : Pk} (h : s.find x = some q) : q ∈ s.L ∧ q.no = x := ⟨List.mem_of_find?_eq_some h, by simpa using List.find?_some h⟩
theorem del_none {s : Nt} {x : Int} (h : ∀ q ∈ s.L, q.no ≠ x) : s.del x = s := by
  unfold Nt.del
  rw [List.filter_eq_self.2 (fun q hq => by simpa using h q hq)]
theorem send_bound (s : Nt) (f t : Int) (x : ByteArray) : (s.send f t x).1.last ≤ s.last + 1 ∧ (s.send f t x).1.lost ≤ s.lost + 1 ∧ (s.send f t x).1.room = s.room := by
  unfold Nt.send
  by_cases h1 : 8100 < x.size
  · rw [if_pos h1]; exact ⟨by simp; omega, by simp; omega, rfl⟩
  · rw [if_neg h1]
    by_cases h2 : s.room ≤ (s.L.length : Int)
    · rw [if_pos h2]; exact ⟨by simp; omega, by simp, rfl⟩
    · rw [if_neg h2]; exact ⟨by simp, by simp; omega, rfl⟩
theorem copy_bound (s : Nt) (x : Int) : (s.copy x).1.last ≤ s.last + 1 ∧ (s.copy x).1.lost ≤ s.lost + 1 ∧ (s.copy x).1.room = s.room := by
  unfold Nt.copy
  cases s.find x with
  | none => exact ⟨by simp; omega, by simp; omega, rfl⟩
  | some q => exact send_bound s _ _ _
theorem turn_bound (s : Nt) (x a b : Int) : (s.turnR x a b).1.last = s.last ∧ (s.turnR x a b).1.lost = s.lost ∧ (s.turnR x a b).1.room = s.room := by
  unfold Nt.turnR
  cases s.find x with
  | none => exact ⟨rfl, rfl, rfl⟩
  | some q =>
    by_cases h : 0 ≤ a ∧ a < q.txt.size
    · simp [h, Nt.turn]
    · simp [h]

/-- Both nets, in blocks of their own, in none of X. -/
def Two (X : Nat → Prop) (w : World) (p q : Nat) (s t : Nt) : Prop :=
  ∃ F G, NetAt w p s F ∧ RNetAt w q t G ∧ (∀ k, F k → ¬ G k) ∧ (∀ k, F k → ¬ X k) ∧ ∀ k, G k → ¬ X k
theorem RNetAt.lt {w : World} {p : Nat} {s : Nt} {F : Nat → Prop} (h : RNetAt w p s F) : ∀ k, F k → k < w.heap.size := h.elim fun _ h => h.lt
theorem RNetAt.fresh {w w' : World} {p : Nat} {s : Nt} {F : Nat → Prop} (h : RNetAt w p s F) (hk : Below w.heap.size w w') : RNetAt w' p s F := h.keep (Keeps.of_fresh hk fun _ => False) (fun _ _ => id)
theorem RNetAt.mono {w : World} {p : Nat} {s : Nt} {F F' : Nat → Prop} (h : RNetAt w p s F) (hF : ∀ k, F k → F' k) (hl : ∀ k, F' k → k < w.heap.size) : RNetAt w p s F' := by
  obtain ⟨v, h⟩ := h
  exact ⟨v, h.blk, h.row, hF _ h.fp, fun b hb => hF _ (h.fv b hb), hl, h.ok⟩
theorem RNetAt.fp {w : World} {p : Nat} {s : Nt} {F : Nat → Prop} (h : RNetAt w p s F) : F p := h.elim fun _ h => h.fp

section
variable {X X' : Nat → Prop} {w w' : World} {p q : Nat} {s t s' : Nt} {F G : Nat → Prop}
theorem Two.fresh (h : Two X w p q s t) (hk : Below w.heap.size w w') : Two X w' p q s t := by
  obtain ⟨F, G, h1, h2, h3⟩ := h
  exact ⟨F, G, h1.fresh hk, h2.fresh hk, h3⟩
theorem Two.ok (h : Two X w p q s t) : s.Ok := by obtain ⟨F, G, h1, _⟩ := h; exact h1.ok
theorem Two.more (h : Two X w p q s t) (hm : ∀ k, X' k → X k ∨ w.heap.size ≤ k) : Two X' w p q s t := by
  obtain ⟨F, G, h1, h2, h3, h4, h5⟩ := h
  refine ⟨F, G, h1, h2, h3, fun k hF hx => ?_, fun k hF hx => ?_⟩
  · rcases hm k hx with e | e
    · exact h4 k hF e
    · have := h1.lt k hF; omega
  · rcases hm k hx with e | e
    · exact h5 k hF e
    · have := h2.lt k hF; omega
theorem Two.left (hX : ∀ k, X k → k < w.heap.size) (h2 : RNetAt w q t G) (h3 : ∀ k, F k → ¬ G k) (h4 : ∀ k, F k → ¬ X k) (h5 : ∀ k, G k → ¬ X k) (hk : Keeps F w w') (h' : NetAt w' p s' (fun k => F k ∨ (w.heap.size ≤ k ∧ k < w'.heap.size))) :
    Two X w' p q s' t ∧ Keeps (fun k => ¬ X k) w w' := by
  refine ⟨⟨_, G, h', h2.keep hk (fun k hG hF => h3 k hF hG), fun k hk' hG => ?_, fun k hk' hx => ?_, h5⟩, keeps_not h4 hk⟩
  · rcases hk' with e | e
    · exact h3 k e hG
    · have := h2.lt k hG; omega
  · rcases hk' with e | e
    · exact h4 k e hx
    · have := hX k hx; omega
theorem Two.right (hX : ∀ k, X k → k < w.heap.size) (h1 : NetAt w p s F) (h3 : ∀ k, F k → ¬ G k) (h4 : ∀ k, F k → ¬ X k) (h5 : ∀ k, G k → ¬ X k) (hk : Keeps G w w') (h' : RNetAt w' q s' (fun k => G k ∨ (w.heap.size ≤ k ∧ k < w'.heap.size))) :
    Two X w' p q s s' ∧ Keeps (fun k => ¬ X k) w w' := by
  refine ⟨⟨F, _, h1.keep hk h3, h', fun k hF hk' => ?_, h4, fun k hk' hx => ?_⟩, keeps_not h5 hk⟩
  · rcases hk' with e | e
    · exact h3 k hF e
    · have := h1.lt k hF; omega
  · rcases hk' with e | e
    · exact h5 k e hx
    · have := hX k hx; omega
theorem grown_in {w : World} (h : NetAt w' p s F) : NetAt w' p s (fun k => F k ∨ (w.heap.size ≤ k ∧ k < w'.heap.size)) := h.mono (fun k hk => .inl hk) (fun k hk => by rcases hk with e | e; exact h.lt k e; exact e.2)
theorem rgrown_in {w : World} (h : RNetAt w' p s F) : RNetAt w' p s (fun k => F k ∨ (w.heap.size ≤ k ∧ k < w'.heap.size)) := h.mono (fun k hk => .inl hk) (fun k hk => by rcases hk with e | e; exact h.lt k e; exact e.2)
end

section
variable (w : World) (X : Nat → Prop) (hX : ∀ k, X k → k < w.heap.size) (p q : Nat) (s t : Nt) (h : Two X w p q s t)
include hX h
theorem nSend (f g : Int) (x : ByteArray) (hx : x.size ≤ maxLen) (hb1 : s.last ≤ 1000000000000) (hb2 : s.lost ≤ 1000000000000) :
    Calls Try.prog 9 #[.pointer (some ⟨p, 0, none⟩), .int .i64 f, .int .i64 g, .string x] w fun e w' => e = .returned (.tuple #[.int .i64 (s.send f g x).2.1, .int .i64 (s.send f g x).2.2]) ∧ Two X w' p q (s.send f g x).1 t ∧ Keeps (fun k => ¬ X k) w w' := by
  obtain ⟨F, G, h1, h2, h3, h4, h5⟩ := h
  exact (send_any w p s F h1 f g x hx hb1 hb2).mono fun _ _ ⟨he, hk, hN⟩ => ⟨he, Two.left hX h2 h3 h4 h5 hk hN⟩
theorem rSend (f g : Int) (x : ByteArray) (hx : x.size ≤ maxLen) (hb1 : t.last ≤ 1000000000000) (hb2 : t.lost ≤ 1000000000000) (hok : (t.send f g x).1.Ok) :
    Calls Try.prog 19 #[.pointer (some ⟨q, 0, none⟩), .int .i64 f, .int .i64 g, .string x] w fun e w' => e = .returned (.tuple #[.int .i64 (t.send f g x).2.1, .int .i64 (t.send f g x).2.2]) ∧ Two X w' p q s (t.send f g x).1 ∧ Keeps (fun k => ¬ X k) w w' := by
  obtain ⟨F, G, h1, h2, h3, h4, h5⟩ := h
  exact (rsend_any w q t G h2 f g x hx hb1 hb2 hok).mono fun _ _ ⟨he, hk, hN⟩ => ⟨he, Two.right hX h1 h3 h4 h5 (hk.mono fun _ _ e => e ▸ h2.fp) hN⟩
theorem nTake (x : Int) (hx : i64 x) :
    Calls Try.prog 12 #[.pointer (some ⟨p, 0, none⟩), .int .i64 x] w fun e w' => e = .returned (.tuple #[.agg #[.int .i64 (s.takeR x).1.no, .int .i64 (s.takeR x).1.frm, .int .i64 (s.takeR x).1.to, .string (s.takeR x).1.txt], .bool (s.takeR x).2]) ∧ Two X w' p q (s.del x) t ∧ Keeps (fun k => ¬ X k) w w' := by
  obtain ⟨F, G, h1, h2, h3, h4, h5⟩ := h
  unfold Nt.takeR
  cases hf : s.find x with
  | none =>
    rw [del_none (find_none hf)]
    exact (take_no w p s F h1 x hx (find_none hf)).mono fun _ _ ⟨he, hb⟩ => ⟨he, Two.left hX h2 h3 h4 h5 (Keeps.of_fresh hb F) (grown_in (h1.fresh hb))⟩
  | some y => exact (take_yes w p s F h1 y (find_some hf).1 x hx (find_some hf).2).mono fun _ _ ⟨he, hk, hN⟩ => ⟨he, Two.left hX h2 h3 h4 h5 hk (grown_in hN)⟩
theorem rTake (x : Int) :
    Calls Try.prog 20 #[.pointer (some ⟨q, 0, none⟩), .int .i64 x] w fun e w' => e = .returned (.tuple #[.agg #[.int .i64 (t.takeR x).1.no, .int .i64 (t.takeR x).1.frm, .int .i64 (t.takeR x).1.to, .string (t.takeR x).1.txt], .bool (t.takeR x).2]) ∧ Two X w' p q s (t.del x) ∧ Keeps (fun k => ¬ X k) w w' := by
  obtain ⟨F, G, h1, h2, h3, h4, h5⟩ := h
  unfold Nt.takeR
  cases hf : t.find x with
  | none =>
    rw [del_none (find_none hf)]
    exact (rtake_no w q t G h2 x (find_none hf)).mono fun _ _ ⟨he, hb⟩ => ⟨he, Two.right hX h1 h3 h4 h5 (Keeps.of_fresh hb G) (rgrown_in (h2.fresh hb))⟩
  | some y =>
    obtain ⟨k, hk, rfl⟩ := List.getElem_of_mem (find_some hf).1
    exact (rtake_yes w q t G h2 x k hk (find_some hf).2).mono fun _ _ ⟨he, hk, hN⟩ => ⟨he, Two.right hX h1 h3 h4 h5 (hk.mono fun _ _ e => e ▸ h2.fp) hN⟩
theorem nCopy (x : Int) (hx : i64 x) (hb1 : s.last ≤ 1000000000000) (hb2 : s.lost ≤ 1000000000000) :
    Calls Try.prog 11 #[.pointer (some ⟨p, 0, none⟩), .int .i64 x] w fun e w' => e = .returned (.tuple #[.int .i64 (s.copy x).2.1, .int .i64 (s.copy x).2.2]) ∧ Two X w' p q (s.copy x).1 t ∧ Keeps (fun k => ¬ X k) w w' := by
  obtain ⟨F, G, h1, h2, h3, h4, h5⟩ := h
  unfold Nt.copy
  cases hf : s.find x with
  | none => exact (copy_no w p s F h1 x hx (find_none hf)).mono fun _ _ ⟨he, hw⟩ => by subst hw; exact ⟨he, Two.left hX h2 h3 h4 h5 (Keeps.refl F w) (grown_in h1)⟩
  | some y => exact (copy_yes w p s F h1 y (find_some hf).1 x hx (find_some hf).2 hb1 hb2).mono fun _ _ ⟨he, hk, hN⟩ => ⟨he, Two.left hX h2 h3 h4 h5 hk hN⟩
theorem rCopy (x : Int) (hb1 : t.last ≤ 1000000000000) (hb2 : t.lost ≤ 1000000000000) (hok : (t.copy x).1.Ok) :
    Calls Try.prog 22 #[.pointer (some ⟨q, 0, none⟩), .int .i64 x] w fun e w' => e = .returned (.tuple #[.int .i64 (t.copy x).2.1, .int .i64 (t.copy x).2.2]) ∧ Two X w' p q s (t.copy x).1 ∧ Keeps (fun k => ¬ X k) w w' := by
  obtain ⟨F, G, h1, h2, h3, h4, h5⟩ := h
  unfold Nt.copy at hok ⊢
  cases hf : t.find x with
  | none => exact (rcopy_no w q t G h2 x (find_none hf)).mono fun _ _ ⟨he, hw⟩ => by subst hw; exact ⟨he, Two.right hX h1 h3 h4 h5 (Keeps.refl G w) (rgrown_in h2)⟩
  | some y =>
    rw [hf] at hok
    obtain ⟨k, hk, rfl⟩ := List.getElem_of_mem (find_some hf).1
    exact (rcopy_yes w q t G h2 x k hk (find_some hf).2 hb1 hb2 hok).mono fun _ _ ⟨he, hk, hN⟩ => ⟨he, Two.right hX h1 h3 h4 h5 (hk.mono fun _ _ e => e ▸ h2.fp) hN⟩
theorem nTurn (x : Int) (hx : i64 x) (a b : Int) (hb : 0 ≤ b ∧ b ≤ 255) :
    Calls Try.prog 10 #[.pointer (some ⟨p, 0, none⟩), .int .i64 x, .int .i64 a, .int .u8 b] w fun e w' => e = .returned (.bool (s.turnR x a b).2) ∧ Two X w' p q (s.turnR x a b).1 t ∧ Keeps (fun k => ¬ X k) w w' := by
  obtain ⟨F, G, h1, h2, h3, h4, h5⟩ := h
  unfold Nt.turnR
  cases hf : s.find x with
  | none => exact (turn_no w p s F h1 x hx (find_none hf) a b).mono fun _ _ ⟨he, hw⟩ => by subst hw; exact ⟨he, Two.left hX h2 h3 h4 h5 (Keeps.refl F w) (grown_in h1)⟩
  | some y =>
    by_cases hin : 0 ≤ a ∧ a < y.txt.size
    · obtain ⟨k, rfl⟩ := Int.eq_ofNat_of_zero_le hin.1
      simp only [if_pos hin, Int.toNat_natCast]
      exact (turn_in w p s F h1 y (find_some hf).1 x hx (find_some hf).2 k b (by omega) hb).mono fun _ _ ⟨he, hk, hN⟩ => ⟨he, Two.left hX h2 h3 h4 h5 hk (grown_in hN)⟩
    · simp only [if_neg hin]
      exact (turn_out w p s F h1 y (find_some hf).1 x hx (find_some hf).2 a b (by omega)).mono fun _ _ ⟨he, hw⟩ => by subst hw; exact ⟨he, Two.left hX h2 h3 h4 h5 (Keeps.refl F w) (grown_in h1)⟩
theorem rTurn (x : Int) (a b : Int) (hb : 0 ≤ b ∧ b ≤ 255) :
    Calls Try.prog 23 #[.pointer (some ⟨q, 0, none⟩), .int .i64 x, .int .i64 a, .int .u8 b] w fun e w' => e = .returned (.bool (t.turnR x a b).2) ∧ Two X w' p q s (t.turnR x a b).1 ∧ Keeps (fun k => ¬ X k) w w' := by
  obtain ⟨F, G, h1, h2, h3, h4, h5⟩ := h
  unfold Nt.turnR
  cases hf : t.find x with
  | none => exact (rturn_no w q t G h2 x (find_none hf) a b).mono fun _ _ ⟨he, hw⟩ => by subst hw; exact ⟨he, Two.right hX h1 h3 h4 h5 (Keeps.refl G w) (rgrown_in h2)⟩
  | some y =>
    obtain ⟨i, hi, rfl⟩ := List.getElem_of_mem (find_some hf).1
    by_cases hin : 0 ≤ a ∧ a < t.L[i].txt.size
    · obtain ⟨k, rfl⟩ := Int.eq_ofNat_of_zero_le hin.1
      simp only [if_pos hin, Int.toNat_natCast]
      exact (rturn_in w q t G h2 x i hi (find_some hf).2 k b (by omega) hb).mono fun _ _ ⟨he, hk, hN⟩ => ⟨he, Two.right hX h1 h3 h4 h5 hk (rgrown_in hN)⟩
    · simp only [if_neg hin]
      exact (rturn_out w q t G h2 x i hi (find_some hf).2 a b (by omega)).mono fun _ _ ⟨he, hw⟩ => by subst hw; exact ⟨he, Two.right hX h1 h3 h4 h5 (Keeps.refl G w) (rgrown_in h2)⟩
omit hX in
theorem nAll (hb1 : s.last ≤ 1000000000000) : Calls Try.prog 15 #[.pointer (some ⟨p, 0, none⟩)] w fun e w' => ∃ v, e = .returned v ∧ Below w.heap.size w w' ∧ Sl w' (fun b => w.heap.size ≤ b) 4 pkc v s.L := by
  obtain ⟨F, G, h1, _⟩ := h
  exact all_any w p s F h1 hb1
omit hX in
theorem nLen : Calls Try.prog 14 #[.pointer (some ⟨p, 0, none⟩)] w fun e w' => e = .returned (.int .i64 s.L.length) ∧ w = w' := by
  obtain ⟨F, G, h1, _⟩ := h
  exact len_any w p s F h1
omit hX in
theorem nLost : Calls Try.prog 17 #[.pointer (some ⟨p, 0, none⟩)] w fun e w' => e = .returned (.int .i64 s.lost) ∧ w = w' := by
  obtain ⟨F, G, h1, _⟩ := h
  exact lost_any w p s F h1
omit hX in
/-- What is read of the document's net. -/
theorem Two.ref : ∃ A c, w.cell? ⟨q, 0, none⟩ = some (.slice A t.L.length c) ∧ w.cell? ⟨q, 3, none⟩ = some (.int .i64 t.lost) ∧ t.L.length ≤ c ∧ c ≤ maxLen ∧ Sl w (fun b => ¬ X b) 4 pkc (.slice A t.L.length c) t.L ∧ q < w.heap.size := by
  obtain ⟨F, G, h1, ⟨v, h2⟩, _, _, h5⟩ := h
  obtain ⟨A, c, rfl, c1, c2⟩ := h2.row.shape_ rfl
  exact ⟨A, c, h2.c0, h2.c3, c1, c2, (h2.row.sl elRPk.len).mono (fun k _ hv => h5 k (h2.fv k hv)), h2.lt q h2.fp⟩
end

set_option maxHeartbeats 400000 in
theorem same_self (w : World) (x : Pk) : Calls Try.prog 21 #[.agg #[.int .i64 x.no, .int .i64 x.frm, .int .i64 x.to, .string x.txt], .agg #[.int .i64 x.no, .int .i64 x.frm, .int .i64 x.to, .string x.txt]] w fun e w' => e = .returned (.bool true) ∧ Below w.heap.size w w' := by
  go_enter Try.func21, Try.ntmps21
  go_wp2_with fail
  go_ret
  exact ⟨rfl, ((Below.refl _ w).alloc (Nat.le_refl _) _).alloc (by simp) _⟩
end Go.Proofs.Ytnooggfecgidcaa
