/- DedupPlays: what the statement's function does: it answers true. -/
import Derived.Test.YtdmpedcdnfjapaaDedT
import Derived.Test.YtdmpedcdnfjapaaDedO
namespace Go.Proofs.Ytdmpedcdnfjapaa
open Go.RowKit Go.Bl
attribute [local go_sem ↓] Go.wp_at_zero Go.wp_at_succ

/-- What 'o, is := ..Look(..)' leaves. -/
def SawCut (w : World) (ra rb rc rd rs : Int) (s1 s2 : Value) (wx : World) : Prop :=
  ∃ g, s1 = .pointer (some ⟨g, 0, none⟩) ∧ s2 = .int .i64 rs ∧ w.heap.size ≤ g ∧ wx.heap[g]? = some (.cells #[.int .i64 ra, .int .i64 rb, .int .i64 rc, .int .i64 rd] 27 (0, 0)) ∧ Below w.heap.size w wx
theorem SawCut.new {w w2 : World} {ra rb rc rd rs : Int} (hB : Below w.heap.size w w2) :
    SawCut w ra rb rc rd rs (.pointer (some ⟨w2.heap.size, 0, none⟩)) (.int .i64 rs) (w2.alloc (.cells #[.int .i64 ra, .int .i64 rb, .int .i64 rc, .int .i64 rd] 27)) :=
  ⟨_, rfl, rfl, hB.size, heap_alloc_new w2 _, hB.alloc hB.size _⟩
theorem SawCut.old {w w2 : World} {ra rb rc rd rs : Int} {a b c d : Value} (hB : Below w.heap.size w w2) (hblk : w2.heap[w.heap.size]? = some (.cells #[a, b, c, d] 27 (0, 0))) :
    SawCut w ra rb rc rd rs (.pointer (some ⟨w.heap.size, 0, none⟩)) (.int .i64 rs) ((((w2.setCell ⟨w.heap.size, 0, none⟩ (.int .i64 ra)).setCell ⟨w.heap.size, 1, none⟩ (.int .i64 rb)).setCell ⟨w.heap.size, 2, none⟩ (.int .i64 rc)).setCell ⟨w.heap.size, 3, none⟩ (.int .i64 rd)) := by
  have hks : Keeps (fun q => q = w.heap.size) w2 _ := ((((Keeps.refl (fun q => q = w.heap.size) w2).setCell (p := ⟨w.heap.size, 0, none⟩) (fun _ => rfl) (.int .i64 ra)).setCell (p := ⟨w.heap.size, 1, none⟩) (fun _ => rfl) (.int .i64 rb)).setCell (p := ⟨w.heap.size, 2, none⟩) (fun _ => rfl) (.int .i64 rc)).setCell (p := ⟨w.heap.size, 3, none⟩) (fun _ => rfl) (.int .i64 rd)
  exact ⟨_, rfl, rfl, Nat.le_refl _, setCell_block' (o := 3) (setCell_block' (o := 2) (setCell_block' (o := 1) (setCell_block' (o := 0) hblk _) _) _) _, hB.trans (hks.below hB.size (fun q hq => by omega))⟩

/-- Blocks p and m: a table, and the document's; both keep away from X. -/
def Pair (X : Nat → Prop) (w : World) (p m : Nat) (L : List En) : Prop := ∃ F, RefAt w m L F ∧ (∀ k, F k → ¬ X k) ∧ Tab (fun k => X k ∨ F k) w p L
section
variable {X : Nat → Prop} {w w' : World} {p m : Nat} {L : List En}
theorem Pair.fresh (h : Pair X w p m L) (hk : Below w.heap.size w w') : Pair X w' p m L := by
  obtain ⟨F, h1, h2, h3⟩ := h
  exact ⟨F, h1.fresh hk, h2, h3.fresh hk⟩
theorem RefAt.flt {F : Nat → Prop} (h : RefAt w m L F) : ∀ k, F k → k < w.heap.size := by
  obtain ⟨v, h⟩ := h
  exact h.lt
theorem RefAt.fp {F : Nat → Prop} (h : RefAt w m L F) : F m := by
  obtain ⟨v, h⟩ := h
  exact RefIn.fp h
end
theorem sawP (w : World) (X : Nat → Prop) (p m : Nat) (L : List En) (h : Pair X w p m L) (x y : Int) (hx : i64 x) (hy : i64 y) {ra rb rc rd rs : Int} (hr : lookL L x y = (⟨ra, rb, rc, rd⟩, rs)) :
    ∀ wx, Below w.heap.size w wx → Calls Try.prog 10 #[.pointer (some ⟨p, 0, none⟩), .int .i64 x, .int .i64 y] wx fun e w' => e = .returned (.tuple #[.agg #[.int .i64 ra, .int .i64 rb, .int .i64 rc, .int .i64 rd], .int .i64 rs]) ∧ Below wx.heap.size wx w' := fun wx hk => by
  obtain ⟨F, h1, h2, h3⟩ := h
  have := lookT wx _ p L (h3.fresh hk) x y hx hy
  rw [hr] at this
  exact this.mono fun _ _ ⟨a, _, b⟩ => ⟨a, b⟩
theorem sawM (w : World) (X : Nat → Prop) (p m : Nat) (L : List En) (h : Pair X w p m L) (x y : Int) {ra rb rc rd rs : Int} (hr : lookL L x y = (⟨ra, rb, rc, rd⟩, rs)) :
    ∀ wx, Below w.heap.size w wx → Calls Try.prog 17 #[.pointer (some ⟨m, 0, none⟩), .int .i64 x, .int .i64 y] wx fun e w' => e = .returned (.tuple #[.agg #[.int .i64 ra, .int .i64 rb, .int .i64 rc, .int .i64 rd], .int .i64 rs]) ∧ Below wx.heap.size wx w' := fun wx hk => by
  obtain ⟨F, h1, h2, h3⟩ := h
  have := rlook_any wx m L F (h1.fresh hk) x y
  rw [hr] at this
  exact this
theorem putP (w : World) (X : Nat → Prop) (hX : ∀ k, X k → k < w.heap.size) (p m : Nat) (L : List En) (F : Nat → Prop) (hR : RefAt w m L F) (hT : Tab (fun k => X k ∨ F k) w p L) (x y : Int) (hx : i64 x) (hy : i64 y) (o : Oc) (hL : L.length ≤ 1000000) :
    Calls Try.prog 11 #[.pointer (some ⟨p, 0, none⟩), .int .i64 x, .int .i64 y, .agg #[.int .i64 o.code, .int .i64 o.pos, .int .i64 o.first, .int .i64 o.ver]] w fun e w' => e = .returned (.int .i64 (putL L x y o).2) ∧
      RefAt w' m L F ∧ Tab (fun k => X k ∨ F k) w' p (putL L x y o).1 ∧ Keeps (fun k => ¬ X k) w w' :=
  (putT w (fun k => X k ∨ F k) (fun k hk => hk.elim (hX k) (hR.flt k)) p L hT x y hx hy o hL).mono fun _ _ ⟨he, hT', hK⟩ => ⟨he, hR.keep hK (fun _ hk hn => hn (.inr hk)), hT', hK.mono fun _ _ hn hx => hn (.inl hx)⟩
theorem putM (w : World) (X : Nat → Prop) (hX : ∀ k, X k → k < w.heap.size) (p m : Nat) (L L' : List En) (F : Nat → Prop) (hF : ∀ k, F k → ¬ X k) (hR : RefAt w m L F) (hT : Tab (fun k => X k ∨ F k) w p L') (x y : Int) (hx : i64 x) (hy : i64 y) (o : Oc) (hL : L.length ≤ 1000000) :
    Calls Try.prog 16 #[.pointer (some ⟨m, 0, none⟩), .int .i64 x, .int .i64 y, .agg #[.int .i64 o.code, .int .i64 o.pos, .int .i64 o.first, .int .i64 o.ver]] w fun e w' => e = .returned (.int .i64 (putL L x y o).2) ∧
      (L' = (putL L x y o).1 → Pair X w' p m (putL L x y o).1) ∧ Keeps (fun k => ¬ X k) w w' :=
  (rput_any w m L F hR hL x y hx hy o).mono fun _ w' ⟨he, hK, hR'⟩ => ⟨he, fun e => by
    refine ⟨_, hR', fun k hk hx => ?_, ?_⟩
    · rcases hk with hk | hk
      · exact hF k hk hx
      · have := hX k hx; omega
    · rw [← e]
      have h1 := hT.more (X' := fun k => (X k ∨ F k) ∨ w.heap.size ≤ k) (fun k hk => hk)
      have h2 := h1.keep (w' := w') (hK.mono fun k _ e => by rw [e]; exact .inl (.inr hR.fp))
      exact h2.more fun k hk => by
        rcases hk with hk | hk | hk
        · exact .inl (.inl (.inl hk))
        · exact .inl (.inl (.inr hk))
        · exact .inl (.inr hk.1), hK.mono fun _ _ e hx => by rw [e] at hx; exact hF m hR.fp hx⟩
section
variable (w : World) (X : Nat → Prop) (p m : Nat) (L : List En) (h : Pair X w p m L) (hL : L.length ≤ 1000000)
include h hL
theorem sessP : ∀ wx, Below w.heap.size w wx → Calls Try.prog 14 #[.pointer (some ⟨p, 0, none⟩)] wx fun e w' => ∃ v ks, e = .returned v ∧ ks.Pairwise (· < ·) ∧ (∀ x, x ∈ ks ↔ ∃ e ∈ L, e.ses = x) ∧ Sl w' (fun q => wx.heap.size ≤ q) 1 intc v ks ∧ Below wx.heap.size wx w' := fun wx hk => by
  obtain ⟨F, h1, h2, h3⟩ := h
  exact (sessT wx _ p L (h3.fresh hk) (by omega)).mono fun _ _ ⟨v, ks, a, b, c, _, d, _, e⟩ => ⟨v, ks, a, b, c, d, e⟩
theorem sessM : ∀ wx, Below w.heap.size w wx → Calls Try.prog 18 #[.pointer (some ⟨m, 0, none⟩)] wx fun e w' => ∃ v ks, e = .returned v ∧ ks.Pairwise (· < ·) ∧ (∀ x, x ∈ ks ↔ ∃ e ∈ L, e.ses = x) ∧ Sl w' (fun q => wx.heap.size ≤ q) 1 intc v ks ∧ Below wx.heap.size wx w' := fun wx hk => by
  obtain ⟨F, h1, h2, h3⟩ := h
  exact (rsess_any wx m L F (h1.fresh hk) hL).mono fun _ _ ⟨v, ks, a, b, c, d, e⟩ => ⟨v, ks, a, b, c, (d.sl elInt.len).mono fun q _ hq => (d.lt q hq).1, e⟩
theorem seqsP (x : Int) (hx : i64 x) : ∀ wx, Below w.heap.size w wx → Calls Try.prog 12 #[.pointer (some ⟨p, 0, none⟩), .int .i64 x] wx fun e w' => ∃ v ks, e = .returned v ∧ ks.Pairwise (· < ·) ∧ (∀ y, y ∈ ks ↔ (lookL L x y).2 = 1) ∧ Sl w' (fun q => wx.heap.size ≤ q) 1 intc v ks ∧ Below wx.heap.size wx w' := fun wx hk => by
  obtain ⟨F, h1, h2, h3⟩ := h
  exact (seqsT wx _ p L (h3.fresh hk) (by omega) x hx).mono fun _ _ ⟨v, ks, a, b, c, _, d, _, e⟩ => ⟨v, ks, a, b, c, d, e⟩
theorem seqsM (x : Int) : ∀ wx, Below w.heap.size w wx → Calls Try.prog 19 #[.pointer (some ⟨m, 0, none⟩), .int .i64 x] wx fun e w' => ∃ v ks, e = .returned v ∧ ks.Pairwise (· < ·) ∧ (∀ y, y ∈ ks ↔ (lookL L x y).2 = 1) ∧ Sl w' (fun q => wx.heap.size ≤ q) 1 intc v ks ∧ Below wx.heap.size wx w' := fun wx hk => by
  obtain ⟨F, h1, h2, h3⟩ := h
  exact (rseqs_any wx m L F (h1.fresh hk) hL x).mono fun _ _ ⟨v, ks, a, b, c, d, e⟩ => ⟨v, ks, a, b, c, (d.sl elInt.len).mono fun q _ hq => (d.lt q hq).1, e⟩
end
end Go.Proofs.Ytdmpedcdnfjapaa
