/- The document's state: what a block of it holds; New, Apply, Read. Under the stated premises on sizes. -/
import Derived.Test.YthdcnknjjbdefaaGreatDoorStaB
import Derived.Test.YthdcnknjjbdefaaGreatDoorRecR
import Derived.Test.YthdcnknjjbdefaaGreatDoorIdxR
import Derived.Test.YthdcnknjjbdefaaGreatDoorDedR
namespace Go.Proofs.YthdcnknjjbdefaaGreatDoor
open Go.RowKit Go.Bl
attribute [local go_sem ↓] Go.wp_at_zero Go.wp_at_succ

/-- Block m of w is the document's state s; it lies in the blocks F. -/
structure MtIn (w : World) (m : Nat) (s : St) (F : Nat → Prop) (x t : Nat) (FX FT : Nat → Prop) : Prop where
  blk : w.heap[m]? = some (.cells #[.pointer (some ⟨x, 0, none⟩), .pointer (some ⟨t, 0, none⟩), .int .i64 s.ap] 59 (0, 0))
  idx : Idx.RefAt w x s.L FX
  tab : Ded.RefAt w t s.T FT
  xt : ∀ k, FX k → ¬ FT k
  nx : ¬ FX m
  nt : ¬ FT m
  fx : ∀ k, FX k → F k
  ft : ∀ k, FT k → F k
  fm : F m
  lt : ∀ k, F k → k < w.heap.size
def MtAt (w : World) (m : Nat) (s : St) (F : Nat → Prop) : Prop := ∃ x t FX FT, MtIn w m s F x t FX FT
section
variable {w w' : World} {m x t : Nat} {s : St} {F G FX FT : Nat → Prop}
theorem MtIn.keep (h : MtIn w m s F x t FX FT) (hk : Keeps G w w') (hd : ∀ k, F k → ¬ G k) : MtIn w' m s F x t FX FT :=
  ⟨hk.grownTo h.blk (hd _ h.fm), h.idx.keep hk (fun _ hk => hd _ (h.fx _ hk)), h.tab.keep hk (fun _ hk => hd _ (h.ft _ hk)), h.xt, h.nx, h.nt, h.fx, h.ft, h.fm, fun k hF => Nat.lt_of_lt_of_le (h.lt k hF) hk.size⟩
theorem MtAt.keep (h : MtAt w m s F) (hk : Keeps G w w') (hd : ∀ k, F k → ¬ G k) : MtAt w' m s F := by
  obtain ⟨x, t, FX, FT, h⟩ := h
  exact ⟨x, t, FX, FT, h.keep hk hd⟩
theorem MtIn.fresh (h : MtIn w m s F x t FX FT) (hk : Below w.heap.size w w') : MtIn w' m s F x t FX FT := h.keep (Keeps.of_fresh hk fun _ => False) (fun _ _ => id)
theorem MtAt.fresh (h : MtAt w m s F) (hk : Below w.heap.size w w') : MtAt w' m s F := h.keep (Keeps.of_fresh hk fun _ => False) (fun _ _ => id)
theorem MtAt.lt (h : MtAt w m s F) : ∀ k, F k → k < w.heap.size := by
  obtain ⟨x, t, FX, FT, h⟩ := h
  exact h.lt
theorem MtIn.c0 (h : MtIn w m s F x t FX FT) : w.cell? ⟨m, 0, none⟩ = some (.pointer (some ⟨x, 0, none⟩)) := cell_of_row w m 0 _ _ _ h.blk
theorem MtIn.c1 (h : MtIn w m s F x t FX FT) : w.cell? ⟨m, 1, none⟩ = some (.pointer (some ⟨t, 0, none⟩)) := cell_of_row w m 1 _ _ _ h.blk
theorem MtIn.c2 (h : MtIn w m s F x t FX FT) : w.cell? ⟨m, 2, none⟩ = some (.int .i64 s.ap) := cell_of_row w m 2 _ _ _ h.blk
theorem MtIn.px (h : MtIn w m s F x t FX FT) : FX x := by obtain ⟨v, _, _, h, _⟩ := h.idx; exact h
theorem MtIn.pt (h : MtIn w m s F x t FX FT) : FT t := by obtain ⟨v, h⟩ := h.tab; exact h.fp
theorem MtIn.wide (h : MtIn w m s F x t FX FT) (b : Nat) : MtIn w m s (fun k => F k ∨ (b ≤ k ∧ k < w.heap.size)) x t FX FT :=
  ⟨h.blk, h.idx, h.tab, h.xt, h.nx, h.nt, fun k hk => .inl (h.fx k hk), fun k hk => .inl (h.ft k hk), .inl h.fm, fun k hk => by
    rcases hk with hk | hk
    · exact h.lt k hk
    · exact hk.2⟩
theorem MtIn.at_ {ap : Int} (h : MtIn w m s F x t FX FT) (hk : Keeps (fun k => k = m) w w') (hb : w'.heap[m]? = some (.cells #[.pointer (some ⟨x, 0, none⟩), .pointer (some ⟨t, 0, none⟩), .int .i64 ap] 59 (0, 0))) : MtIn w' m ⟨s.L, s.T, ap⟩ F x t FX FT :=
  ⟨hb, h.idx.keep hk (fun _ hk e => h.nx (e ▸ hk)), h.tab.keep hk (fun _ hk e => h.nt (e ▸ hk)), h.xt, h.nx, h.nt, h.fx, h.ft, h.fm, fun k hF => Nat.lt_of_lt_of_le (h.lt k hF) hk.size⟩
end
/-- What an entry leaves. -/
def MApplied (w w' : World) (m : Nat) (s' : St) (F : Nat → Prop) : Prop :=
  MtAt w' m s' (fun k => F k ∨ (w.heap.size ≤ k ∧ k < w'.heap.size)) ∧ Keeps F w w'
theorem MApplied.same {w w' : World} {m x t : Nat} {s : St} {F FX FT : Nat → Prop} (h : MtIn w' m s F x t FX FT) (hk : Keeps F w w') : MApplied w w' m s F :=
  ⟨⟨x, t, FX, FT, h.wide w.heap.size⟩, hk⟩
theorem MApplied.put {w w4 w5 w6 w7 w8 : World} {m x t g r : Nat} {s1 : St} {L' : List Idx.One} {T' : List Ded.En} {F FX FT : Nat → Prop}
    (h4 : MtIn w4 m s1 F x t FX FT) (hF : ∀ k, F k → k < w.heap.size) (K : Keeps F w w4) (hg : w.heap.size ≤ g) (hgc : g < w4.heap.size) (hr : w.heap.size ≤ r) (hrc : r < w4.heap.size)
    (k5 : Keeps (fun q => q = x) w4 w5) (x5 : Idx.RefAt w5 x L' (fun k => FX k ∨ (w4.heap.size ≤ k ∧ k < w5.heap.size))) (k6 : Keeps (fun k => k = g) w5 w6)
    (k7 : Keeps (fun q => q = t) w6 w7) (t7 : Ded.RefAt w7 t T' (fun k => FT k ∨ (w6.heap.size ≤ k ∧ k < w7.heap.size))) (k8 : Keeps (fun k => k = r) w7 w8) : MApplied w w8 m ⟨L', T', s1.ap⟩ F := by
  have z0 := K.size
  have z5 := k5.size
  have z6 := k6.size
  have z7 := k7.size
  have z8 := k8.size
  have lX : ∀ k, FX k → k < w.heap.size := fun k hk => hF k (h4.fx k hk)
  have lT : ∀ k, FT k → k < w.heap.size := fun k hk => hF k (h4.ft k hk)
  have lx := lX x h4.px
  have lt := lT t h4.pt
  have hm := hF m h4.fm
  refine ⟨⟨x, t, fun k => FX k ∨ (w4.heap.size ≤ k ∧ k < w5.heap.size), fun k => FT k ∨ (w6.heap.size ≤ k ∧ k < w7.heap.size), ?_, ?_, ?_, ?_, ?_, ?_, ?_, ?_, ?_, ?_⟩, ?_⟩
  · exact k8.grownTo (k7.grownTo (k6.grownTo (k5.grownTo h4.blk (fun e => h4.nx (e ▸ h4.px))) (by omega)) (fun e => h4.nt (e ▸ h4.pt))) (by omega)
  · refine ((x5.keep k6 ?_).keep k7 ?_).keep k8 ?_
    · rintro k (hk | hk) e
      · have := lX k hk; omega
      · omega
    · rintro k (hk | hk) e
      · exact h4.xt k hk (e ▸ h4.pt)
      · omega
    · rintro k (hk | hk) e
      · have := lX k hk; omega
      · omega
  · refine t7.keep k8 ?_
    rintro k (hk | hk) e
    · have := lT k hk; omega
    · omega
  · rintro k (hk | hk) (e | e)
    · exact h4.xt k hk e
    · have := lX k hk; omega
    · have := lT k e; omega
    · omega
  · rintro (e | e)
    · exact h4.nx e
    · omega
  · rintro (e | e)
    · exact h4.nt e
    · omega
  · rintro k (hk | hk)
    · exact .inl (h4.fx k hk)
    · exact .inr (by omega)
  · rintro k (hk | hk)
    · exact .inl (h4.ft k hk)
    · exact .inr (by omega)
  · exact .inl h4.fm
  · rintro k (hk | hk)
    · have := hF k hk; omega
    · exact hk.2
  · exact (((K.andThen k5 (fun i _ e => e ▸ h4.fx x h4.px)).andThen k6 (fun i hi e => by omega)).andThen k7 (fun i _ e => e ▸ h4.ft t h4.pt)).andThen k8 (fun i hi e => by omega)

set_option maxHeartbeats 1000000 in
theorem mnew_any (w : World) : Calls Tryz.prog 16 #[] w fun e w' => ∃ m, e = .returned (.pointer (some ⟨m, 0, none⟩)) ∧ MtAt w' m St.new (fun k => w.heap.size ≤ k ∧ k < w'.heap.size) ∧ Below w.heap.size w w' := by
  go_enter Tryz.func16, Tryz.ntmps16
  go_wp2_with fail
  go_ret
  have hB1 : Below w.heap.size w (w.alloc (.cells #[.slice none 0 0] 78)) := (Below.refl _ _).alloc (Nat.le_refl _) _
  have hb1 := heap_alloc_new w (.cells #[.slice none 0 0] 78)
  have hB2 : Below (w.heap.size + 1) (w.alloc (.cells #[.slice none 0 0] 78)) ((w.alloc (.cells #[.slice none 0 0] 78)).alloc (.cells #[.slice none 0 0] 81)) := by
    have := (Below.refl (w.alloc (.cells #[.slice none 0 0] 78)).heap.size (w.alloc (.cells #[.slice none 0 0] 78))).alloc (Nat.le_refl _) (.cells #[.slice none 0 0] 81)
    rwa [World.size_alloc] at this
  have hb2 := heap_alloc_new (w.alloc (.cells #[.slice none 0 0] 78)) (.cells #[.slice none 0 0] 81)
  rw [World.size_alloc] at hb2
  have hB3 : Below (w.heap.size + 2) ((w.alloc (.cells #[.slice none 0 0] 78)).alloc (.cells #[.slice none 0 0] 81)) (((w.alloc (.cells #[.slice none 0 0] 78)).alloc (.cells #[.slice none 0 0] 81)).alloc (.cells #[.pointer (some ⟨w.heap.size, 0, none⟩), .pointer (some ⟨w.heap.size + 1, 0, none⟩), .int .i64 0] 59)) := by
    have := (Below.refl ((w.alloc (.cells #[.slice none 0 0] 78)).alloc (.cells #[.slice none 0 0] 81)).heap.size ((w.alloc (.cells #[.slice none 0 0] 78)).alloc (.cells #[.slice none 0 0] 81))).alloc (Nat.le_refl _) (.cells #[.pointer (some ⟨w.heap.size, 0, none⟩), .pointer (some ⟨w.heap.size + 1, 0, none⟩), .int .i64 0] 59)
    rw [World.size_alloc, World.size_alloc] at this
    exact this
  have hb3 := heap_alloc_new ((w.alloc (.cells #[.slice none 0 0] 78)).alloc (.cells #[.slice none 0 0] 81)) (.cells #[.pointer (some ⟨w.heap.size, 0, none⟩), .pointer (some ⟨w.heap.size + 1, 0, none⟩), .int .i64 0] 59)
  rw [World.size_alloc, World.size_alloc] at hb3
  have hz3 : (((w.alloc (.cells #[.slice none 0 0] 78)).alloc (.cells #[.slice none 0 0] 81)).alloc (.cells #[.pointer (some ⟨w.heap.size, 0, none⟩), .pointer (some ⟨w.heap.size + 1, 0, none⟩), .int .i64 0] 59)).heap.size = w.heap.size + 3 := by simp
  have hbx := (hB3.block w.heap.size (by omega)).trans ((hB2.block w.heap.size (by omega)).trans hb1)
  have hbt := (hB3.block (w.heap.size + 1) (by omega)).trans hb2
  refine ⟨w.heap.size + 2, rfl, ⟨w.heap.size, w.heap.size + 1, fun k => k = w.heap.size, fun k => k = w.heap.size + 1, hb3, ⟨_, hbx, Sl.nil_ _ _ _ _, rfl, fun k e => by omega⟩, ⟨_, hbt, Own.nil_ _ _ _ _ _, rfl, fun b e => by simp [Value.ownBlock] at e, fun k e => by omega, ?_⟩, ?_, ?_, ?_, ?_, ?_, ?_, ?_⟩, ?_⟩
  · exact ⟨fun e he => absurd he (by simp [St.new]), fun e he => absurd he (by simp [St.new])⟩
  · intro k e1 e2; omega
  · intro e; omega
  · intro e; omega
  · intro k e; omega
  · intro k e; omega
  · omega
  · intro k e; exact e.2
  · exact (hB1.trans (hB2.mono (by omega))).trans (hB3.mono (by omega))
set_option maxRecDepth 10000 in
set_option maxHeartbeats 4000000 in
theorem mapply_any (w : World) (m : Nat) (s : St) (F : Nat → Prop) (h : MtAt w m s F) (G : Nat → Prop) (a : Ent) (hb : BatchSm w G a) (hG : ∀ b, G b → ¬ F b) (hap : 0 ≤ s.ap ∧ s.ap ≤ 1000000000000) (hL : s.L.length + a.evs.length ≤ 1000000) (hTl : s.T.length ≤ 1000000) :
    Calls Tryz.prog 17 #[.pointer (some ⟨m, 0, none⟩), .agg #[.int .i64 a.pos, .int .i64 a.epoch, .string a.stream, .int .i64 a.expect, .int .i64 a.session, .int .i64 a.seq, a.evv]] w fun e w' =>
      e = .returned (.tuple #[.agg #[.int .i64 (applyS s a).2.1.code, .int .i64 (applyS s a).2.1.pos, .int .i64 (applyS s a).2.1.first, .int .i64 (applyS s a).2.1.ver], .int .i64 (applyS s a).2.2]) ∧ MApplied w w' m (applyS s a).1 F := by
  obtain ⟨x, t, FX, FT, h⟩ := h
  obtain ⟨A, c, hv, hA1, hA2⟩ := hb.1.shape
  unfold maxLen at hA2
  rcases hr : applyS s a with ⟨s', ⟨r1, r2, r3, r4⟩, r5⟩
  have HR := Lib.hid hr
  clear hr
  have hB0 : Below w.heap.size w ((w.alloc (.cells #[.int .i64 a.pos, .int .i64 a.epoch, .string a.stream, .int .i64 a.expect, .int .i64 a.session, .int .i64 a.seq, .slice A a.evs.length c] 55)).alloc (.cells #[.int .i64 0, .int .i64 0, .int .i64 0, .int .i64 0] 34)) :=
    ((Below.refl _ w).alloc (Nat.le_refl _) _).alloc (by simp) _
  have hb1 := heap_alloc_new w (.cells #[.int .i64 a.pos, .int .i64 a.epoch, .string a.stream, .int .i64 a.expect, .int .i64 a.session, .int .i64 a.seq, .slice A a.evs.length c] 55)
  have hb1' := (Keeps.of_fresh ((Below.refl _ (w.alloc (.cells #[.int .i64 a.pos, .int .i64 a.epoch, .string a.stream, .int .i64 a.expect, .int .i64 a.session, .int .i64 a.seq, .slice A a.evs.length c] 55))).alloc (Nat.le_refl _) (.cells #[.int .i64 0, .int .i64 0, .int .i64 0, .int .i64 0] 34)) (fun _ => False)).grownTo hb1 id
  clear hb1
  have hb1 := hb1'
  clear hb1'
  have hz := heap_alloc_new (w.alloc (.cells #[.int .i64 a.pos, .int .i64 a.epoch, .string a.stream, .int .i64 a.expect, .int .i64 a.session, .int .i64 a.seq, .slice A a.evs.length c] 55)) (.cells #[.int .i64 0, .int .i64 0, .int .i64 0, .int .i64 0] 34)
  rw [World.size_alloc] at hz
  have H := Lib.hid h
  have HG := Lib.hid hG
  have HBt := Lib.hid hb
  have HV := Lib.hid hv
  have hright := fun (wz : World) (hz : Below w.heap.size w wz) => rright_any wz G a (hb.fresh hz)
  rw [hv] at hright ⊢
  have HRi := Lib.hid hright
  clear h hG hb hv hright
  go_enter Tryz.func17, Tryz.ntmps17
  go_upto_region 1 with (fail)
  generalize ((w.alloc (.cells #[.int .i64 a.pos, .int .i64 a.epoch, .string a.stream, .int .i64 a.expect, .int .i64 a.session, .int .i64 a.seq, .slice A a.evs.length c] 55)).alloc (.cells #[.int .i64 0, .int .i64 0, .int .i64 0, .int .i64 0] 34)) = w1 at hB0 hb1 hz ⊢
  have HB0 := Lib.hid hB0
  have y0 : w1.cell? ⟨w.heap.size, 0, none⟩ = some (.int .i64 a.pos) := cell_of_row w1 _ 0 _ _ _ hb1
  have y1 : w1.cell? ⟨w.heap.size, 1, none⟩ = some (.int .i64 a.epoch) := cell_of_row w1 _ 1 _ _ _ hb1
  have y2 : w1.cell? ⟨w.heap.size, 2, none⟩ = some (.string a.stream) := cell_of_row w1 _ 2 _ _ _ hb1
  have y3 : w1.cell? ⟨w.heap.size, 3, none⟩ = some (.int .i64 a.expect) := cell_of_row w1 _ 3 _ _ _ hb1
  have y4 : w1.cell? ⟨w.heap.size, 4, none⟩ = some (.int .i64 a.session) := cell_of_row w1 _ 4 _ _ _ hb1
  have y5 : w1.cell? ⟨w.heap.size, 5, none⟩ = some (.int .i64 a.seq) := cell_of_row w1 _ 5 _ _ _ hb1
  have y6 : w1.cell? ⟨w.heap.size, 6, none⟩ = some (.slice A a.evs.length c) := cell_of_row w1 _ 6 _ _ _ hb1
  have Hb1 := Lib.hid hb1
  have Hz := Lib.hid hz
  clear hB0 hb1 hz
  go_wp2_with fail
  refine (HRi.out w1 HB0.out).mono ?_
  rintro e w2 ⟨rfl, hB2⟩
  have hb1 := (Keeps.of_fresh hB2 (fun _ => False)).grownTo Hb1.out id
  have hz := (Keeps.of_fresh hB2 (fun _ => False)).grownTo Hz.out id
  have HB2 := Lib.hid (HB0.out.trans (hB2.mono HB0.out.size))
  clear hB2 y0 y1 y2 y3 y4 y5 y6 Hb1 Hz
  have hwlt : w.heap.size + 1 < w2.heap.size := (Array.getElem?_eq_some_iff.1 hz).1
  have H2 := Lib.hid (H.out.fresh HB2.out)
  have hFlt := Lib.hid H.out.lt
  have z0 : w2.cell? ⟨w.heap.size+1, 0, none⟩ = some (.int .i64 (0)) := cell_of_row w2 _ 0 _ _ _ hz
  have z1 : w2.cell? ⟨w.heap.size+1, 1, none⟩ = some (.int .i64 (0)) := cell_of_row w2 _ 1 _ _ _ hz
  have z2 : w2.cell? ⟨w.heap.size+1, 2, none⟩ = some (.int .i64 (0)) := cell_of_row w2 _ 2 _ _ _ hz
  have z3 : w2.cell? ⟨w.heap.size+1, 3, none⟩ = some (.int .i64 (0)) := cell_of_row w2 _ 3 _ _ _ hz
  have f0 : w2.frozen? ⟨w.heap.size+1, 0, none⟩ = false := frozen_block hz 0
  have f1 : w2.frozen? ⟨w.heap.size+1, 1, none⟩ = false := frozen_block hz 1
  have f2 : w2.frozen? ⟨w.heap.size+1, 2, none⟩ = false := frozen_block hz 2
  have f3 : w2.frozen? ⟨w.heap.size+1, 3, none⟩ = false := frozen_block hz 3
  cases hri : rightB a
  · have he : (s', (⟨r1, r2, r3, r4⟩ : Ded.Oc), r5) = (s, Ded.oc0, 1) := by
      rw [← HR.out]; unfold applyS; rw [if_pos hri]
    injection he with he1 he2
    injection he2 with he2 he3
    injection he2 with e1 e2 e3 e4
    subst he1 he3 e1 e2 e3 e4
    go_wp2_with fail
    have hk4 := setCell_block' (o := 3) (v := .int .i64 (0)) (setCell_block' (o := 2) (v := .int .i64 (0)) (setCell_block' (o := 1) (v := .int .i64 (0)) (setCell_block' (o := 0) (v := .int .i64 (0)) hz)))
    have hkS : Keeps (fun k => k = w.heap.size+1) w2 _ := (((Keeps.refl (fun k => k = w.heap.size+1) w2).setCell (p := ⟨w.heap.size+1, 0, none⟩) (fun _ => rfl) (.int .i64 (0))).setCell (p := ⟨w.heap.size+1, 1, none⟩) (fun _ => rfl) (.int .i64 (0))).setCell (p := ⟨w.heap.size+1, 2, none⟩) (fun _ => rfl) (.int .i64 (0))
    have hkS := hkS.setCell (p := ⟨w.heap.size+1, 3, none⟩) (fun _ => rfl) (.int .i64 (0))
    generalize (((w2.setCell ⟨w.heap.size+1, 0, none⟩ (.int .i64 (0))).setCell ⟨w.heap.size+1, 1, none⟩ (.int .i64 (0))).setCell ⟨w.heap.size+1, 2, none⟩ (.int .i64 (0))).setCell ⟨w.heap.size+1, 3, none⟩ (.int .i64 (0)) = w3 at hk4 hkS ⊢
    have q0 : w3.cell? ⟨w.heap.size+1, 0, none⟩ = some (.int .i64 (0)) := cell_of_row w3 _ 0 _ _ _ hk4
    have q1 : w3.cell? ⟨w.heap.size+1, 1, none⟩ = some (.int .i64 (0)) := cell_of_row w3 _ 1 _ _ _ hk4
    have q2 : w3.cell? ⟨w.heap.size+1, 2, none⟩ = some (.int .i64 (0)) := cell_of_row w3 _ 2 _ _ _ hk4
    have q3 : w3.cell? ⟨w.heap.size+1, 3, none⟩ = some (.int .i64 (0)) := cell_of_row w3 _ 3 _ _ _ hk4
    exact bodyPost_ret (v := .tuple #[.agg #[.int .i64 0, .int .i64 0, .int .i64 0, .int .i64 0], .int .i64 1]) (by simp [results, Tryz.results17, go_sem, q0, q1, q2, q3]) rfl ⟨rfl, MApplied.same (H2.out.keep hkS (fun k hk e => by have := hFlt.out k hk; omega)) ((Keeps.of_fresh HB2.out F).andThen hkS (fun i hi e => by omega))⟩
  have c2 := H2.out.c2
  have y0 : w2.cell? ⟨w.heap.size, 0, none⟩ = some (.int .i64 a.pos) := cell_of_row w2 _ 0 _ _ _ hb1
  by_cases hp : a.pos ≠ s.ap + 1
  · have d1 : (a.pos != s.ap + 1) = true := by simp [hp]
    have he : (s', (⟨r1, r2, r3, r4⟩ : Ded.Oc), r5) = (s, Ded.oc0, 11) := by
      rw [← HR.out]; unfold applyS; rw [if_neg (by rw [hri]; decide), if_pos hp]
    injection he with he1 he2
    injection he2 with he2 he3
    injection he2 with e1 e2 e3 e4
    subst he1 he3 e1 e2 e3 e4
    clear hp
    go_wp2_with fail
    go_quiet (fail)
    go_wp2_with fail
    have hz : (w2.drewN nq).heap[w.heap.size + 1]? = some (.cells #[.int .i64 0, .int .i64 0, .int .i64 0, .int .i64 0] 34 (0, 0)) := hz
    have hk4 := setCell_block' (o := 3) (v := .int .i64 (0)) (setCell_block' (o := 2) (v := .int .i64 (0)) (setCell_block' (o := 1) (v := .int .i64 (0)) (setCell_block' (o := 0) (v := .int .i64 (0)) hz)))
    have hkS : Keeps (fun k => k = w.heap.size+1) (w2.drewN nq) _ := (((Keeps.refl (fun k => k = w.heap.size+1) (w2.drewN nq)).setCell (p := ⟨w.heap.size+1, 0, none⟩) (fun _ => rfl) (.int .i64 (0))).setCell (p := ⟨w.heap.size+1, 1, none⟩) (fun _ => rfl) (.int .i64 (0))).setCell (p := ⟨w.heap.size+1, 2, none⟩) (fun _ => rfl) (.int .i64 (0))
    have hkS := hkS.setCell (p := ⟨w.heap.size+1, 3, none⟩) (fun _ => rfl) (.int .i64 (0))
    generalize ((((w2.drewN nq).setCell ⟨w.heap.size+1, 0, none⟩ (.int .i64 (0))).setCell ⟨w.heap.size+1, 1, none⟩ (.int .i64 (0))).setCell ⟨w.heap.size+1, 2, none⟩ (.int .i64 (0))).setCell ⟨w.heap.size+1, 3, none⟩ (.int .i64 (0)) = w3 at hk4 hkS ⊢
    have q0 : w3.cell? ⟨w.heap.size+1, 0, none⟩ = some (.int .i64 (0)) := cell_of_row w3 _ 0 _ _ _ hk4
    have q1 : w3.cell? ⟨w.heap.size+1, 1, none⟩ = some (.int .i64 (0)) := cell_of_row w3 _ 1 _ _ _ hk4
    have q2 : w3.cell? ⟨w.heap.size+1, 2, none⟩ = some (.int .i64 (0)) := cell_of_row w3 _ 2 _ _ _ hk4
    have q3 : w3.cell? ⟨w.heap.size+1, 3, none⟩ = some (.int .i64 (0)) := cell_of_row w3 _ 3 _ _ _ hk4
    exact bodyPost_ret (v := .tuple #[.agg #[.int .i64 0, .int .i64 0, .int .i64 0, .int .i64 0], .int .i64 11]) (by simp [results, Tryz.results17, go_sem, q0, q1, q2, q3]) rfl ⟨rfl, MApplied.same ((H2.out.fresh (show Below w2.heap.size w2 (w2.drewN nq) from ⟨rfl, rfl, rfl, Nat.le_refl _, fun _ _ => rfl⟩)).keep hkS (fun k hk e => by have := hFlt.out k hk; omega)) ((Keeps.drewN (Keeps.of_fresh HB2.out F) nq).andThen hkS (fun i hi e => by omega))⟩
  have hp : a.pos = s.ap + 1 := Decidable.byContradiction hp
  have d1 : (a.pos != s.ap + 1) = false := by simp [hp]
  have HP := Lib.hid hp
  clear hp
  go_wp2_with fail
  go_quiet (fail)
  have fp2 : (w2.drewN nq).frozen? ⟨m, 2, none⟩ = false := frozen_block (w := w2) H2.out.blk 2
  go_upto_region 7 with (fail)
  have hpl : m < w.heap.size := hFlt.out _ H.out.fm
  have hk3 : Keeps (fun k => k = m) w2 _ := ((Keeps.refl (fun k => k = m) w2).drewN nq).setCell (p := ⟨m, 2, none⟩) (fun _ => rfl) (.int .i64 a.pos)
  have hb3 := setCell_block' (o := 2) (v := .int .i64 a.pos) (show (w2.drewN nq).heap[m]? = _ from H2.out.blk)
  generalize (w2.drewN nq).setCell ⟨m, 2, none⟩ (.int .i64 a.pos) = w3 at hk3 hb3 ⊢
  have H3 := Lib.hid (H2.out.at_ (ap := a.pos) hk3 hb3)
  have hb1 := hk3.grownTo hb1 (by omega)
  have hz := hk3.grownTo hz (by omega)
  have HK3 := Lib.hid ((Keeps.of_fresh HB2.out F).andThen hk3 (fun i hi e => e ▸ H.out.fm))
  have hw3 : w.heap.size + 1 < w3.heap.size := Nat.lt_of_lt_of_le hwlt hk3.size
  clear z0 z1 z2 z3 f0 f1 f2 f3 c2 y0 hk3 hb3 fp2 d1 hwlt
  have y1 : w3.cell? ⟨w.heap.size, 2, none⟩ = some (.string a.stream) := cell_of_row w3 _ 2 _ _ _ hb1
  have y2 : w3.cell? ⟨w.heap.size, 3, none⟩ = some (.int .i64 a.expect) := cell_of_row w3 _ 3 _ _ _ hb1
  have y3 : w3.cell? ⟨w.heap.size, 4, none⟩ = some (.int .i64 a.session) := cell_of_row w3 _ 4 _ _ _ hb1
  have y4 : w3.cell? ⟨w.heap.size, 5, none⟩ = some (.int .i64 a.seq) := cell_of_row w3 _ 5 _ _ _ hb1
  have y5 : w3.cell? ⟨w.heap.size, 6, none⟩ = some (.slice A a.evs.length c) := cell_of_row w3 _ 6 _ _ _ hb1
  have hB4 : Below w3.heap.size w3 (w3.alloc (.cells #[.string a.stream, .int .i64 a.expect, .int .i64 a.session, .int .i64 a.seq, .slice A a.evs.length c] 32)) := (Below.refl _ _).alloc (Nat.le_refl _) _
  have hbb := heap_alloc_new w3 (.cells #[.string a.stream, .int .i64 a.expect, .int .i64 a.session, .int .i64 a.seq, .slice A a.evs.length c] 32)
  go_upto_region 8 with (fail)
  generalize w3.alloc (.cells #[.string a.stream, .int .i64 a.expect, .int .i64 a.session, .int .i64 a.seq, .slice A a.evs.length c] 32) = w4 at hB4 hbb ⊢
  have H4 := Lib.hid (H3.out.fresh hB4)
  have HK4 := Lib.hid (HK3.out.fresh hB4)
  have hb1 := (Keeps.of_fresh hB4 (fun _ => False)).grownTo hb1 id
  have hz := (Keeps.of_fresh hB4 (fun _ => False)).grownTo hz id
  have hb3l : w3.heap.size < w4.heap.size := (Array.getElem?_eq_some_iff.1 hbb).1
  clear y1 y2 y3 y4 y5 H2 hB4
  have x0 : w4.cell? ⟨w3.heap.size, 2, none⟩ = some (.int .i64 a.session) := cell_of_row w4 _ 2 _ _ _ hbb
  have x1 : w4.cell? ⟨w3.heap.size, 3, none⟩ = some (.int .i64 a.seq) := cell_of_row w4 _ 3 _ _ _ hbb
  have x2 := H4.out.c1
  obtain ⟨_, _, ⟨hs1, hs2⟩, ⟨hq1, hq2⟩, _⟩ := right_nums hri
  have hnew0 := World.new_ne w4 _ x0
  have hnew1 := World.new_ne w4 _ x1
  have hnew2 := World.new_ne w4 _ x2
  have hbw0 := World.block_lt_of_cell? _ _ x0
  have hpw3 : m < w4.heap.size := World.block_lt_of_cell? _ _ x2
  have Hb1 := Lib.hid hb1
  have Hbb := Lib.hid hbb
  have Hz := Lib.hid hz
  clear hb1 hz hbb
  rcases hlk : Ded.lookL s.T a.session a.seq with ⟨⟨l1, l2, l3, l4⟩, l5⟩
  have hlook := fun (wz : World) (hz : Below w4.heap.size w4 wz) => Ded.rlook_any wz t s.T FT (H4.out.fresh hz).tab a.session a.seq
  rw [hlk] at hlook
  have HLOOK := Lib.hid hlook
  have HLK := Lib.hid hlk
  clear hlook hlk
  go_cut [8, 9] (fun s6 s7 wx => SawCut w4 l1 l2 l3 l4 l5 s6 s7 wx)
  case first =>
    have hWd : Below w4.heap.size w4 w4.drew := ⟨rfl, rfl, rfl, Nat.le_refl _, fun _ _ => rfl⟩
    clear hap hL hTl hA1 hA2 hri hs1 hs2 hq1 hq2 hw3 hb3l hpl
    go_wp2_with fail
    go_region_held3 (fun x => x.cell? ⟨w3.heap.size, 2, none⟩ = some (.int .i64 a.session) ∧ x.cell? ⟨w3.heap.size, 3, none⟩ = some (.int .i64 a.seq) ∧ x.cell? ⟨m, 1, none⟩ = some (.pointer (some ⟨t, 0, none⟩)))
      (first | with_reducible exact ⟨v0, v1, v2⟩ | with_reducible exact ⟨x0, x1, x2⟩ | go_keep)
      (first
        | (go_at_call 31
           refine (HLOOK.out _ (by first | exact hWd | exact hWd.alloc (Nat.le_refl _) _)).mono ?_
           rintro e w5 ⟨he, hB5⟩
           obtain rfl : e = .returned (.tuple #[.agg #[.int .i64 l1, .int .i64 l2, .int .i64 l3, .int .i64 l4], .int .i64 l5]) := he
           have hz5 := hB5.size
           have hB5' : Below w4.heap.size w4 w5 := by
             first
             | exact hWd.trans hB5
             | exact (hWd.alloc (Nat.le_refl _) _).trans (hB5.mono (by simp))
           try
             (have hblk := (Keeps.of_fresh hB5 (fun _ => False)).grownTo (heap_alloc_new w4.drew (.cells #[.int .i64 0, .int .i64 0, .int .i64 0, .int .i64 0] 34)) id
              have q0 : w5.cell? ⟨w4.heap.size, 0, none⟩ = some (.int .i64 0) := cell_of_row w5 _ 0 _ _ _ hblk
              have q1 : w5.cell? ⟨w4.heap.size, 1, none⟩ = some (.int .i64 0) := cell_of_row w5 _ 1 _ _ _ hblk
              have q2 : w5.cell? ⟨w4.heap.size, 2, none⟩ = some (.int .i64 0) := cell_of_row w5 _ 2 _ _ _ hblk
              have q3 : w5.cell? ⟨w4.heap.size, 3, none⟩ = some (.int .i64 0) := cell_of_row w5 _ 3 _ _ _ hblk
              have f0 : w5.frozen? ⟨w4.heap.size, 0, none⟩ = false := frozen_block hblk 0
              have f1 : w5.frozen? ⟨w4.heap.size, 1, none⟩ = false := frozen_block hblk 1
              have f2 : w5.frozen? ⟨w4.heap.size, 2, none⟩ = false := frozen_block hblk 2
              have f3 : w5.frozen? ⟨w4.heap.size, 3, none⟩ = false := frozen_block hblk 3
              have HBLK := Lib.hid hblk
              clear hblk)
           have HB5 := Lib.hid hB5'
           have v0 := (hB5'.cell (p := ⟨w3.heap.size, 2, none⟩) hbw0).trans x0
           have v1 := (hB5'.cell (p := ⟨w3.heap.size, 3, none⟩) hbw0).trans x1
           have v2 := (hB5'.cell (p := ⟨m, 1, none⟩) hpw3).trans x2
           clear hB5 hB5'))
    all_goals go_wp2_with fail
    all_goals go_meet
    · exact SawCut.new HB5.out
    · exact SawCut.old HB5.out HBLK.out
  case rest =>
    obtain ⟨g, rfl, rfl, hg, hgb, hB4⟩ := hcut
    have HK5 := Lib.hid (HK4.out.fresh hB4)
    have H5 := Lib.hid (H4.out.fresh hB4)
    have hb1 := (Keeps.of_fresh hB4 (fun _ => False)).grownTo Hb1.out id
    have hbb := (Keeps.of_fresh hB4 (fun _ => False)).grownTo Hbb.out id
    have hz := (Keeps.of_fresh hB4 (fun _ => False)).grownTo Hz.out id
    have hgl := (Array.getElem?_eq_some_iff.1 hgb).1
    have hgw : w.heap.size + 1 < g := by omega
    have hg0 : wc.cell? ⟨g, 0, none⟩ = some (.int .i64 l1) := cell_of_row wc _ 0 _ _ _ hgb
    have hg1 : wc.cell? ⟨g, 1, none⟩ = some (.int .i64 l2) := cell_of_row wc _ 1 _ _ _ hgb
    have hg2 : wc.cell? ⟨g, 2, none⟩ = some (.int .i64 l3) := cell_of_row wc _ 2 _ _ _ hgb
    have hg3 : wc.cell? ⟨g, 3, none⟩ = some (.int .i64 l4) := cell_of_row wc _ 3 _ _ _ hgb
    have hw4c : w4.heap.size ≤ wc.heap.size := hB4.size
    clear hB4 hgb x0 x1 x2 hnew0 hnew1 hnew2 hbw0 hpw3 Hb1 Hz Hbb
    have y0 : wc.cell? ⟨w.heap.size, 0, none⟩ = some (.int .i64 a.pos) := cell_of_row wc _ 0 _ _ _ hb1
    rcases apply_next hri HP.out with ⟨o, e1, _, _, e⟩ | ⟨e2, _, e⟩ | ⟨e0, _, _, e⟩
    · rw [HLK.out] at e1
      rw [HR.out] at e
      injection e1 with e11 e12
      subst e12
      injection e with he1 he2
      injection he2 with he2 he3
      rw [← e11] at he2
      injection he2 with h1 h2 h3 h4
      subst he1 he3 h1 h2 h3 h4
      clear e11
      have z0 : wc.cell? ⟨w.heap.size+1, 0, none⟩ = some (.int .i64 (0)) := cell_of_row wc _ 0 _ _ _ hz
      have z1 : wc.cell? ⟨w.heap.size+1, 1, none⟩ = some (.int .i64 (0)) := cell_of_row wc _ 1 _ _ _ hz
      have z2 : wc.cell? ⟨w.heap.size+1, 2, none⟩ = some (.int .i64 (0)) := cell_of_row wc _ 2 _ _ _ hz
      have z3 : wc.cell? ⟨w.heap.size+1, 3, none⟩ = some (.int .i64 (0)) := cell_of_row wc _ 3 _ _ _ hz
      have f0 : wc.frozen? ⟨w.heap.size+1, 0, none⟩ = false := frozen_block hz 0
      have f1 : wc.frozen? ⟨w.heap.size+1, 1, none⟩ = false := frozen_block hz 1
      have f2 : wc.frozen? ⟨w.heap.size+1, 2, none⟩ = false := frozen_block hz 2
      have f3 : wc.frozen? ⟨w.heap.size+1, 3, none⟩ = false := frozen_block hz 3
      go_wp2_with fail
      have hk4 := setCell_block' (o := 3) (v := .int .i64 (r4)) (setCell_block' (o := 2) (v := .int .i64 (r3)) (setCell_block' (o := 1) (v := .int .i64 (r2)) (setCell_block' (o := 0) (v := .int .i64 (r1)) hz)))
      have hkS : Keeps (fun k => k = w.heap.size+1) wc _ := (((Keeps.refl (fun k => k = w.heap.size+1) wc).setCell (p := ⟨w.heap.size+1, 0, none⟩) (fun _ => rfl) (.int .i64 (r1))).setCell (p := ⟨w.heap.size+1, 1, none⟩) (fun _ => rfl) (.int .i64 (r2))).setCell (p := ⟨w.heap.size+1, 2, none⟩) (fun _ => rfl) (.int .i64 (r3))
      have hkS := hkS.setCell (p := ⟨w.heap.size+1, 3, none⟩) (fun _ => rfl) (.int .i64 (r4))
      generalize (((wc.setCell ⟨w.heap.size+1, 0, none⟩ (.int .i64 (r1))).setCell ⟨w.heap.size+1, 1, none⟩ (.int .i64 (r2))).setCell ⟨w.heap.size+1, 2, none⟩ (.int .i64 (r3))).setCell ⟨w.heap.size+1, 3, none⟩ (.int .i64 (r4)) = w5 at hk4 hkS ⊢
      have q0 : w5.cell? ⟨w.heap.size+1, 0, none⟩ = some (.int .i64 (r1)) := cell_of_row w5 _ 0 _ _ _ hk4
      have q1 : w5.cell? ⟨w.heap.size+1, 1, none⟩ = some (.int .i64 (r2)) := cell_of_row w5 _ 1 _ _ _ hk4
      have q2 : w5.cell? ⟨w.heap.size+1, 2, none⟩ = some (.int .i64 (r3)) := cell_of_row w5 _ 2 _ _ _ hk4
      have q3 : w5.cell? ⟨w.heap.size+1, 3, none⟩ = some (.int .i64 (r4)) := cell_of_row w5 _ 3 _ _ _ hk4
      exact bodyPost_ret (v := .tuple #[.agg #[.int .i64 r1, .int .i64 r2, .int .i64 r3, .int .i64 r4], .int .i64 0]) (by simp [results, Tryz.results17, go_sem, q0, q1, q2, q3]) rfl ⟨rfl, MApplied.same (H5.out.keep hkS (fun k hk e => by have := hFlt.out k hk; omega)) (HK5.out.andThen hkS (fun i hi e => by omega))⟩
    · rw [HLK.out] at e2
      rw [HR.out] at e
      simp only at e2
      subst e2
      injection e with he1 he2
      injection he2 with he2 he3
      injection he2 with h1 h2 h3 h4
      subst he1 he3 h1 h2 h3 h4
      have z0 : wc.cell? ⟨w.heap.size+1, 0, none⟩ = some (.int .i64 (0)) := cell_of_row wc _ 0 _ _ _ hz
      have z1 : wc.cell? ⟨w.heap.size+1, 1, none⟩ = some (.int .i64 (0)) := cell_of_row wc _ 1 _ _ _ hz
      have z2 : wc.cell? ⟨w.heap.size+1, 2, none⟩ = some (.int .i64 (0)) := cell_of_row wc _ 2 _ _ _ hz
      have z3 : wc.cell? ⟨w.heap.size+1, 3, none⟩ = some (.int .i64 (0)) := cell_of_row wc _ 3 _ _ _ hz
      have f0 : wc.frozen? ⟨w.heap.size+1, 0, none⟩ = false := frozen_block hz 0
      have f1 : wc.frozen? ⟨w.heap.size+1, 1, none⟩ = false := frozen_block hz 1
      have f2 : wc.frozen? ⟨w.heap.size+1, 2, none⟩ = false := frozen_block hz 2
      have f3 : wc.frozen? ⟨w.heap.size+1, 3, none⟩ = false := frozen_block hz 3
      go_wp2_with fail
      have hk4 := setCell_block' (o := 3) (v := .int .i64 (0)) (setCell_block' (o := 2) (v := .int .i64 (0)) (setCell_block' (o := 1) (v := .int .i64 (a.pos)) (setCell_block' (o := 0) (v := .int .i64 (3)) hz)))
      have hkS : Keeps (fun k => k = w.heap.size+1) wc _ := (((Keeps.refl (fun k => k = w.heap.size+1) wc).setCell (p := ⟨w.heap.size+1, 0, none⟩) (fun _ => rfl) (.int .i64 (3))).setCell (p := ⟨w.heap.size+1, 1, none⟩) (fun _ => rfl) (.int .i64 (a.pos))).setCell (p := ⟨w.heap.size+1, 2, none⟩) (fun _ => rfl) (.int .i64 (0))
      have hkS := hkS.setCell (p := ⟨w.heap.size+1, 3, none⟩) (fun _ => rfl) (.int .i64 (0))
      generalize (((wc.setCell ⟨w.heap.size+1, 0, none⟩ (.int .i64 (3))).setCell ⟨w.heap.size+1, 1, none⟩ (.int .i64 (a.pos))).setCell ⟨w.heap.size+1, 2, none⟩ (.int .i64 (0))).setCell ⟨w.heap.size+1, 3, none⟩ (.int .i64 (0)) = w5 at hk4 hkS ⊢
      have q0 : w5.cell? ⟨w.heap.size+1, 0, none⟩ = some (.int .i64 (3)) := cell_of_row w5 _ 0 _ _ _ hk4
      have q1 : w5.cell? ⟨w.heap.size+1, 1, none⟩ = some (.int .i64 (a.pos)) := cell_of_row w5 _ 1 _ _ _ hk4
      have q2 : w5.cell? ⟨w.heap.size+1, 2, none⟩ = some (.int .i64 (0)) := cell_of_row w5 _ 2 _ _ _ hk4
      have q3 : w5.cell? ⟨w.heap.size+1, 3, none⟩ = some (.int .i64 (0)) := cell_of_row w5 _ 3 _ _ _ hk4
      exact bodyPost_ret (v := .tuple #[.agg #[.int .i64 3, .int .i64 a.pos, .int .i64 0, .int .i64 0], .int .i64 0]) (by simp [results, Tryz.results17, go_sem, q0, q1, q2, q3]) rfl ⟨rfl, MApplied.same (H5.out.keep hkS (fun k hk e => by have := hFlt.out k hk; omega)) (HK5.out.andThen hkS (fun i hi e => by omega))⟩
    · rw [HLK.out] at e0
      rw [HR.out] at e
      simp only at e0
      subst e0
      injection e with he1 he2
      injection he2 with he2 he3
      subst he1 he3
      have HE2 := Lib.hid he2
      have Hb1 := Lib.hid hb1
      have Hbb := Lib.hid hbb
      have Hz := Lib.hid hz
      have z2 := H5.out.c0
      have y1 : wc.cell? ⟨w3.heap.size, 0, none⟩ = some (.string a.stream) := cell_of_row wc _ 0 _ _ _ hbb
      have y2 : wc.cell? ⟨w3.heap.size, 1, none⟩ = some (.int .i64 a.expect) := cell_of_row wc _ 1 _ _ _ hbb
      clear he2 hb1 hbb hz hg0 hg1 hg2 hg3
      obtain ⟨N, hN⟩ : ∃ N, (Idx.ofS s.L a.stream).length = N := ⟨_, rfl⟩
      have hNl := Idx.ofS_le s.L a.stream
      have hver := Idx.rversion_any wc.drew x s.L FX (H5.out.idx.drew) a.stream (by omega)
      rw [hN] at hver hNl
      have HVER := Lib.hid hver
      have HN := Lib.hid hN
      clear hver hN
      go_upto_region 13 with (fail)
      refine region_mid 6 rfl (by kernel_rfl) (by kernel_rfl) ?_
      simp only [List.take_succ_cons, List.take_zero, List.drop_succ_cons, List.drop_zero]
      change wpStill _ _ wc.drew _ _ _
      refine still_of_quiet ?_
      repeat (go_big_quiet_step (fail))
      refine wpQuiet_nil ?_
      change wpList _ _ _ _ _ wc.drew
      go_wp2_with fail
      refine HVER.out.mono ?_
      rintro e w5 ⟨rfl, rfl⟩
      go_wp2_with fail
      unfold Go.Bl.Rest
      refine still_of_quiet ?_
      repeat (go_big_quiet_step (fail))
      refine wpQuiet_nil ?_
      go_upto_region 15 with (fail)
      have hB5 : Below wc.heap.size wc ((wc.alloc (.cells #[.int .i64 2, .int .i64 a.pos, .int .i64 N, .int .i64 N] 34)).drew) := (((Below.refl _ wc).alloc (Nat.le_refl _) (.cells #[.int .i64 2, .int .i64 a.pos, .int .i64 N, .int .i64 N] 34))).trans ⟨rfl, rfl, rfl, Nat.le_refl _, fun _ _ => rfl⟩
      have hob : ((wc.alloc (.cells #[.int .i64 2, .int .i64 a.pos, .int .i64 N, .int .i64 N] 34)).drew).heap[wc.heap.size]? = some (.cells #[.int .i64 2, .int .i64 a.pos, .int .i64 N, .int .i64 N] 34 (0, 0)) := heap_alloc_new wc (.cells #[.int .i64 2, .int .i64 a.pos, .int .i64 N, .int .i64 N] 34)
      generalize (wc.alloc (.cells #[.int .i64 2, .int .i64 a.pos, .int .i64 N, .int .i64 N] 34)).drew = w5 at hB5 hob ⊢
      have H6 := Lib.hid (H5.out.fresh hB5)
      have HK6 := Lib.hid (HK5.out.fresh hB5)
      have HB1 := Lib.hid ((Keeps.of_fresh hB5 (fun _ => False)).grownTo Hb1.out id)
      have HBB := Lib.hid ((Keeps.of_fresh hB5 (fun _ => False)).grownTo Hbb.out id)
      have HZB := Lib.hid ((Keeps.of_fresh hB5 (fun _ => False)).grownTo Hz.out id)
      have HMB := Lib.hid H6.out.blk
      have HOB := Lib.hid hob
      have HGL := Lib.hid (Array.getElem?_eq_some_iff.1 hob).1
      have HZL := Lib.hid (Array.getElem?_eq_some_iff.1 HZB.out).1
      have hxw : x < w.heap.size := hFlt.out _ (H6.out.fx _ H6.out.px)
      have htw : t < w.heap.size := hFlt.out _ (H6.out.ft _ H6.out.pt)
      clear hB5 hob y0 y1 y2 z2 Hb1 Hbb Hz H3 H4 H5
      have y0 : w5.cell? ⟨w.heap.size, 0, none⟩ = some (.int .i64 a.pos) := cell_of_row w5 _ 0 _ _ _ HB1.out
      have y2 : w5.cell? ⟨w3.heap.size, 1, none⟩ = some (.int .i64 a.expect) := cell_of_row w5 _ 1 _ _ _ HBB.out
      by_cases hx1 : a.expect = -1
      · have d1 : (a.expect == -1) = true := by simp [hx1]
        as_aux_lemma =>
        have HFL : Hid (freshL s a = addS s a) := Lib.hid (by unfold freshL verS; rw [HN.out, if_neg (by omega)])
        have HFO : Hid (freshO s a = ⟨1, a.pos, N, (N : Int) + a.evs.length⟩) := Lib.hid (by unfold freshO verS; rw [HN.out, if_neg (by omega)])
        have he2 := HE2.out.trans HFO.out
        injection he2 with h1 h2 h3 h4
        subst h1 h2 h3 h4
        have y3 : w5.cell? ⟨w3.heap.size, 0, none⟩ = some (.string a.stream) := cell_of_row w5 _ 0 _ _ _ HBB.out
        have y5 : w5.cell? ⟨w3.heap.size, 4, none⟩ = some (.slice A a.evs.length c) := cell_of_row w5 _ 4 _ _ _ HBB.out
        have z2 : w5.cell? ⟨m, 0, none⟩ = some (.pointer (some ⟨x, 0, none⟩)) := cell_of_row w5 _ 0 _ _ _ HMB.out
        have hadd := Idx.radd_any w5.drew x s.L FX G H6.out.idx.drew a.pos a.stream _ a.evs ((HBt.out.1.keep HK6.out (fun k _ hk => HG.out k hk)).fresh (show Below w5.heap.size w5 w5.drew from ⟨rfl, rfl, rfl, Nat.le_refl _, fun _ _ => rfl⟩)) (by omega)
        rw [HN.out, HV.out] at hadd
        have HADD := Lib.hid hadd
        clear hadd
        go_upto_region 16 with (fail)
        refine region_mid 10 rfl (by kernel_rfl) (by kernel_rfl) ?_
        simp only [List.take_succ_cons, List.take_zero, List.drop_succ_cons, List.drop_zero]
        change wpStill _ _ w5.drew _ _ _
        refine still_of_quiet ?_
        repeat (go_big_quiet_step (fail))
        refine wpQuiet_nil ?_
        change wpList _ _ _ _ _ w5.drew
        go_wp2_with fail
        refine HADD.out.mono ?_
        rintro e w6 ⟨rfl, hK6, hX6⟩
        have hK6' : Keeps (fun q => q = x) w5 w6 := ((Keeps.refl (fun q => q = x) w5).drew).trans hK6
        have hb1 := hK6'.grownTo HB1.out (by omega)
        have hbb := hK6'.grownTo HBB.out (by omega)
        have hz := hK6'.grownTo HOB.out (by omega)
        have hzb := hK6'.grownTo HZB.out (by omega)
        have hmb := hK6'.grownTo HMB.out (fun e => H6.out.nx (e ▸ H6.out.px))
        have u0 : w6.cell? ⟨w.heap.size, 0, none⟩ = some (.int .i64 a.pos) := cell_of_row w6 _ 0 _ _ _ hb1
        have u5 : w6.cell? ⟨w3.heap.size, 4, none⟩ = some (.slice A a.evs.length c) := cell_of_row w6 _ 4 _ _ _ hbb
        have HKA := Lib.hid hK6'
        have HXA := Lib.hid hX6
        clear hK6 hK6' hX6 y0 y3 y5 z2 y2
        have z0 : w6.cell? ⟨wc.heap.size, 0, none⟩ = some (.int .i64 (2)) := cell_of_row w6 _ 0 _ _ _ hz
        have z1 : w6.cell? ⟨wc.heap.size, 1, none⟩ = some (.int .i64 (a.pos)) := cell_of_row w6 _ 1 _ _ _ hz
        have z2 : w6.cell? ⟨wc.heap.size, 2, none⟩ = some (.int .i64 (N)) := cell_of_row w6 _ 2 _ _ _ hz
        have z3 : w6.cell? ⟨wc.heap.size, 3, none⟩ = some (.int .i64 (N)) := cell_of_row w6 _ 3 _ _ _ hz
        have f0 : w6.frozen? ⟨wc.heap.size, 0, none⟩ = false := frozen_block hz 0
        have f1 : w6.frozen? ⟨wc.heap.size, 1, none⟩ = false := frozen_block hz 1
        have f2 : w6.frozen? ⟨wc.heap.size, 2, none⟩ = false := frozen_block hz 2
        have f3 : w6.frozen? ⟨wc.heap.size, 3, none⟩ = false := frozen_block hz 3
        go_wp2_with fail
        unfold Go.Bl.Rest
        refine still_of_quiet ?_
        repeat (go_big_quiet_step (fail))
        refine wpQuiet_nil ?_
        go_wp2_with fail
        have hk4 := setCell_block' (o := 3) (v := .int .i64 ((N:Int)+a.evs.length)) (setCell_block' (o := 2) (v := .int .i64 (N)) (setCell_block' (o := 1) (v := .int .i64 (a.pos)) (setCell_block' (o := 0) (v := .int .i64 (1)) hz)))
        have hkS : Keeps (fun k => k = wc.heap.size) w6 _ := (((Keeps.refl (fun k => k = wc.heap.size) w6).setCell (p := ⟨wc.heap.size, 0, none⟩) (fun _ => rfl) (.int .i64 (1))).setCell (p := ⟨wc.heap.size, 1, none⟩) (fun _ => rfl) (.int .i64 (a.pos))).setCell (p := ⟨wc.heap.size, 2, none⟩) (fun _ => rfl) (.int .i64 (N))
        have hkS := hkS.setCell (p := ⟨wc.heap.size, 3, none⟩) (fun _ => rfl) (.int .i64 ((N:Int)+a.evs.length))
        generalize (((w6.setCell ⟨wc.heap.size, 0, none⟩ (.int .i64 (1))).setCell ⟨wc.heap.size, 1, none⟩ (.int .i64 (a.pos))).setCell ⟨wc.heap.size, 2, none⟩ (.int .i64 (N))).setCell ⟨wc.heap.size, 3, none⟩ (.int .i64 ((N:Int)+a.evs.length)) = w7 at hk4 hkS ⊢
        have q0 : w7.cell? ⟨wc.heap.size, 0, none⟩ = some (.int .i64 (1)) := cell_of_row w7 _ 0 _ _ _ hk4
        have q1 : w7.cell? ⟨wc.heap.size, 1, none⟩ = some (.int .i64 (a.pos)) := cell_of_row w7 _ 1 _ _ _ hk4
        have q2 : w7.cell? ⟨wc.heap.size, 2, none⟩ = some (.int .i64 (N)) := cell_of_row w7 _ 2 _ _ _ hk4
        have q3 : w7.cell? ⟨wc.heap.size, 3, none⟩ = some (.int .i64 ((N:Int)+a.evs.length)) := cell_of_row w7 _ 3 _ _ _ hk4
        have HKB := Lib.hid hkS
        have HBB := Lib.hid (hkS.grownTo hbb (by omega))
        have HZB := Lib.hid (hkS.grownTo hzb (by omega))
        have HMB := Lib.hid (hkS.grownTo hmb (by omega))
        have HOB := Lib.hid hk4
        have HTAB := Lib.hid ((H6.out.tab.keep HKA.out (fun k hk e => H6.out.xt x H6.out.px (e ▸ hk))).keep hkS (fun k hk e => by have := hFlt.out _ (H6.out.ft k hk); omega))
        clear u0 u5 z0 z1 z2 z3 f0 f1 f2 f3 q0 q1 q2 q3 hkS hk4 hb1 hbb hz hzb hmb
        have p1 : w7.cell? ⟨m, 1, none⟩ = some (.pointer (some ⟨t, 0, none⟩)) := cell_of_row w7 _ 1 _ _ _ HMB.out
        have s0 : w7.cell? ⟨w3.heap.size, 2, none⟩ = some (.int .i64 a.session) := cell_of_row w7 _ 2 _ _ _ HBB.out
        have s1 : w7.cell? ⟨w3.heap.size, 3, none⟩ = some (.int .i64 a.seq) := cell_of_row w7 _ 3 _ _ _ HBB.out
        have o0 : w7.cell? ⟨wc.heap.size, 0, none⟩ = some (.int .i64 (1)) := cell_of_row w7 _ 0 _ _ _ HOB.out
        have o1 : w7.cell? ⟨wc.heap.size, 1, none⟩ = some (.int .i64 (a.pos)) := cell_of_row w7 _ 1 _ _ _ HOB.out
        have o2 : w7.cell? ⟨wc.heap.size, 2, none⟩ = some (.int .i64 (N)) := cell_of_row w7 _ 2 _ _ _ HOB.out
        have o3 : w7.cell? ⟨wc.heap.size, 3, none⟩ = some (.int .i64 ((N:Int)+a.evs.length)) := cell_of_row w7 _ 3 _ _ _ HOB.out
        have HPUT := Lib.hid (Ded.rput_any w7.drew t s.T FT (HTAB.out.fresh (show Below w7.heap.size w7 w7.drew from ⟨rfl, rfl, rfl, Nat.le_refl _, fun _ _ => rfl⟩)) hTl a.session a.seq (by unfold Ded.i64; omega) (by unfold Ded.i64; omega) ⟨1, a.pos, N, (N:Int)+a.evs.length⟩)
        refine region_mid 9 rfl (by kernel_rfl) (by kernel_rfl) ?_
        simp only [List.take_succ_cons, List.take_zero, List.drop_succ_cons, List.drop_zero]
        change wpStill _ _ w7.drew _ _ _
        refine still_of_quiet ?_
        repeat (go_big_quiet_step (fail))
        refine wpQuiet_nil ?_
        change wpList _ _ _ _ _ w7.drew
        go_wp2_with fail
        refine HPUT.out.mono ?_
        rintro e w8 ⟨rfl, hK8, hT8⟩
        have hK8' : Keeps (fun q => q = t) w7 w8 := ((Keeps.refl (fun q => q = t) w7).drew).trans hK8
        have hgb := hK8'.grownTo HOB.out (by omega)
        have hz := hK8'.grownTo HZB.out (by omega)
        have v0 : w8.cell? ⟨wc.heap.size, 0, none⟩ = some (.int .i64 (1)) := cell_of_row w8 _ 0 _ _ _ hgb
        have v1 : w8.cell? ⟨wc.heap.size, 1, none⟩ = some (.int .i64 (a.pos)) := cell_of_row w8 _ 1 _ _ _ hgb
        have v2 : w8.cell? ⟨wc.heap.size, 2, none⟩ = some (.int .i64 (N)) := cell_of_row w8 _ 2 _ _ _ hgb
        have v3 : w8.cell? ⟨wc.heap.size, 3, none⟩ = some (.int .i64 ((N:Int)+a.evs.length)) := cell_of_row w8 _ 3 _ _ _ hgb
        have HK8 := Lib.hid hK8'
        have HT8 := Lib.hid hT8
        clear hK8 hK8' hT8 p1 s0 s1 o0 o1 o2 o3 hgb
        have z0 : w8.cell? ⟨w.heap.size+1, 0, none⟩ = some (.int .i64 (0)) := cell_of_row w8 _ 0 _ _ _ hz
        have z1 : w8.cell? ⟨w.heap.size+1, 1, none⟩ = some (.int .i64 (0)) := cell_of_row w8 _ 1 _ _ _ hz
        have z2 : w8.cell? ⟨w.heap.size+1, 2, none⟩ = some (.int .i64 (0)) := cell_of_row w8 _ 2 _ _ _ hz
        have z3 : w8.cell? ⟨w.heap.size+1, 3, none⟩ = some (.int .i64 (0)) := cell_of_row w8 _ 3 _ _ _ hz
        have f0 : w8.frozen? ⟨w.heap.size+1, 0, none⟩ = false := frozen_block hz 0
        have f1 : w8.frozen? ⟨w.heap.size+1, 1, none⟩ = false := frozen_block hz 1
        have f2 : w8.frozen? ⟨w.heap.size+1, 2, none⟩ = false := frozen_block hz 2
        have f3 : w8.frozen? ⟨w.heap.size+1, 3, none⟩ = false := frozen_block hz 3
        go_wp2_with fail
        unfold Go.Bl.Rest
        refine still_of_quiet ?_
        repeat (go_big_quiet_step (fail))
        refine wpQuiet_nil ?_
        go_wp2_with fail
        have hk4 := setCell_block' (o := 3) (v := .int .i64 ((N:Int)+a.evs.length)) (setCell_block' (o := 2) (v := .int .i64 (N)) (setCell_block' (o := 1) (v := .int .i64 (a.pos)) (setCell_block' (o := 0) (v := .int .i64 (1)) hz)))
        have hkS : Keeps (fun k => k = w.heap.size+1) w8 _ := (((Keeps.refl (fun k => k = w.heap.size+1) w8).setCell (p := ⟨w.heap.size+1, 0, none⟩) (fun _ => rfl) (.int .i64 (1))).setCell (p := ⟨w.heap.size+1, 1, none⟩) (fun _ => rfl) (.int .i64 (a.pos))).setCell (p := ⟨w.heap.size+1, 2, none⟩) (fun _ => rfl) (.int .i64 (N))
        have hkS := hkS.setCell (p := ⟨w.heap.size+1, 3, none⟩) (fun _ => rfl) (.int .i64 ((N:Int)+a.evs.length))
        generalize (((w8.setCell ⟨w.heap.size+1, 0, none⟩ (.int .i64 (1))).setCell ⟨w.heap.size+1, 1, none⟩ (.int .i64 (a.pos))).setCell ⟨w.heap.size+1, 2, none⟩ (.int .i64 (N))).setCell ⟨w.heap.size+1, 3, none⟩ (.int .i64 ((N:Int)+a.evs.length)) = w9 at hk4 hkS ⊢
        have q0 : w9.cell? ⟨w.heap.size+1, 0, none⟩ = some (.int .i64 (1)) := cell_of_row w9 _ 0 _ _ _ hk4
        have q1 : w9.cell? ⟨w.heap.size+1, 1, none⟩ = some (.int .i64 (a.pos)) := cell_of_row w9 _ 1 _ _ _ hk4
        have q2 : w9.cell? ⟨w.heap.size+1, 2, none⟩ = some (.int .i64 (N)) := cell_of_row w9 _ 2 _ _ _ hk4
        have q3 : w9.cell? ⟨w.heap.size+1, 3, none⟩ = some (.int .i64 ((N:Int)+a.evs.length)) := cell_of_row w9 _ 3 _ _ _ hk4
        have hfin := MApplied.put H6.out hFlt.out HK6.out (by omega) HGL.out (by omega) HZL.out HKA.out HXA.out HKB.out HK8.out HT8.out hkS
        rw [show (Ded.putL s.T a.session a.seq ⟨1, a.pos, N, (N:Int)+a.evs.length⟩).1 = s.T ++ [⟨a.session, a.seq, freshO s a⟩] by
          unfold Ded.putL
          rw [if_neg (by omega), HLK.out, HFO.out]; rfl] at hfin
        exact bodyPost_ret (v := .tuple #[.agg #[.int .i64 (1), .int .i64 (a.pos), .int .i64 (N), .int .i64 ((N:Int)+a.evs.length)], .int .i64 0]) (by simp [results, Tryz.results17, go_sem, q0, q1, q2, q3]) rfl ⟨rfl, by rw [HFL.out]; exact hfin⟩
      · have d1 : (a.expect == -1) = false := by simp [hx1]
        by_cases hx2 : a.expect = (N : Int)
        · have d2 : (a.expect == (N : Int)) = true := by simp [hx2]
          as_aux_lemma =>
          have HFL : Hid (freshL s a = addS s a) := Lib.hid (by unfold freshL verS; rw [HN.out, if_neg (by omega)])
          have HFO : Hid (freshO s a = ⟨1, a.pos, N, (N : Int) + a.evs.length⟩) := Lib.hid (by unfold freshO verS; rw [HN.out, if_neg (by omega)])
          have he2 := HE2.out.trans HFO.out
          injection he2 with h1 h2 h3 h4
          subst h1 h2 h3 h4
          have y3 : w5.cell? ⟨w3.heap.size, 0, none⟩ = some (.string a.stream) := cell_of_row w5 _ 0 _ _ _ HBB.out
          have y5 : w5.cell? ⟨w3.heap.size, 4, none⟩ = some (.slice A a.evs.length c) := cell_of_row w5 _ 4 _ _ _ HBB.out
          have z2 : w5.cell? ⟨m, 0, none⟩ = some (.pointer (some ⟨x, 0, none⟩)) := cell_of_row w5 _ 0 _ _ _ HMB.out
          have hadd := Idx.radd_any w5.drew x s.L FX G H6.out.idx.drew a.pos a.stream _ a.evs ((HBt.out.1.keep HK6.out (fun k _ hk => HG.out k hk)).fresh (show Below w5.heap.size w5 w5.drew from ⟨rfl, rfl, rfl, Nat.le_refl _, fun _ _ => rfl⟩)) (by omega)
          rw [HN.out, HV.out] at hadd
          have HADD := Lib.hid hadd
          clear hadd
          go_upto_region 16 with (fail)
          refine region_mid 10 rfl (by kernel_rfl) (by kernel_rfl) ?_
          simp only [List.take_succ_cons, List.take_zero, List.drop_succ_cons, List.drop_zero]
          change wpStill _ _ w5.drew _ _ _
          refine still_of_quiet ?_
          repeat (go_big_quiet_step (fail))
          refine wpQuiet_nil ?_
          change wpList _ _ _ _ _ w5.drew
          go_wp2_with fail
          refine HADD.out.mono ?_
          rintro e w6 ⟨rfl, hK6, hX6⟩
          have hK6' : Keeps (fun q => q = x) w5 w6 := ((Keeps.refl (fun q => q = x) w5).drew).trans hK6
          have hb1 := hK6'.grownTo HB1.out (by omega)
          have hbb := hK6'.grownTo HBB.out (by omega)
          have hz := hK6'.grownTo HOB.out (by omega)
          have hzb := hK6'.grownTo HZB.out (by omega)
          have hmb := hK6'.grownTo HMB.out (fun e => H6.out.nx (e ▸ H6.out.px))
          have u0 : w6.cell? ⟨w.heap.size, 0, none⟩ = some (.int .i64 a.pos) := cell_of_row w6 _ 0 _ _ _ hb1
          have u5 : w6.cell? ⟨w3.heap.size, 4, none⟩ = some (.slice A a.evs.length c) := cell_of_row w6 _ 4 _ _ _ hbb
          have HKA := Lib.hid hK6'
          have HXA := Lib.hid hX6
          clear hK6 hK6' hX6 y0 y3 y5 z2 y2
          have z0 : w6.cell? ⟨wc.heap.size, 0, none⟩ = some (.int .i64 (2)) := cell_of_row w6 _ 0 _ _ _ hz
          have z1 : w6.cell? ⟨wc.heap.size, 1, none⟩ = some (.int .i64 (a.pos)) := cell_of_row w6 _ 1 _ _ _ hz
          have z2 : w6.cell? ⟨wc.heap.size, 2, none⟩ = some (.int .i64 (N)) := cell_of_row w6 _ 2 _ _ _ hz
          have z3 : w6.cell? ⟨wc.heap.size, 3, none⟩ = some (.int .i64 (N)) := cell_of_row w6 _ 3 _ _ _ hz
          have f0 : w6.frozen? ⟨wc.heap.size, 0, none⟩ = false := frozen_block hz 0
          have f1 : w6.frozen? ⟨wc.heap.size, 1, none⟩ = false := frozen_block hz 1
          have f2 : w6.frozen? ⟨wc.heap.size, 2, none⟩ = false := frozen_block hz 2
          have f3 : w6.frozen? ⟨wc.heap.size, 3, none⟩ = false := frozen_block hz 3
          go_wp2_with fail
          unfold Go.Bl.Rest
          refine still_of_quiet ?_
          repeat (go_big_quiet_step (fail))
          refine wpQuiet_nil ?_
          go_wp2_with fail
          have hk4 := setCell_block' (o := 3) (v := .int .i64 ((N:Int)+a.evs.length)) (setCell_block' (o := 2) (v := .int .i64 (N)) (setCell_block' (o := 1) (v := .int .i64 (a.pos)) (setCell_block' (o := 0) (v := .int .i64 (1)) hz)))
          have hkS : Keeps (fun k => k = wc.heap.size) w6 _ := (((Keeps.refl (fun k => k = wc.heap.size) w6).setCell (p := ⟨wc.heap.size, 0, none⟩) (fun _ => rfl) (.int .i64 (1))).setCell (p := ⟨wc.heap.size, 1, none⟩) (fun _ => rfl) (.int .i64 (a.pos))).setCell (p := ⟨wc.heap.size, 2, none⟩) (fun _ => rfl) (.int .i64 (N))
          have hkS := hkS.setCell (p := ⟨wc.heap.size, 3, none⟩) (fun _ => rfl) (.int .i64 ((N:Int)+a.evs.length))
          generalize (((w6.setCell ⟨wc.heap.size, 0, none⟩ (.int .i64 (1))).setCell ⟨wc.heap.size, 1, none⟩ (.int .i64 (a.pos))).setCell ⟨wc.heap.size, 2, none⟩ (.int .i64 (N))).setCell ⟨wc.heap.size, 3, none⟩ (.int .i64 ((N:Int)+a.evs.length)) = w7 at hk4 hkS ⊢
          have q0 : w7.cell? ⟨wc.heap.size, 0, none⟩ = some (.int .i64 (1)) := cell_of_row w7 _ 0 _ _ _ hk4
          have q1 : w7.cell? ⟨wc.heap.size, 1, none⟩ = some (.int .i64 (a.pos)) := cell_of_row w7 _ 1 _ _ _ hk4
          have q2 : w7.cell? ⟨wc.heap.size, 2, none⟩ = some (.int .i64 (N)) := cell_of_row w7 _ 2 _ _ _ hk4
          have q3 : w7.cell? ⟨wc.heap.size, 3, none⟩ = some (.int .i64 ((N:Int)+a.evs.length)) := cell_of_row w7 _ 3 _ _ _ hk4
          have HKB := Lib.hid hkS
          have HBB := Lib.hid (hkS.grownTo hbb (by omega))
          have HZB := Lib.hid (hkS.grownTo hzb (by omega))
          have HMB := Lib.hid (hkS.grownTo hmb (by omega))
          have HOB := Lib.hid hk4
          have HTAB := Lib.hid ((H6.out.tab.keep HKA.out (fun k hk e => H6.out.xt x H6.out.px (e ▸ hk))).keep hkS (fun k hk e => by have := hFlt.out _ (H6.out.ft k hk); omega))
          clear u0 u5 z0 z1 z2 z3 f0 f1 f2 f3 q0 q1 q2 q3 hkS hk4 hb1 hbb hz hzb hmb
          have p1 : w7.cell? ⟨m, 1, none⟩ = some (.pointer (some ⟨t, 0, none⟩)) := cell_of_row w7 _ 1 _ _ _ HMB.out
          have s0 : w7.cell? ⟨w3.heap.size, 2, none⟩ = some (.int .i64 a.session) := cell_of_row w7 _ 2 _ _ _ HBB.out
          have s1 : w7.cell? ⟨w3.heap.size, 3, none⟩ = some (.int .i64 a.seq) := cell_of_row w7 _ 3 _ _ _ HBB.out
          have o0 : w7.cell? ⟨wc.heap.size, 0, none⟩ = some (.int .i64 (1)) := cell_of_row w7 _ 0 _ _ _ HOB.out
          have o1 : w7.cell? ⟨wc.heap.size, 1, none⟩ = some (.int .i64 (a.pos)) := cell_of_row w7 _ 1 _ _ _ HOB.out
          have o2 : w7.cell? ⟨wc.heap.size, 2, none⟩ = some (.int .i64 (N)) := cell_of_row w7 _ 2 _ _ _ HOB.out
          have o3 : w7.cell? ⟨wc.heap.size, 3, none⟩ = some (.int .i64 ((N:Int)+a.evs.length)) := cell_of_row w7 _ 3 _ _ _ HOB.out
          have HPUT := Lib.hid (Ded.rput_any w7.drew t s.T FT (HTAB.out.fresh (show Below w7.heap.size w7 w7.drew from ⟨rfl, rfl, rfl, Nat.le_refl _, fun _ _ => rfl⟩)) hTl a.session a.seq (by unfold Ded.i64; omega) (by unfold Ded.i64; omega) ⟨1, a.pos, N, (N:Int)+a.evs.length⟩)
          refine region_mid 9 rfl (by kernel_rfl) (by kernel_rfl) ?_
          simp only [List.take_succ_cons, List.take_zero, List.drop_succ_cons, List.drop_zero]
          change wpStill _ _ w7.drew _ _ _
          refine still_of_quiet ?_
          repeat (go_big_quiet_step (fail))
          refine wpQuiet_nil ?_
          change wpList _ _ _ _ _ w7.drew
          go_wp2_with fail
          refine HPUT.out.mono ?_
          rintro e w8 ⟨rfl, hK8, hT8⟩
          have hK8' : Keeps (fun q => q = t) w7 w8 := ((Keeps.refl (fun q => q = t) w7).drew).trans hK8
          have hgb := hK8'.grownTo HOB.out (by omega)
          have hz := hK8'.grownTo HZB.out (by omega)
          have v0 : w8.cell? ⟨wc.heap.size, 0, none⟩ = some (.int .i64 (1)) := cell_of_row w8 _ 0 _ _ _ hgb
          have v1 : w8.cell? ⟨wc.heap.size, 1, none⟩ = some (.int .i64 (a.pos)) := cell_of_row w8 _ 1 _ _ _ hgb
          have v2 : w8.cell? ⟨wc.heap.size, 2, none⟩ = some (.int .i64 (N)) := cell_of_row w8 _ 2 _ _ _ hgb
          have v3 : w8.cell? ⟨wc.heap.size, 3, none⟩ = some (.int .i64 ((N:Int)+a.evs.length)) := cell_of_row w8 _ 3 _ _ _ hgb
          have HK8 := Lib.hid hK8'
          have HT8 := Lib.hid hT8
          clear hK8 hK8' hT8 p1 s0 s1 o0 o1 o2 o3 hgb
          have z0 : w8.cell? ⟨w.heap.size+1, 0, none⟩ = some (.int .i64 (0)) := cell_of_row w8 _ 0 _ _ _ hz
          have z1 : w8.cell? ⟨w.heap.size+1, 1, none⟩ = some (.int .i64 (0)) := cell_of_row w8 _ 1 _ _ _ hz
          have z2 : w8.cell? ⟨w.heap.size+1, 2, none⟩ = some (.int .i64 (0)) := cell_of_row w8 _ 2 _ _ _ hz
          have z3 : w8.cell? ⟨w.heap.size+1, 3, none⟩ = some (.int .i64 (0)) := cell_of_row w8 _ 3 _ _ _ hz
          have f0 : w8.frozen? ⟨w.heap.size+1, 0, none⟩ = false := frozen_block hz 0
          have f1 : w8.frozen? ⟨w.heap.size+1, 1, none⟩ = false := frozen_block hz 1
          have f2 : w8.frozen? ⟨w.heap.size+1, 2, none⟩ = false := frozen_block hz 2
          have f3 : w8.frozen? ⟨w.heap.size+1, 3, none⟩ = false := frozen_block hz 3
          go_wp2_with fail
          unfold Go.Bl.Rest
          refine still_of_quiet ?_
          repeat (go_big_quiet_step (fail))
          refine wpQuiet_nil ?_
          go_wp2_with fail
          have hk4 := setCell_block' (o := 3) (v := .int .i64 ((N:Int)+a.evs.length)) (setCell_block' (o := 2) (v := .int .i64 (N)) (setCell_block' (o := 1) (v := .int .i64 (a.pos)) (setCell_block' (o := 0) (v := .int .i64 (1)) hz)))
          have hkS : Keeps (fun k => k = w.heap.size+1) w8 _ := (((Keeps.refl (fun k => k = w.heap.size+1) w8).setCell (p := ⟨w.heap.size+1, 0, none⟩) (fun _ => rfl) (.int .i64 (1))).setCell (p := ⟨w.heap.size+1, 1, none⟩) (fun _ => rfl) (.int .i64 (a.pos))).setCell (p := ⟨w.heap.size+1, 2, none⟩) (fun _ => rfl) (.int .i64 (N))
          have hkS := hkS.setCell (p := ⟨w.heap.size+1, 3, none⟩) (fun _ => rfl) (.int .i64 ((N:Int)+a.evs.length))
          generalize (((w8.setCell ⟨w.heap.size+1, 0, none⟩ (.int .i64 (1))).setCell ⟨w.heap.size+1, 1, none⟩ (.int .i64 (a.pos))).setCell ⟨w.heap.size+1, 2, none⟩ (.int .i64 (N))).setCell ⟨w.heap.size+1, 3, none⟩ (.int .i64 ((N:Int)+a.evs.length)) = w9 at hk4 hkS ⊢
          have q0 : w9.cell? ⟨w.heap.size+1, 0, none⟩ = some (.int .i64 (1)) := cell_of_row w9 _ 0 _ _ _ hk4
          have q1 : w9.cell? ⟨w.heap.size+1, 1, none⟩ = some (.int .i64 (a.pos)) := cell_of_row w9 _ 1 _ _ _ hk4
          have q2 : w9.cell? ⟨w.heap.size+1, 2, none⟩ = some (.int .i64 (N)) := cell_of_row w9 _ 2 _ _ _ hk4
          have q3 : w9.cell? ⟨w.heap.size+1, 3, none⟩ = some (.int .i64 ((N:Int)+a.evs.length)) := cell_of_row w9 _ 3 _ _ _ hk4
          have hfin := MApplied.put H6.out hFlt.out HK6.out (by omega) HGL.out (by omega) HZL.out HKA.out HXA.out HKB.out HK8.out HT8.out hkS
          rw [show (Ded.putL s.T a.session a.seq ⟨1, a.pos, N, (N:Int)+a.evs.length⟩).1 = s.T ++ [⟨a.session, a.seq, freshO s a⟩] by
            unfold Ded.putL
            rw [if_neg (by omega), HLK.out, HFO.out]; rfl] at hfin
          exact bodyPost_ret (v := .tuple #[.agg #[.int .i64 (1), .int .i64 (a.pos), .int .i64 (N), .int .i64 ((N:Int)+a.evs.length)], .int .i64 0]) (by simp [results, Tryz.results17, go_sem, q0, q1, q2, q3]) rfl ⟨rfl, by rw [HFL.out]; exact hfin⟩
        · have d2 : (a.expect == (N : Int)) = false := by simp [hx2]
          have HFL : Hid (freshL s a = s.L) := Lib.hid (by unfold freshL verS; rw [HN.out, if_pos ⟨hx1, hx2⟩])
          have HFO : Hid (freshO s a = ⟨2, a.pos, N, N⟩) := Lib.hid (by unfold freshO verS; rw [HN.out, if_pos ⟨hx1, hx2⟩])
          have he2 := HE2.out.trans HFO.out
          injection he2 with h1 h2 h3 h4
          subst h1 h2 h3 h4
          have HTAB := Lib.hid H6.out.tab
          have HXA : Hid (Idx.RefAt w5 x s.L (fun k => FX k ∨ (w5.heap.size ≤ k ∧ k < w5.heap.size))) := Lib.hid (by
            obtain ⟨v, q1, q2, q3, q4⟩ := H6.out.idx
            exact ⟨v, q1, q2.mono (fun _ _ h => .inl h), .inl q3, fun k hk => by rcases hk with hk | hk; exact q4 k hk; exact hk.2⟩)
          have HKA := Lib.hid (Keeps.refl (fun q => q = x) w5)
          have HKB := Lib.hid (Keeps.refl (fun q => q = wc.heap.size) w5)
          clear hx1 hx2
          go_upto_region 18 with (fail)
          have p1 : w5.cell? ⟨m, 1, none⟩ = some (.pointer (some ⟨t, 0, none⟩)) := cell_of_row w5 _ 1 _ _ _ HMB.out
          have s0 : w5.cell? ⟨w3.heap.size, 2, none⟩ = some (.int .i64 a.session) := cell_of_row w5 _ 2 _ _ _ HBB.out
          have s1 : w5.cell? ⟨w3.heap.size, 3, none⟩ = some (.int .i64 a.seq) := cell_of_row w5 _ 3 _ _ _ HBB.out
          have o0 : w5.cell? ⟨wc.heap.size, 0, none⟩ = some (.int .i64 (2)) := cell_of_row w5 _ 0 _ _ _ HOB.out
          have o1 : w5.cell? ⟨wc.heap.size, 1, none⟩ = some (.int .i64 (a.pos)) := cell_of_row w5 _ 1 _ _ _ HOB.out
          have o2 : w5.cell? ⟨wc.heap.size, 2, none⟩ = some (.int .i64 (N)) := cell_of_row w5 _ 2 _ _ _ HOB.out
          have o3 : w5.cell? ⟨wc.heap.size, 3, none⟩ = some (.int .i64 (N)) := cell_of_row w5 _ 3 _ _ _ HOB.out
          have HPUT := Lib.hid (Ded.rput_any w5.drew t s.T FT (HTAB.out.fresh (show Below w5.heap.size w5 w5.drew from ⟨rfl, rfl, rfl, Nat.le_refl _, fun _ _ => rfl⟩)) hTl a.session a.seq (by unfold Ded.i64; omega) (by unfold Ded.i64; omega) ⟨2, a.pos, N, N⟩)
          refine region_mid 9 rfl (by kernel_rfl) (by kernel_rfl) ?_
          simp only [List.take_succ_cons, List.take_zero, List.drop_succ_cons, List.drop_zero]
          change wpStill _ _ w5.drew _ _ _
          refine still_of_quiet ?_
          repeat (go_big_quiet_step (fail))
          refine wpQuiet_nil ?_
          change wpList _ _ _ _ _ w5.drew
          go_wp2_with fail
          refine HPUT.out.mono ?_
          rintro e w8 ⟨rfl, hK8, hT8⟩
          have hK8' : Keeps (fun q => q = t) w5 w8 := ((Keeps.refl (fun q => q = t) w5).drew).trans hK8
          have hgb := hK8'.grownTo HOB.out (by omega)
          have hz := hK8'.grownTo HZB.out (by omega)
          have v0 : w8.cell? ⟨wc.heap.size, 0, none⟩ = some (.int .i64 (2)) := cell_of_row w8 _ 0 _ _ _ hgb
          have v1 : w8.cell? ⟨wc.heap.size, 1, none⟩ = some (.int .i64 (a.pos)) := cell_of_row w8 _ 1 _ _ _ hgb
          have v2 : w8.cell? ⟨wc.heap.size, 2, none⟩ = some (.int .i64 (N)) := cell_of_row w8 _ 2 _ _ _ hgb
          have v3 : w8.cell? ⟨wc.heap.size, 3, none⟩ = some (.int .i64 (N)) := cell_of_row w8 _ 3 _ _ _ hgb
          have HK8 := Lib.hid hK8'
          have HT8 := Lib.hid hT8
          clear hK8 hK8' hT8 p1 s0 s1 o0 o1 o2 o3 hgb
          have z0 : w8.cell? ⟨w.heap.size+1, 0, none⟩ = some (.int .i64 (0)) := cell_of_row w8 _ 0 _ _ _ hz
          have z1 : w8.cell? ⟨w.heap.size+1, 1, none⟩ = some (.int .i64 (0)) := cell_of_row w8 _ 1 _ _ _ hz
          have z2 : w8.cell? ⟨w.heap.size+1, 2, none⟩ = some (.int .i64 (0)) := cell_of_row w8 _ 2 _ _ _ hz
          have z3 : w8.cell? ⟨w.heap.size+1, 3, none⟩ = some (.int .i64 (0)) := cell_of_row w8 _ 3 _ _ _ hz
          have f0 : w8.frozen? ⟨w.heap.size+1, 0, none⟩ = false := frozen_block hz 0
          have f1 : w8.frozen? ⟨w.heap.size+1, 1, none⟩ = false := frozen_block hz 1
          have f2 : w8.frozen? ⟨w.heap.size+1, 2, none⟩ = false := frozen_block hz 2
          have f3 : w8.frozen? ⟨w.heap.size+1, 3, none⟩ = false := frozen_block hz 3
          go_wp2_with fail
          unfold Go.Bl.Rest
          refine still_of_quiet ?_
          repeat (go_big_quiet_step (fail))
          refine wpQuiet_nil ?_
          go_wp2_with fail
          have hk4 := setCell_block' (o := 3) (v := .int .i64 (N)) (setCell_block' (o := 2) (v := .int .i64 (N)) (setCell_block' (o := 1) (v := .int .i64 (a.pos)) (setCell_block' (o := 0) (v := .int .i64 (2)) hz)))
          have hkS : Keeps (fun k => k = w.heap.size+1) w8 _ := (((Keeps.refl (fun k => k = w.heap.size+1) w8).setCell (p := ⟨w.heap.size+1, 0, none⟩) (fun _ => rfl) (.int .i64 (2))).setCell (p := ⟨w.heap.size+1, 1, none⟩) (fun _ => rfl) (.int .i64 (a.pos))).setCell (p := ⟨w.heap.size+1, 2, none⟩) (fun _ => rfl) (.int .i64 (N))
          have hkS := hkS.setCell (p := ⟨w.heap.size+1, 3, none⟩) (fun _ => rfl) (.int .i64 (N))
          generalize (((w8.setCell ⟨w.heap.size+1, 0, none⟩ (.int .i64 (2))).setCell ⟨w.heap.size+1, 1, none⟩ (.int .i64 (a.pos))).setCell ⟨w.heap.size+1, 2, none⟩ (.int .i64 (N))).setCell ⟨w.heap.size+1, 3, none⟩ (.int .i64 (N)) = w9 at hk4 hkS ⊢
          have q0 : w9.cell? ⟨w.heap.size+1, 0, none⟩ = some (.int .i64 (2)) := cell_of_row w9 _ 0 _ _ _ hk4
          have q1 : w9.cell? ⟨w.heap.size+1, 1, none⟩ = some (.int .i64 (a.pos)) := cell_of_row w9 _ 1 _ _ _ hk4
          have q2 : w9.cell? ⟨w.heap.size+1, 2, none⟩ = some (.int .i64 (N)) := cell_of_row w9 _ 2 _ _ _ hk4
          have q3 : w9.cell? ⟨w.heap.size+1, 3, none⟩ = some (.int .i64 (N)) := cell_of_row w9 _ 3 _ _ _ hk4
          have hfin := MApplied.put H6.out hFlt.out HK6.out (by omega) HGL.out (by omega) HZL.out HKA.out HXA.out HKB.out HK8.out HT8.out hkS
          rw [show (Ded.putL s.T a.session a.seq ⟨2, a.pos, N, N⟩).1 = s.T ++ [⟨a.session, a.seq, freshO s a⟩] by
            unfold Ded.putL
            rw [if_neg (by omega), HLK.out, HFO.out]; rfl] at hfin
          exact bodyPost_ret (v := .tuple #[.agg #[.int .i64 (2), .int .i64 (a.pos), .int .i64 (N), .int .i64 (N)], .int .i64 0]) (by simp [results, Tryz.results17, go_sem, q0, q1, q2, q3]) rfl ⟨rfl, by rw [HFL.out]; exact hfin⟩
end Go.Proofs.YthdcnknjjbdefaaGreatDoor
