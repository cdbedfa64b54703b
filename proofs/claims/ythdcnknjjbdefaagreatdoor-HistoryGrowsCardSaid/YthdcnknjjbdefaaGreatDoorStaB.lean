/- The state: Apply. Under the stated premises on sizes, and the tables that utf8 lays. -/
import Derived.Test.YthdcnknjjbdefaaGreatDoorStaA
import Derived.Deep.RegionHeld3
import Derived.Deep.DrawnRows
import Derived.Deep.CutBlock
import Derived.Deep.DeepCutAuto
import Derived.BigQuiet
namespace Go.Proofs.YthdcnknjjbdefaaGreatDoor
open Go.RowKit Go.Bl
attribute [local go_sem ↓] Go.wp_at_zero Go.wp_at_succ

/-- What 'o, is := t.Look(..)' leaves. -/
def SawCut (w : World) (a b c d i : Int) (s1 s2 : Value) (wx : World) : Prop :=
  ∃ g, s1 = .pointer (some ⟨g, 0, none⟩) ∧ s2 = .int .i64 i ∧ w.heap.size ≤ g ∧ wx.heap[g]? = some (.cells #[.int .i64 a, .int .i64 b, .int .i64 c, .int .i64 d] 34 (0, 0)) ∧ Below w.heap.size w wx
theorem SawCut.new {w w2 : World} {a b c d i : Int} (hB : Below w.heap.size w w2) :
    SawCut w a b c d i (.pointer (some ⟨w2.heap.size, 0, none⟩)) (.int .i64 i) (w2.alloc (.cells #[.int .i64 a, .int .i64 b, .int .i64 c, .int .i64 d] 34)) :=
  ⟨_, rfl, rfl, hB.size, heap_alloc_new w2 _, hB.alloc hB.size _⟩
theorem SawCut.old {w w2 : World} {r1 r2 r3 r4 i : Int} {a b c d : Value} (hB : Below w.heap.size w w2) (hblk : w2.heap[w.heap.size]? = some (.cells #[a, b, c, d] 34 (0, 0))) :
    SawCut w r1 r2 r3 r4 i (.pointer (some ⟨w.heap.size, 0, none⟩)) (.int .i64 i) ((((w2.setCell ⟨w.heap.size, 0, none⟩ (.int .i64 r1)).setCell ⟨w.heap.size, 1, none⟩ (.int .i64 r2)).setCell ⟨w.heap.size, 2, none⟩ (.int .i64 r3)).setCell ⟨w.heap.size, 3, none⟩ (.int .i64 r4)) := by
  have hks : Keeps (fun q => q = w.heap.size) w2 _ := ((((Keeps.refl (fun q => q = w.heap.size) w2).setCell (p := ⟨w.heap.size, 0, none⟩) (fun _ => rfl) (.int .i64 r1)).setCell (p := ⟨w.heap.size, 1, none⟩) (fun _ => rfl) (.int .i64 r2)).setCell (p := ⟨w.heap.size, 2, none⟩) (fun _ => rfl) (.int .i64 r3)).setCell (p := ⟨w.heap.size, 3, none⟩) (fun _ => rfl) (.int .i64 r4)
  exact ⟨_, rfl, rfl, Nat.le_refl _, setCell_block' (o := 3) (setCell_block' (o := 2) (setCell_block' (o := 1) (setCell_block' (o := 0) hblk _) _) _) _, hB.trans (hks.below hB.size (fun q hq => by omega))⟩

/-- What an entry leaves. -/
def Applied (w w' : World) (p : Nat) (s' : St) (F W : Nat → Prop) : Prop :=
  ∃ W', (∀ k, W' k → W k ∨ w.heap.size ≤ k) ∧ StAt w' p s' (fun k => F k ∨ (w.heap.size ≤ k ∧ k < w'.heap.size)) W' ∧ Keeps W w w'
theorem StIn.wide {w : World} {p px pt : Nat} {s : St} {F W FX FT GT : Nat → Prop} (h : StIn w p s F W px pt FX FT GT) (b : Nat) : StIn w p s (fun k => F k ∨ (b ≤ k ∧ k < w.heap.size)) W px pt FX FT GT :=
  ⟨h.blk, h.idx, h.tab, h.xt, h.npx, h.npt, h.wx, h.wt, h.wp, h.tw, fun k hk => .inl (h.ft k hk), fun k hk => .inl (h.wf k hk), fun k hk => by
    rcases hk with hk | hk
    · exact h.lt k hk
    · exact hk.2⟩
theorem StIn.at_ {w w' : World} {p px pt : Nat} {s : St} {F W FX FT GT : Nat → Prop} {ap : Int} (h : StIn w p s F W px pt FX FT GT) (hk : Keeps (fun k => k = p) w w') (hb : w'.heap[p]? = some (.cells #[.pointer (some ⟨px, 0, none⟩), .pointer (some ⟨pt, 0, none⟩), .int .i64 ap] 120 (0, 0))) : StIn w' p ⟨s.L, s.T, ap⟩ F W px pt FX FT GT :=
  ⟨hb, h.idx.keep hk (fun _ hk e => h.npx (e ▸ hk)), h.tab.keep hk (fun _ hk e => h.npt (e ▸ hk)), h.xt, h.npx, h.npt, h.wx, h.wt, h.wp, h.tw, h.ft, h.wf, fun k hF => Nat.lt_of_lt_of_le (h.lt k hF) hk.size⟩
theorem Applied.same {w w' : World} {p px pt : Nat} {s : St} {F W FX FT GT : Nat → Prop} (h : StIn w' p s F W px pt FX FT GT) (hk : Keeps W w w') : Applied w w' p s F W :=
  ⟨W, fun _ h => .inl h, ⟨px, pt, FX, FT, GT, h.wide w.heap.size⟩, hk⟩

theorem Applied.put {w wc w5 w6 w7 w8 : World} {p px pt g r : Nat} {s1 : St} {L' : List Idx.One} {T' : List Ded.En} {F W FX FT GT GT' : Nat → Prop}
    (h4 : StIn wc p s1 F W px pt FX FT GT) (hF : ∀ k, F k → k < w.heap.size) (K : Keeps W w wc) (hg : w.heap.size ≤ g) (hgc : g < wc.heap.size) (hr : w.heap.size ≤ r) (hrc : r < wc.heap.size)
    (k5 : Keeps FX wc w5) (x5 : Idx.IdxAt w5 px L' (fun k => FX k ∨ (wc.heap.size ≤ k ∧ k < w5.heap.size))) (k6 : Keeps (fun k => k = g) w5 w6)
    (k7 : Keeps GT w6 w7) (g7 : ∀ k, GT' k → GT k ∨ w6.heap.size ≤ k) (t7 : Ded.TabAt w7 pt T' (fun k => FT k ∨ (w6.heap.size ≤ k ∧ k < w7.heap.size)) GT') (k8 : Keeps (fun k => k = r) w7 w8) : Applied w w8 p ⟨L', T', s1.ap⟩ F W := by
  have z0 := K.size
  have z5 := k5.size
  have z6 := k6.size
  have z7 := k7.size
  have z8 := k8.size
  have lX : ∀ k, FX k → k < w.heap.size := fun k hk => hF k (h4.wf k (h4.wx k hk))
  have lT : ∀ k, FT k → k < w.heap.size := fun k hk => hF k (h4.ft k hk)
  have gT : ∀ k, GT k → FT k := by obtain ⟨bm, R, h, _⟩ := h4.tab; exact h.gf
  have gT' : ∀ k, GT' k → FT k ∨ (w6.heap.size ≤ k ∧ k < w7.heap.size) := by obtain ⟨bm, R, h, _⟩ := t7; exact h.gf
  have hp := hF p (h4.wf p h4.wp)
  refine ⟨fun k => (FX k ∨ (wc.heap.size ≤ k ∧ k < w5.heap.size)) ∨ GT' k ∨ k = p, ?_, ⟨px, pt, fun k => FX k ∨ (wc.heap.size ≤ k ∧ k < w5.heap.size), fun k => FT k ∨ (w6.heap.size ≤ k ∧ k < w7.heap.size), GT', ?_, ?_, ?_, ?_, ?_, ?_, ?_, ?_, ?_, ?_, ?_, ?_, ?_⟩, ?_⟩
  · rintro k ((hk | hk) | hk | hk)
    · exact .inl (h4.wx k hk)
    · exact .inr (by omega)
    · rcases g7 k hk with hk | hk
      · exact .inl (h4.wt k hk)
      · exact .inr (by omega)
    · exact .inl (hk ▸ h4.wp)
  · exact k8.grownTo (k7.grownTo (k6.grownTo (k5.grownTo h4.blk h4.npx) (by omega)) (fun e => h4.npt (gT _ e))) (by omega)
  · refine ((x5.keep k6 ?_).keep k7 ?_).keep k8 ?_
    · rintro k (hk | hk) e
      · have := lX k hk; omega
      · omega
    · rintro k (hk | hk) e
      · exact h4.xt k hk (gT k e)
      · have := lT k (gT k e); omega
    · rintro k (hk | hk) e
      · have := lX k hk; omega
      · omega
  · refine t7.keep k8 ?_
    rintro k (hk | hk) e
    · have := lT k hk; omega
    · omega
  · rintro k (hk | hk) (e | e)
    · exact h4.xt k hk e
    · have := lX k hk; omega
    · have := lT k e; omega
    · omega
  · rintro (e | e)
    · exact h4.npx e
    · omega
  · rintro (e | e)
    · exact h4.npt e
    · omega
  · exact fun k hk => .inl hk
  · exact fun k hk => .inr (.inl hk)
  · exact .inr (.inr rfl)
  · rintro k hk ((e | e) | e | e)
    · rcases hk with hk | hk
      · exact absurd hk (h4.xt k e)
      · have := lX k e; omega
    · rcases hk with hk | hk
      · have := lT k hk; omega
      · omega
    · exact e
    · subst e
      rcases hk with hk | hk
      · exact absurd hk h4.npt
      · omega
  · rintro k (hk | hk)
    · exact .inl (h4.ft k hk)
    · exact .inr (by omega)
  · rintro k ((hk | hk) | hk | hk)
    · exact .inl (h4.wf k (h4.wx k hk))
    · exact .inr (by omega)
    · rcases gT' k hk with hk | hk
      · exact .inl (h4.ft k hk)
      · exact .inr (by omega)
    · exact .inl (hk ▸ h4.wf p h4.wp)
  · rintro k (hk | hk)
    · have := hF k hk; omega
    · exact hk.2
  · exact (((K.andThen k5 (fun i _ e => h4.wx i e)).andThen k6 (fun i hi e => by omega)).andThen k7 (fun i _ e => h4.wt i e)).andThen k8 (fun i hi e => by omega)

set_option maxRecDepth 10000 in
set_option maxHeartbeats 4000000 in
theorem apply_any (w : World) (hT : Tabs w) (p : Nat) (s : St) (F W : Nat → Prop) (h : StAt w p s F W) (G : Nat → Prop) (a : Ent) (hb : BatchOk w G a) (hG : ∀ b, G b → ¬ W b) (hap : 0 ≤ s.ap ∧ s.ap ≤ 1000000000000) (hL : s.L.length + a.evs.length ≤ 1000000) (hTl : s.T.length ≤ 1000000) :
    Calls Tryz.prog 52 #[.pointer (some ⟨p, 0, none⟩), .agg #[.int .i64 a.pos, .int .i64 a.epoch, .string a.stream, .int .i64 a.expect, .int .i64 a.session, .int .i64 a.seq, a.evv]] w fun e w' =>
      e = .returned (.tuple #[.agg #[.int .i64 (applyS s a).2.1.code, .int .i64 (applyS s a).2.1.pos, .int .i64 (applyS s a).2.1.first, .int .i64 (applyS s a).2.1.ver], .int .i64 (applyS s a).2.2]) ∧ Applied w w' p (applyS s a).1 F W := by
  obtain ⟨px, pt, FX, FT, GT, h⟩ := h
  obtain ⟨A, c, hv, hA1, hA2⟩ := hb.1.shape
  unfold maxLen at hA2
  rcases hr : applyS s a with ⟨s', ⟨r1, r2, r3, r4⟩, r5⟩
  have HR := Lib.hid hr
  clear hr
  have hB0 : Below w.heap.size w ((w.alloc (.cells #[.int .i64 a.pos, .int .i64 a.epoch, .string a.stream, .int .i64 a.expect, .int .i64 a.session, .int .i64 a.seq, .slice A a.evs.length c] 55)).alloc (.cells #[.int .i64 0, .int .i64 0, .int .i64 0, .int .i64 0] 34)) :=
    ((Below.refl _ w).alloc (Nat.le_refl _) _).alloc (by simp) _
  have hb1 := heap_alloc_new w (.cells #[.int .i64 a.pos, .int .i64 a.epoch, .string a.stream, .int .i64 a.expect, .int .i64 a.session, .int .i64 a.seq, .slice A a.evs.length c] 55)
  have hb1' := (Keeps.of_fresh ((Below.refl _ (w.alloc (.cells #[.int .i64 a.pos, .int .i64 a.epoch, .string a.stream, .int .i64 a.expect, .int .i64 a.session, .int .i64 a.seq, .slice A a.evs.length c] 55))).alloc (Nat.le_refl _) (.cells #[.int .i64 0, .int .i64 0, .int .i64 0, .int .i64 0] 34)) (fun _ => False)).grownTo hb1 id
  clear hb1
  have hb1 := hb1'
  clear hb1'
  have hz := heap_alloc_new (w.alloc (.cells #[.int .i64 a.pos, .int .i64 a.epoch, .string a.stream, .int .i64 a.expect, .int .i64 a.session, .int .i64 a.seq, .slice A a.evs.length c] 55)) (.cells #[.int .i64 0, .int .i64 0, .int .i64 0, .int .i64 0] 34)
  rw [World.size_alloc] at hz
  have H := Lib.hid h
  have HT := Lib.hid hT
  have HG := Lib.hid hG
  have HBt := Lib.hid hb
  have HV := Lib.hid hv
  have hright := fun (wz : World) (hz : Below w.heap.size w wz) => right_any wz (hT.fresh hz) G a (hb.fresh hz)
  rw [hv] at hright ⊢
  have HRi := Lib.hid hright
  clear h hT hG hb hv hright
  go_enter Tryz.func52, Tryz.ntmps52
  go_upto_region 1 with (fail)
  generalize ((w.alloc (.cells #[.int .i64 a.pos, .int .i64 a.epoch, .string a.stream, .int .i64 a.expect, .int .i64 a.session, .int .i64 a.seq, .slice A a.evs.length c] 55)).alloc (.cells #[.int .i64 0, .int .i64 0, .int .i64 0, .int .i64 0] 34)) = w1 at hB0 hb1 hz ⊢
  have HB0 := Lib.hid hB0
  have y0 : w1.cell? ⟨w.heap.size, 0, none⟩ = some (.int .i64 a.pos) := cell_of_row w1 _ 0 _ _ _ hb1
  have y1 : w1.cell? ⟨w.heap.size, 1, none⟩ = some (.int .i64 a.epoch) := cell_of_row w1 _ 1 _ _ _ hb1
  have y2 : w1.cell? ⟨w.heap.size, 2, none⟩ = some (.string a.stream) := cell_of_row w1 _ 2 _ _ _ hb1
  have y3 : w1.cell? ⟨w.heap.size, 3, none⟩ = some (.int .i64 a.expect) := cell_of_row w1 _ 3 _ _ _ hb1
  have y4 : w1.cell? ⟨w.heap.size, 4, none⟩ = some (.int .i64 a.session) := cell_of_row w1 _ 4 _ _ _ hb1
  have y5 : w1.cell? ⟨w.heap.size, 5, none⟩ = some (.int .i64 a.seq) := cell_of_row w1 _ 5 _ _ _ hb1
  have y6 : w1.cell? ⟨w.heap.size, 6, none⟩ = some (.slice A a.evs.length c) := cell_of_row w1 _ 6 _ _ _ hb1
  have Hb1 := Lib.hid hb1
  have Hz := Lib.hid hz
  clear hB0 hb1 hz
  go_wp2_with fail
  refine (HRi.out w1 HB0.out).mono ?_
  rintro e w2 ⟨rfl, hB2⟩
  have hb1 := (Keeps.of_fresh hB2 (fun _ => False)).grownTo Hb1.out id
  have hz := (Keeps.of_fresh hB2 (fun _ => False)).grownTo Hz.out id
  have HB2 := Lib.hid (HB0.out.trans (hB2.mono HB0.out.size))
  clear hB2 y0 y1 y2 y3 y4 y5 y6 Hb1 Hz
  have hwlt : w.heap.size + 1 < w2.heap.size := (Array.getElem?_eq_some_iff.1 hz).1
  have H2 := Lib.hid (H.out.fresh HB2.out)
  have hFlt := Lib.hid H.out.lt
  have z0 : w2.cell? ⟨w.heap.size + 1, 0, none⟩ = some (.int .i64 0) := cell_of_row w2 _ 0 _ _ _ hz
  have z1 : w2.cell? ⟨w.heap.size + 1, 1, none⟩ = some (.int .i64 0) := cell_of_row w2 _ 1 _ _ _ hz
  have z2 : w2.cell? ⟨w.heap.size + 1, 2, none⟩ = some (.int .i64 0) := cell_of_row w2 _ 2 _ _ _ hz
  have z3 : w2.cell? ⟨w.heap.size + 1, 3, none⟩ = some (.int .i64 0) := cell_of_row w2 _ 3 _ _ _ hz
  have f0 : w2.frozen? ⟨w.heap.size + 1, 0, none⟩ = false := frozen_block hz 0
  have f1 : w2.frozen? ⟨w.heap.size + 1, 1, none⟩ = false := frozen_block hz 1
  have f2 : w2.frozen? ⟨w.heap.size + 1, 2, none⟩ = false := frozen_block hz 2
  have f3 : w2.frozen? ⟨w.heap.size + 1, 3, none⟩ = false := frozen_block hz 3
  cases hri : rightB a
  · have he : (s', (⟨r1, r2, r3, r4⟩ : Ded.Oc), r5) = (s, Ded.oc0, 1) := by
      rw [← HR.out]; unfold applyS; rw [if_pos hri]
    injection he with he1 he2
    injection he2 with he2 he3
    injection he2 with e1 e2 e3 e4
    subst he1 he3 e1 e2 e3 e4
    go_wp2_with fail
    have hk4 := setCell_block' (o := 3) (v := .int .i64 (0)) (setCell_block' (o := 2) (v := .int .i64 (0)) (setCell_block' (o := 1) (v := .int .i64 (0)) (setCell_block' (o := 0) (v := .int .i64 (0)) hz)))
    have hkS : Keeps (fun k => k = w.heap.size+1) w2 _ := (((Keeps.refl (fun k => k = w.heap.size+1) w2).setCell (p := ⟨w.heap.size+1, 0, none⟩) (fun _ => rfl) (.int .i64 (0))).setCell (p := ⟨w.heap.size+1, 1, none⟩) (fun _ => rfl) (.int .i64 (0))).setCell (p := ⟨w.heap.size+1, 2, none⟩) (fun _ => rfl) (.int .i64 (0))
    have hkS := hkS.setCell (p := ⟨w.heap.size+1, 3, none⟩) (fun _ => rfl) (.int .i64 (0))
    generalize (((w2.setCell ⟨w.heap.size+1, 0, none⟩ (.int .i64 (0))).setCell ⟨w.heap.size+1, 1, none⟩ (.int .i64 (0))).setCell ⟨w.heap.size+1, 2, none⟩ (.int .i64 (0))).setCell ⟨w.heap.size+1, 3, none⟩ (.int .i64 (0)) = w3 at hk4 hkS ⊢
    have q0 : w3.cell? ⟨w.heap.size+1, 0, none⟩ = some (.int .i64 (0)) := cell_of_row w3 _ 0 _ _ _ hk4
    have q1 : w3.cell? ⟨w.heap.size+1, 1, none⟩ = some (.int .i64 (0)) := cell_of_row w3 _ 1 _ _ _ hk4
    have q2 : w3.cell? ⟨w.heap.size+1, 2, none⟩ = some (.int .i64 (0)) := cell_of_row w3 _ 2 _ _ _ hk4
    have q3 : w3.cell? ⟨w.heap.size+1, 3, none⟩ = some (.int .i64 (0)) := cell_of_row w3 _ 3 _ _ _ hk4
    exact bodyPost_ret (v := .tuple #[.agg #[.int .i64 0, .int .i64 0, .int .i64 0, .int .i64 0], .int .i64 1]) (by simp [results, Tryz.results52, go_sem, q0, q1, q2, q3]) rfl ⟨rfl, Applied.same (H2.out.keep hkS (fun k hk e => by have := hFlt.out k hk; omega)) ((Keeps.of_fresh HB2.out W).andThen hkS (fun i hi e => by omega))⟩
  have c2 := H2.out.c2
  have y0 : w2.cell? ⟨w.heap.size, 0, none⟩ = some (.int .i64 a.pos) := cell_of_row w2 _ 0 _ _ _ hb1
  by_cases hp : a.pos ≠ s.ap + 1
  · have d1 : (a.pos != s.ap + 1) = true := by simp [hp]
    have he : (s', (⟨r1, r2, r3, r4⟩ : Ded.Oc), r5) = (s, Ded.oc0, 11) := by
      rw [← HR.out]; unfold applyS; rw [if_neg (by rw [hri]; decide), if_pos hp]
    injection he with he1 he2
    injection he2 with he2 he3
    injection he2 with e1 e2 e3 e4
    subst he1 he3 e1 e2 e3 e4
    clear hp
    go_wp2_with fail
    go_quiet (fail)
    go_wp2_with fail
    have hz : (w2.drewN nq).heap[w.heap.size + 1]? = some (.cells #[.int .i64 0, .int .i64 0, .int .i64 0, .int .i64 0] 34 (0, 0)) := hz
    have hk4 := setCell_block' (o := 3) (v := .int .i64 (0)) (setCell_block' (o := 2) (v := .int .i64 (0)) (setCell_block' (o := 1) (v := .int .i64 (0)) (setCell_block' (o := 0) (v := .int .i64 (0)) hz)))
    have hkS : Keeps (fun k => k = w.heap.size+1) (w2.drewN nq) _ := (((Keeps.refl (fun k => k = w.heap.size+1) (w2.drewN nq)).setCell (p := ⟨w.heap.size+1, 0, none⟩) (fun _ => rfl) (.int .i64 (0))).setCell (p := ⟨w.heap.size+1, 1, none⟩) (fun _ => rfl) (.int .i64 (0))).setCell (p := ⟨w.heap.size+1, 2, none⟩) (fun _ => rfl) (.int .i64 (0))
    have hkS := hkS.setCell (p := ⟨w.heap.size+1, 3, none⟩) (fun _ => rfl) (.int .i64 (0))
    generalize ((((w2.drewN nq).setCell ⟨w.heap.size+1, 0, none⟩ (.int .i64 (0))).setCell ⟨w.heap.size+1, 1, none⟩ (.int .i64 (0))).setCell ⟨w.heap.size+1, 2, none⟩ (.int .i64 (0))).setCell ⟨w.heap.size+1, 3, none⟩ (.int .i64 (0)) = w3 at hk4 hkS ⊢
    have q0 : w3.cell? ⟨w.heap.size+1, 0, none⟩ = some (.int .i64 (0)) := cell_of_row w3 _ 0 _ _ _ hk4
    have q1 : w3.cell? ⟨w.heap.size+1, 1, none⟩ = some (.int .i64 (0)) := cell_of_row w3 _ 1 _ _ _ hk4
    have q2 : w3.cell? ⟨w.heap.size+1, 2, none⟩ = some (.int .i64 (0)) := cell_of_row w3 _ 2 _ _ _ hk4
    have q3 : w3.cell? ⟨w.heap.size+1, 3, none⟩ = some (.int .i64 (0)) := cell_of_row w3 _ 3 _ _ _ hk4
    exact bodyPost_ret (v := .tuple #[.agg #[.int .i64 0, .int .i64 0, .int .i64 0, .int .i64 0], .int .i64 11]) (by simp [results, Tryz.results52, go_sem, q0, q1, q2, q3]) rfl ⟨rfl, Applied.same ((H2.out.fresh (show Below w2.heap.size w2 (w2.drewN nq) from ⟨rfl, rfl, rfl, Nat.le_refl _, fun _ _ => rfl⟩)).keep hkS (fun k hk e => by have := hFlt.out k hk; omega)) ((Keeps.drewN (Keeps.of_fresh HB2.out W) nq).andThen hkS (fun i hi e => by omega))⟩
  have hp : a.pos = s.ap + 1 := Decidable.byContradiction hp
  have d1 : (a.pos != s.ap + 1) = false := by simp [hp]
  have HP := Lib.hid hp
  clear hp
  go_wp2_with fail
  go_quiet (fail)
  have fp2 : (w2.drewN nq).frozen? ⟨p, 2, none⟩ = false := frozen_block (w := w2) H2.out.blk 2
  go_upto_region 6 with (fail)
  have hpl : p < w.heap.size := hFlt.out _ (H.out.wf _ H.out.wp)
  have hk3 : Keeps (fun k => k = p) w2 _ := ((Keeps.refl (fun k => k = p) w2).drewN nq).setCell (p := ⟨p, 2, none⟩) (fun _ => rfl) (.int .i64 a.pos)
  have hb3 := setCell_block' (o := 2) (v := .int .i64 a.pos) (show (w2.drewN nq).heap[p]? = _ from H2.out.blk)
  generalize (w2.drewN nq).setCell ⟨p, 2, none⟩ (.int .i64 a.pos) = w3 at hk3 hb3 ⊢
  have H3 := Lib.hid (H2.out.at_ (ap := a.pos) hk3 hb3)
  have hb1 := hk3.grownTo hb1 (by omega)
  have hz := hk3.grownTo hz (by omega)
  have HK3 := Lib.hid ((Keeps.of_fresh HB2.out W).andThen hk3 (fun i hi e => e ▸ H.out.wp))
  clear z0 z1 z2 z3 f0 f1 f2 f3 c2 y0 hk3 hb3 fp2 d1
  have x0 : w3.cell? ⟨w.heap.size, 4, none⟩ = some (.int .i64 a.session) := cell_of_row w3 _ 4 _ _ _ hb1
  have x1 : w3.cell? ⟨w.heap.size, 5, none⟩ = some (.int .i64 a.seq) := cell_of_row w3 _ 5 _ _ _ hb1
  have x2 := H3.out.c1
  obtain ⟨_, _, ⟨hs1, hs2⟩, ⟨hq1, hq2⟩, _⟩ := right_nums hri
  have hnew0 := World.new_ne w3 _ x0
  have hnew1 := World.new_ne w3 _ x1
  have hnew2 := World.new_ne w3 _ x2
  have hbw0 := World.block_lt_of_cell? _ _ x0
  have hpw3 : p < w3.heap.size := World.block_lt_of_cell? _ _ x2
  have Hb1 := Lib.hid hb1
  have Hz := Lib.hid hz
  clear hb1 hz
  rcases hlk : Ded.lookL s.T a.session a.seq with ⟨⟨l1, l2, l3, l4⟩, l5⟩
  have hlook := fun (wz : World) (hz : Below w3.heap.size w3 wz) => Ded.look_any wz pt s.T FT GT (H3.out.fresh hz).tab a.session a.seq (by unfold Ded.i64; omega) (by unfold Ded.i64; omega)
  rw [hlk] at hlook
  have HLOOK := Lib.hid hlook
  have HLK := Lib.hid hlk
  clear hlook hlk
  go_cut [6, 7] (fun s6 s7 wx => SawCut w3 l1 l2 l3 l4 l5 s6 s7 wx)
  case first =>
    have hWd : Below w3.heap.size w3 w3.drew := ⟨rfl, rfl, rfl, Nat.le_refl _, fun _ _ => rfl⟩
    clear hap hL hTl hA1 hA2 hri hs1 hs2 hq1 hq2 hwlt
    go_wp2_with fail
    go_region_held3 (fun x => x.cell? ⟨w.heap.size, 4, none⟩ = some (.int .i64 a.session) ∧ x.cell? ⟨w.heap.size, 5, none⟩ = some (.int .i64 a.seq) ∧ x.cell? ⟨p, 1, none⟩ = some (.pointer (some ⟨pt, 0, none⟩)))
      (first | exact ⟨by assumption, by assumption, by assumption⟩ | go_keep)
      (first
        | (go_at_call 64
           refine (HLOOK.out _ (by first | exact hWd | exact hWd.alloc (Nat.le_refl _) _)).mono ?_
           rintro e w4 ⟨he, hB4⟩
           obtain rfl : e = .returned (.tuple #[.agg #[.int .i64 l1, .int .i64 l2, .int .i64 l3, .int .i64 l4], .int .i64 l5]) := he
           have hz4 := hB4.size
           have hB4' : Below w3.heap.size w3 w4 := by
             first
             | exact hWd.trans hB4
             | exact (hWd.alloc (Nat.le_refl _) _).trans (hB4.mono (by simp))
           try
             (have hblk := (Keeps.of_fresh hB4 (fun _ => False)).grownTo (heap_alloc_new w3.drew (.cells #[.int .i64 0, .int .i64 0, .int .i64 0, .int .i64 0] 34)) id
              have q0 : w4.cell? ⟨w3.heap.size, 0, none⟩ = some (.int .i64 0) := cell_of_row w4 _ 0 _ _ _ hblk
              have q1 : w4.cell? ⟨w3.heap.size, 1, none⟩ = some (.int .i64 0) := cell_of_row w4 _ 1 _ _ _ hblk
              have q2 : w4.cell? ⟨w3.heap.size, 2, none⟩ = some (.int .i64 0) := cell_of_row w4 _ 2 _ _ _ hblk
              have q3 : w4.cell? ⟨w3.heap.size, 3, none⟩ = some (.int .i64 0) := cell_of_row w4 _ 3 _ _ _ hblk
              have f0 : w4.frozen? ⟨w3.heap.size, 0, none⟩ = false := frozen_block hblk 0
              have f1 : w4.frozen? ⟨w3.heap.size, 1, none⟩ = false := frozen_block hblk 1
              have f2 : w4.frozen? ⟨w3.heap.size, 2, none⟩ = false := frozen_block hblk 2
              have f3 : w4.frozen? ⟨w3.heap.size, 3, none⟩ = false := frozen_block hblk 3
              have HBLK := Lib.hid hblk
              clear hblk)
           have HB4 := Lib.hid hB4'
           have v0 := (hB4'.cell (p := ⟨w.heap.size, 4, none⟩) hbw0).trans x0
           have v1 := (hB4'.cell (p := ⟨w.heap.size, 5, none⟩) hbw0).trans x1
           have v2 := (hB4'.cell (p := ⟨p, 1, none⟩) hpw3).trans x2
           clear hB4 hB4'))
    all_goals go_wp2_with fail
    all_goals go_meet
    · exact SawCut.new HB4.out
    · exact SawCut.old HB4.out HBLK.out
  case rest =>
    obtain ⟨g, rfl, rfl, hg, hgb, hB4⟩ := hcut
    have HB4 := Lib.hid hB4
    have H4 := Lib.hid (H3.out.fresh hB4)
    have HK4 := Lib.hid (HK3.out.fresh hB4)
    have hb1 := (Keeps.of_fresh hB4 (fun _ => False)).grownTo Hb1.out id
    have hz := (Keeps.of_fresh hB4 (fun _ => False)).grownTo Hz.out id
    have Hgb := Lib.hid hgb
    have hgl := (Array.getElem?_eq_some_iff.1 hgb).1
    have hzl := (Array.getElem?_eq_some_iff.1 hz).1
    have hgw : w.heap.size + 1 < g := Nat.lt_of_lt_of_le (Array.getElem?_eq_some_iff.1 Hz.out).1 hg
    have hg0 : wc.cell? ⟨g, 0, none⟩ = some (.int .i64 l1) := cell_of_row wc _ 0 _ _ _ hgb
    have hg1 : wc.cell? ⟨g, 1, none⟩ = some (.int .i64 l2) := cell_of_row wc _ 1 _ _ _ hgb
    have hg2 : wc.cell? ⟨g, 2, none⟩ = some (.int .i64 l3) := cell_of_row wc _ 2 _ _ _ hgb
    have hg3 : wc.cell? ⟨g, 3, none⟩ = some (.int .i64 l4) := cell_of_row wc _ 3 _ _ _ hgb
    clear hB4 hgb x0 x1 x2 hnew0 hnew1 hnew2 hbw0 hpw3 Hb1 Hz
    have y0 : wc.cell? ⟨w.heap.size, 0, none⟩ = some (.int .i64 a.pos) := cell_of_row wc _ 0 _ _ _ hb1
    have z0 : wc.cell? ⟨w.heap.size + 1, 0, none⟩ = some (.int .i64 0) := cell_of_row wc _ 0 _ _ _ hz
    have z1 : wc.cell? ⟨w.heap.size + 1, 1, none⟩ = some (.int .i64 0) := cell_of_row wc _ 1 _ _ _ hz
    have z2 : wc.cell? ⟨w.heap.size + 1, 2, none⟩ = some (.int .i64 0) := cell_of_row wc _ 2 _ _ _ hz
    have z3 : wc.cell? ⟨w.heap.size + 1, 3, none⟩ = some (.int .i64 0) := cell_of_row wc _ 3 _ _ _ hz
    have f0 : wc.frozen? ⟨w.heap.size + 1, 0, none⟩ = false := frozen_block hz 0
    have f1 : wc.frozen? ⟨w.heap.size + 1, 1, none⟩ = false := frozen_block hz 1
    have f2 : wc.frozen? ⟨w.heap.size + 1, 2, none⟩ = false := frozen_block hz 2
    have f3 : wc.frozen? ⟨w.heap.size + 1, 3, none⟩ = false := frozen_block hz 3
    rcases apply_next hri HP.out with ⟨o, e1, _, _, e⟩ | ⟨e2, _, e⟩ | ⟨e0, _, _, e⟩
    · rw [HLK.out] at e1
      rw [HR.out] at e
      injection e1 with e11 e12
      subst e12
      injection e with he1 he2
      injection he2 with he2 he3
      rw [← e11] at he2
      injection he2 with h1 h2 h3 h4
      subst he1 he3 h1 h2 h3 h4
      clear e11
      go_wp2_with fail
      have hk4 := setCell_block' (o := 3) (v := .int .i64 (r4)) (setCell_block' (o := 2) (v := .int .i64 (r3)) (setCell_block' (o := 1) (v := .int .i64 (r2)) (setCell_block' (o := 0) (v := .int .i64 (r1)) hz)))
      have hkS : Keeps (fun k => k = w.heap.size+1) wc _ := (((Keeps.refl (fun k => k = w.heap.size+1) wc).setCell (p := ⟨w.heap.size+1, 0, none⟩) (fun _ => rfl) (.int .i64 (r1))).setCell (p := ⟨w.heap.size+1, 1, none⟩) (fun _ => rfl) (.int .i64 (r2))).setCell (p := ⟨w.heap.size+1, 2, none⟩) (fun _ => rfl) (.int .i64 (r3))
      have hkS := hkS.setCell (p := ⟨w.heap.size+1, 3, none⟩) (fun _ => rfl) (.int .i64 (r4))
      generalize (((wc.setCell ⟨w.heap.size+1, 0, none⟩ (.int .i64 (r1))).setCell ⟨w.heap.size+1, 1, none⟩ (.int .i64 (r2))).setCell ⟨w.heap.size+1, 2, none⟩ (.int .i64 (r3))).setCell ⟨w.heap.size+1, 3, none⟩ (.int .i64 (r4)) = w5 at hk4 hkS ⊢
      have q0 : w5.cell? ⟨w.heap.size+1, 0, none⟩ = some (.int .i64 (r1)) := cell_of_row w5 _ 0 _ _ _ hk4
      have q1 : w5.cell? ⟨w.heap.size+1, 1, none⟩ = some (.int .i64 (r2)) := cell_of_row w5 _ 1 _ _ _ hk4
      have q2 : w5.cell? ⟨w.heap.size+1, 2, none⟩ = some (.int .i64 (r3)) := cell_of_row w5 _ 2 _ _ _ hk4
      have q3 : w5.cell? ⟨w.heap.size+1, 3, none⟩ = some (.int .i64 (r4)) := cell_of_row w5 _ 3 _ _ _ hk4
      exact bodyPost_ret (v := .tuple #[.agg #[.int .i64 r1, .int .i64 r2, .int .i64 r3, .int .i64 r4], .int .i64 0]) (by simp [results, Tryz.results52, go_sem, q0, q1, q2, q3]) rfl ⟨rfl, Applied.same (H4.out.keep hkS (fun k hk e => by have := hFlt.out k hk; omega)) (HK4.out.andThen hkS (fun i hi e => by omega))⟩
    · rw [HLK.out] at e2
      rw [HR.out] at e
      simp only at e2
      subst e2
      injection e with he1 he2
      injection he2 with he2 he3
      injection he2 with h1 h2 h3 h4
      subst he1 he3 h1 h2 h3 h4
      go_wp2_with fail
      have hk4 := setCell_block' (o := 3) (v := .int .i64 (0)) (setCell_block' (o := 2) (v := .int .i64 (0)) (setCell_block' (o := 1) (v := .int .i64 (a.pos)) (setCell_block' (o := 0) (v := .int .i64 (3)) hz)))
      have hkS : Keeps (fun k => k = w.heap.size+1) wc _ := (((Keeps.refl (fun k => k = w.heap.size+1) wc).setCell (p := ⟨w.heap.size+1, 0, none⟩) (fun _ => rfl) (.int .i64 (3))).setCell (p := ⟨w.heap.size+1, 1, none⟩) (fun _ => rfl) (.int .i64 (a.pos))).setCell (p := ⟨w.heap.size+1, 2, none⟩) (fun _ => rfl) (.int .i64 (0))
      have hkS := hkS.setCell (p := ⟨w.heap.size+1, 3, none⟩) (fun _ => rfl) (.int .i64 (0))
      generalize (((wc.setCell ⟨w.heap.size+1, 0, none⟩ (.int .i64 (3))).setCell ⟨w.heap.size+1, 1, none⟩ (.int .i64 (a.pos))).setCell ⟨w.heap.size+1, 2, none⟩ (.int .i64 (0))).setCell ⟨w.heap.size+1, 3, none⟩ (.int .i64 (0)) = w5 at hk4 hkS ⊢
      have q0 : w5.cell? ⟨w.heap.size+1, 0, none⟩ = some (.int .i64 (3)) := cell_of_row w5 _ 0 _ _ _ hk4
      have q1 : w5.cell? ⟨w.heap.size+1, 1, none⟩ = some (.int .i64 (a.pos)) := cell_of_row w5 _ 1 _ _ _ hk4
      have q2 : w5.cell? ⟨w.heap.size+1, 2, none⟩ = some (.int .i64 (0)) := cell_of_row w5 _ 2 _ _ _ hk4
      have q3 : w5.cell? ⟨w.heap.size+1, 3, none⟩ = some (.int .i64 (0)) := cell_of_row w5 _ 3 _ _ _ hk4
      exact bodyPost_ret (v := .tuple #[.agg #[.int .i64 3, .int .i64 a.pos, .int .i64 0, .int .i64 0], .int .i64 0]) (by simp [results, Tryz.results52, go_sem, q0, q1, q2, q3]) rfl ⟨rfl, Applied.same (H4.out.keep hkS (fun k hk e => by have := hFlt.out k hk; omega)) (HK4.out.andThen hkS (fun i hi e => by omega))⟩
    · rw [HLK.out] at e0
      rw [HR.out] at e
      simp only at e0
      subst e0
      injection e with he1 he2
      injection he2 with he2 he3
      subst he1 he3
      have hout := outcome_any wc p px pt _ F W FX FT GT H4.out G a (HBt.out.1.keep HK4.out (fun k _ hk => HG.out k hk)) (fun k hk e => HG.out k hk (H.out.wx k e)) HBt.out.2.2.1 hL
      rw [HV.out, show freshO (⟨s.L, s.T, a.pos⟩ : St) a = freshO s a from rfl, ← he2, show freshL (⟨s.L, s.T, a.pos⟩ : St) a = freshL s a from rfl] at hout
      have HOUT := Lib.hid hout
      have HE2 := Lib.hid he2
      have y1 : wc.cell? ⟨w.heap.size, 2, none⟩ = some (.string a.stream) := cell_of_row wc _ 2 _ _ _ hb1
      have y2 : wc.cell? ⟨w.heap.size, 3, none⟩ = some (.int .i64 a.expect) := cell_of_row wc _ 3 _ _ _ hb1
      have y3 : wc.cell? ⟨w.heap.size, 4, none⟩ = some (.int .i64 a.session) := cell_of_row wc _ 4 _ _ _ hb1
      have y4 : wc.cell? ⟨w.heap.size, 5, none⟩ = some (.int .i64 a.seq) := cell_of_row wc _ 5 _ _ _ hb1
      have y5 : wc.cell? ⟨w.heap.size, 6, none⟩ = some (.slice A a.evs.length c) := cell_of_row wc _ 6 _ _ _ hb1
      have Hb1 := Lib.hid hb1
      have Hz := Lib.hid hz
      clear hout he2 z0 z1 z2 z3 f0 f1 f2 f3 hb1 hz
      go_wp2_with fail
      refine HOUT.out.mono ?_
      rintro e w5 ⟨rfl, hK5, hX5⟩
      have hz5 := hK5.size
      have hgb := hK5.grownTo Hgb.out (fun e => by have := hFlt.out _ (H.out.wf _ (H.out.wx _ e)); omega)
      have g0 : w5.cell? ⟨g, 0, none⟩ = some (.int .i64 l1) := cell_of_row w5 _ 0 _ _ _ hgb
      have g1 : w5.cell? ⟨g, 1, none⟩ = some (.int .i64 l2) := cell_of_row w5 _ 1 _ _ _ hgb
      have g2 : w5.cell? ⟨g, 2, none⟩ = some (.int .i64 l3) := cell_of_row w5 _ 2 _ _ _ hgb
      have g3 : w5.cell? ⟨g, 3, none⟩ = some (.int .i64 l4) := cell_of_row w5 _ 3 _ _ _ hgb
      have f0 : w5.frozen? ⟨g, 0, none⟩ = false := frozen_block hgb 0
      have f1 : w5.frozen? ⟨g, 1, none⟩ = false := frozen_block hgb 1
      have f2 : w5.frozen? ⟨g, 2, none⟩ = false := frozen_block hgb 2
      have f3 : w5.frozen? ⟨g, 3, none⟩ = false := frozen_block hgb 3
      clear hg0 hg1 hg2 hg3 y0 y1 y2 y3 y4 y5
      go_upto_region 13 with (fail)
      have hz := hgb
      have hk4 := setCell_block' (o := 3) (v := .int .i64 (r4)) (setCell_block' (o := 2) (v := .int .i64 (r3)) (setCell_block' (o := 1) (v := .int .i64 (r2)) (setCell_block' (o := 0) (v := .int .i64 (r1)) hz)))
      have hkS : Keeps (fun k => k = g) w5 _ := (((Keeps.refl (fun k => k = g) w5).setCell (p := ⟨g, 0, none⟩) (fun _ => rfl) (.int .i64 (r1))).setCell (p := ⟨g, 1, none⟩) (fun _ => rfl) (.int .i64 (r2))).setCell (p := ⟨g, 2, none⟩) (fun _ => rfl) (.int .i64 (r3))
      have hkS := hkS.setCell (p := ⟨g, 3, none⟩) (fun _ => rfl) (.int .i64 (r4))
      generalize (((w5.setCell ⟨g, 0, none⟩ (.int .i64 (r1))).setCell ⟨g, 1, none⟩ (.int .i64 (r2))).setCell ⟨g, 2, none⟩ (.int .i64 (r3))).setCell ⟨g, 3, none⟩ (.int .i64 (r4)) = w6 at hk4 hkS ⊢
      have q0 : w6.cell? ⟨g, 0, none⟩ = some (.int .i64 (r1)) := cell_of_row w6 _ 0 _ _ _ hk4
      have q1 : w6.cell? ⟨g, 1, none⟩ = some (.int .i64 (r2)) := cell_of_row w6 _ 1 _ _ _ hk4
      have q2 : w6.cell? ⟨g, 2, none⟩ = some (.int .i64 (r3)) := cell_of_row w6 _ 2 _ _ _ hk4
      have q3 : w6.cell? ⟨g, 3, none⟩ = some (.int .i64 (r4)) := cell_of_row w6 _ 3 _ _ _ hk4
      have hnX : ∀ k, w.heap.size ≤ k → ¬ FX k := fun k hk e => by have := hFlt.out _ (H.out.wf _ (H.out.wx _ e)); omega
      have hnT : ∀ k, w.heap.size ≤ k → ¬ FT k := fun k hk e => by have := hFlt.out _ (H.out.ft _ e); omega
      have hTF : ∀ k, GT k → FT k := by obtain ⟨bm, R, h, _⟩ := H.out.tab; exact h.gf
      have hb1 := hkS.grownTo (hK5.grownTo Hb1.out (hnX _ (Nat.le_refl _))) (by omega)
      have hz6 := hkS.grownTo (hK5.grownTo Hz.out (hnX _ (by omega))) (by omega)
      have hp6 := hkS.grownTo (hK5.grownTo H4.out.blk H4.out.npx) (by omega)
      have y3 : w6.cell? ⟨w.heap.size, 4, none⟩ = some (.int .i64 a.session) := cell_of_row w6 _ 4 _ _ _ hb1
      have y4 : w6.cell? ⟨w.heap.size, 5, none⟩ = some (.int .i64 a.seq) := cell_of_row w6 _ 5 _ _ _ hb1
      have y5 : w6.cell? ⟨p, 1, none⟩ = some (.pointer (some ⟨pt, 0, none⟩)) := cell_of_row w6 _ 1 _ _ _ hp6
      have hT6 := ((H4.out.tab.keep hK5 (fun k hk e => H4.out.xt k e hk)).keep hkS (fun k hk e => hnT g (by omega) (e ▸ hk))).fresh (show Below w6.heap.size w6 w6.drew from ⟨rfl, rfl, rfl, Nat.le_refl _, fun _ _ => rfl⟩)
      have HPUT := Lib.hid (Ded.put_any w6.drew pt s.T FT GT hT6 a.session a.seq (by unfold Ded.i64; omega) (by unfold Ded.i64; omega) ⟨r1, r2, r3, r4⟩ hTl)
      have HK5 := Lib.hid hK5
      have HKS := Lib.hid hkS
      have HX5 := Lib.hid hX5
      have HZ6 := Lib.hid hz6
      have HK4' := Lib.hid hk4
      have HPL := Lib.hid (show (Ded.putL s.T a.session a.seq ⟨r1, r2, r3, r4⟩).1 = s.T ++ [⟨a.session, a.seq, freshO s a⟩] by
        unfold Ded.putL
        rw [if_neg (by omega), HLK.out, HE2.out]; rfl)
      have HNT := Lib.hid hnT
      have HTF := Lib.hid hTF
      clear hz g0 g1 g2 g3 f0 f1 f2 f3 hgb hb1 hz6 hp6 hT6 hK5 hkS hX5 hk4 hnX hnT hTF
      refine region_mid 11 rfl (by kernel_rfl) (by kernel_rfl) ?_
      simp only [List.take_succ_cons, List.take_zero, List.drop_succ_cons, List.drop_zero]
      change wpStill _ _ w6.drew _ _ _
      refine still_of_quiet ?_
      repeat (go_big_quiet_step (fail))
      refine wpQuiet_nil ?_
      change wpList _ _ _ _ _ w6.drew
      go_wp2_with fail
      refine HPUT.out.mono ?_
      rintro e w7 ⟨rfl, hK7, GT', hg7, hT7⟩
      have hK7' : Keeps GT w6 w7 := ((Keeps.refl GT w6).drew).trans hK7
      have hgb := hK7'.grownTo HK4'.out (fun e => HNT.out g (by omega) (HTF.out _ e))
      have hz := hK7'.grownTo HZ6.out (fun e => HNT.out _ (by omega) (HTF.out _ e))
      have v0 : w7.cell? ⟨g, 0, none⟩ = some (.int .i64 r1) := cell_of_row w7 _ 0 _ _ _ hgb
      have v1 : w7.cell? ⟨g, 1, none⟩ = some (.int .i64 r2) := cell_of_row w7 _ 1 _ _ _ hgb
      have v2 : w7.cell? ⟨g, 2, none⟩ = some (.int .i64 r3) := cell_of_row w7 _ 2 _ _ _ hgb
      have v3 : w7.cell? ⟨g, 3, none⟩ = some (.int .i64 r4) := cell_of_row w7 _ 3 _ _ _ hgb
      have z0 : w7.cell? ⟨w.heap.size + 1, 0, none⟩ = some (.int .i64 0) := cell_of_row w7 _ 0 _ _ _ hz
      have z1 : w7.cell? ⟨w.heap.size + 1, 1, none⟩ = some (.int .i64 0) := cell_of_row w7 _ 1 _ _ _ hz
      have z2 : w7.cell? ⟨w.heap.size + 1, 2, none⟩ = some (.int .i64 0) := cell_of_row w7 _ 2 _ _ _ hz
      have z3 : w7.cell? ⟨w.heap.size + 1, 3, none⟩ = some (.int .i64 0) := cell_of_row w7 _ 3 _ _ _ hz
      have f0 : w7.frozen? ⟨w.heap.size + 1, 0, none⟩ = false := frozen_block hz 0
      have f1 : w7.frozen? ⟨w.heap.size + 1, 1, none⟩ = false := frozen_block hz 1
      have f2 : w7.frozen? ⟨w.heap.size + 1, 2, none⟩ = false := frozen_block hz 2
      have f3 : w7.frozen? ⟨w.heap.size + 1, 3, none⟩ = false := frozen_block hz 3
      have HK7 := Lib.hid hK7'
      have HG7 := Lib.hid hg7
      have HT7 := Lib.hid hT7
      clear hK7 hK7' hg7 hT7 q0 q1 q2 q3 y3 y4 y5 hgb
      go_wp2_with fail
      unfold Go.Bl.Rest
      refine still_of_quiet ?_
      repeat (go_big_quiet_step (fail))
      refine wpQuiet_nil ?_
      go_wp2_with fail
      have hk4 := setCell_block' (o := 3) (v := .int .i64 (r4)) (setCell_block' (o := 2) (v := .int .i64 (r3)) (setCell_block' (o := 1) (v := .int .i64 (r2)) (setCell_block' (o := 0) (v := .int .i64 (r1)) hz)))
      have hkS : Keeps (fun k => k = w.heap.size+1) w7 _ := (((Keeps.refl (fun k => k = w.heap.size+1) w7).setCell (p := ⟨w.heap.size+1, 0, none⟩) (fun _ => rfl) (.int .i64 (r1))).setCell (p := ⟨w.heap.size+1, 1, none⟩) (fun _ => rfl) (.int .i64 (r2))).setCell (p := ⟨w.heap.size+1, 2, none⟩) (fun _ => rfl) (.int .i64 (r3))
      have hkS := hkS.setCell (p := ⟨w.heap.size+1, 3, none⟩) (fun _ => rfl) (.int .i64 (r4))
      generalize (((w7.setCell ⟨w.heap.size+1, 0, none⟩ (.int .i64 (r1))).setCell ⟨w.heap.size+1, 1, none⟩ (.int .i64 (r2))).setCell ⟨w.heap.size+1, 2, none⟩ (.int .i64 (r3))).setCell ⟨w.heap.size+1, 3, none⟩ (.int .i64 (r4)) = w8 at hk4 hkS ⊢
      have q0 : w8.cell? ⟨w.heap.size+1, 0, none⟩ = some (.int .i64 (r1)) := cell_of_row w8 _ 0 _ _ _ hk4
      have q1 : w8.cell? ⟨w.heap.size+1, 1, none⟩ = some (.int .i64 (r2)) := cell_of_row w8 _ 1 _ _ _ hk4
      have q2 : w8.cell? ⟨w.heap.size+1, 2, none⟩ = some (.int .i64 (r3)) := cell_of_row w8 _ 2 _ _ _ hk4
      have q3 : w8.cell? ⟨w.heap.size+1, 3, none⟩ = some (.int .i64 (r4)) := cell_of_row w8 _ 3 _ _ _ hk4
      have hfin := Applied.put H4.out hFlt.out HK4.out (by omega) hgl (by omega) hzl HK5.out HX5.out HKS.out HK7.out HG7.out HT7.out hkS
      rw [HPL.out] at hfin
      exact bodyPost_ret (v := .tuple #[.agg #[.int .i64 r1, .int .i64 r2, .int .i64 r3, .int .i64 r4], .int .i64 0]) (by simp [results, Tryz.results52, go_sem, q0, q1, q2, q3]) rfl ⟨rfl, hfin⟩
end Go.Proofs.YthdcnknjjbdefaaGreatDoor
