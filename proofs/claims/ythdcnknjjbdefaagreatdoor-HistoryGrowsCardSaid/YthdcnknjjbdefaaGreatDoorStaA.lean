/- The state: what a block of it holds; New, outcome. Under the stated premises on sizes. -/
import Derived.Test.YthdcnknjjbdefaaGreatDoorStaP
import Derived.Test.YthdcnknjjbdefaaGreatDoorBlR
import Derived.Test.YthdcnknjjbdefaaGreatDoorBlQ
import Derived.Test.YthdcnknjjbdefaaGreatDoorBlL
namespace Go.Proofs.YthdcnknjjbdefaaGreatDoor
open Go.RowKit Go.Bl
attribute [local go_sem ↓] Go.wp_at_zero Go.wp_at_succ

theorem _root_.Go.Proofs.YthdcnknjjbdefaaGreatDoor.Idx.IdxAt.wide {w : World} {p : Nat} {L : List Idx.One} {F F' : Nat → Prop} (h : Idx.IdxAt w p L F) (hF : ∀ k, F k → F' k) (hl : ∀ k, F' k → k < w.heap.size) : Idx.IdxAt w p L F' := by
  obtain ⟨bm, V, n, h⟩ := h
  exact ⟨bm, V, n, h.blk, h.map, h.le, h.rows, h.nil, h.apart, hF _ h.fp, hF _ h.fm, fun s b e => hF _ (h.fv s b e), hl⟩
/-- Block p of w is the state s; it lies in the blocks F, of which those in W are written. -/
structure StIn (w : World) (p : Nat) (s : St) (F W : Nat → Prop) (px pt : Nat) (FX FT GT : Nat → Prop) : Prop where
  blk : w.heap[p]? = some (.cells #[.pointer (some ⟨px, 0, none⟩), .pointer (some ⟨pt, 0, none⟩), .int .i64 s.ap] 120 (0, 0))
  idx : Idx.IdxAt w px s.L FX
  tab : Ded.TabAt w pt s.T FT GT
  xt : ∀ k, FX k → ¬ FT k
  npx : ¬ FX p
  npt : ¬ FT p
  wx : ∀ k, FX k → W k
  wt : ∀ k, GT k → W k
  wp : W p
  tw : ∀ k, FT k → W k → GT k
  ft : ∀ k, FT k → F k
  wf : ∀ k, W k → F k
  lt : ∀ k, F k → k < w.heap.size
def StAt (w : World) (p : Nat) (s : St) (F W : Nat → Prop) : Prop := ∃ px pt FX FT GT, StIn w p s F W px pt FX FT GT
section
variable {w w' : World} {p px pt : Nat} {s : St} {F W G FX FT GT : Nat → Prop}
theorem StIn.keep (h : StIn w p s F W px pt FX FT GT) (hk : Keeps G w w') (hd : ∀ k, F k → ¬ G k) : StIn w' p s F W px pt FX FT GT :=
  ⟨hk.grownTo h.blk (hd _ (h.wf _ h.wp)), h.idx.keep hk (fun _ hk => hd _ (h.wf _ (h.wx _ hk))), h.tab.keep hk (fun _ hk => hd _ (h.ft _ hk)), h.xt, h.npx, h.npt, h.wx, h.wt, h.wp, h.tw, h.ft, h.wf, fun k hF => Nat.lt_of_lt_of_le (h.lt k hF) hk.size⟩
theorem StAt.keep (h : StAt w p s F W) (hk : Keeps G w w') (hd : ∀ k, F k → ¬ G k) : StAt w' p s F W := by
  obtain ⟨px, pt, FX, FT, GT, h⟩ := h
  exact ⟨px, pt, FX, FT, GT, h.keep hk hd⟩
theorem StIn.fresh (h : StIn w p s F W px pt FX FT GT) (hk : Below w.heap.size w w') : StIn w' p s F W px pt FX FT GT := h.keep (Keeps.of_fresh hk fun _ => False) (fun _ _ => id)
theorem StAt.fresh (h : StAt w p s F W) (hk : Below w.heap.size w w') : StAt w' p s F W := h.keep (Keeps.of_fresh hk fun _ => False) (fun _ _ => id)
theorem StAt.lt (h : StAt w p s F W) : ∀ k, F k → k < w.heap.size := by
  obtain ⟨px, pt, FX, FT, GT, h⟩ := h
  exact h.lt
theorem StAt.wf (h : StAt w p s F W) : ∀ k, W k → F k := by
  obtain ⟨px, pt, FX, FT, GT, h⟩ := h
  exact h.wf
theorem StIn.c0 (h : StIn w p s F W px pt FX FT GT) : w.cell? ⟨p, 0, none⟩ = some (.pointer (some ⟨px, 0, none⟩)) := cell_of_row w p 0 _ _ _ h.blk
theorem StIn.c1 (h : StIn w p s F W px pt FX FT GT) : w.cell? ⟨p, 1, none⟩ = some (.pointer (some ⟨pt, 0, none⟩)) := cell_of_row w p 1 _ _ _ h.blk
theorem StIn.c2 (h : StIn w p s F W px pt FX FT GT) : w.cell? ⟨p, 2, none⟩ = some (.int .i64 s.ap) := cell_of_row w p 2 _ _ _ h.blk
end

set_option maxRecDepth 8000 in
set_option maxHeartbeats 1000000 in
theorem snew_any (w : World) : Calls Tryz.prog 50 #[] w fun e w' => ∃ p W, e = .returned (.pointer (some ⟨p, 0, none⟩)) ∧ w.heap.size ≤ p ∧ (∀ k, W k → w.heap.size ≤ k) ∧
    StAt w' p St.new (fun k => w.heap.size ≤ k ∧ k < w'.heap.size) W ∧ Below w.heap.size w w' := by
  go_enter Tryz.func50, Tryz.ntmps50
  go_wp2_with fail
  refine (Idx.new_any w).mono ?_
  rintro e w1 ⟨rfl, hX, hB1⟩
  have hlt1 := hB1.size
  go_wp2_with fail
  refine (Ded.new_any w1).mono ?_
  rintro e w2 ⟨he, hB2, hT⟩
  obtain rfl : e = .returned (.pointer (some ⟨w1.heap.size + 1, 0, none⟩)) := he
  have hX2 := Lib.hid (hX.fresh hB2)
  have HT := Lib.hid hT
  have HB := Lib.hid (hB1.trans (hB2.mono hB1.size))
  have hsz := hB2.size
  have hp2 : w1.heap.size + 1 < w2.heap.size := by
    obtain ⟨bm, R, h, _⟩ := hT
    exact h.lt _ h.fp
  have hpx : w.heap.size + 1 < w1.heap.size := by
    obtain ⟨bm, V, n, h⟩ := hX
    exact h.lt _ h.fp
  have HXlt : Hid (w.heap.size + 1 < w1.heap.size ∧ w1.heap.size + 1 < w2.heap.size) := Lib.hid ⟨hpx, hp2⟩
  clear hX hT hB1 hB2 hpx hp2 hsz hlt1
  go_wp2_with fail
  go_ret
  obtain ⟨q1, q2⟩ := HXlt.out
  have hBa : Below w2.heap.size w2 (w2.alloc (.cells #[.pointer (some ⟨w.heap.size + 1, 0, none⟩), .pointer (some ⟨w1.heap.size + 1, 0, none⟩), .int .i64 0] 120)) := (Below.refl _ _).alloc (Nat.le_refl _) _
  refine ⟨w2.heap.size, fun k => (w.heap.size ≤ k ∧ k < w1.heap.size) ∨ k = w1.heap.size ∨ k = w2.heap.size, rfl, by omega, fun k hk => by omega, ⟨w.heap.size + 1, w1.heap.size + 1, _, _, _, heap_alloc_new w2 _, hX2.out.fresh hBa, HT.out.fresh hBa, ?_, ?_, ?_, ?_, ?_, ?_, ?_, ?_, ?_, ?_⟩, HB.out.alloc HB.out.size _⟩
  · intro k hk hk'; omega
  · intro hk; omega
  · intro hk; omega
  · intro k hk; exact .inl hk
  · intro k hk; exact .inr (.inl hk)
  · exact .inr (.inr rfl)
  · intro k hk hk'; omega
  · intro k hk; rw [World.size_alloc]; omega
  · intro k hk; rw [World.size_alloc]; omega
  · intro k hk; exact hk.2

set_option maxRecDepth 8000 in
set_option maxHeartbeats 2000000 in
theorem outcome_any (w : World) (p px pt : Nat) (s : St) (F W FX FT GT : Nat → Prop) (h : StIn w p s F W px pt FX FT GT) (G : Nat → Prop) (a : Ent) (hb : Sl w G 2 evc a.evv a.evs) (hG : ∀ b, G b → ¬ FX b) (hs : a.stream.size ≤ 1000000000000000) (hlen : s.L.length + a.evs.length ≤ 1000000) :
    Calls Tryz.prog 65 #[.pointer (some ⟨p, 0, none⟩), .int .i64 a.pos, .agg #[.string a.stream, .int .i64 a.expect, .int .i64 a.session, .int .i64 a.seq, a.evv]] w fun e w' => e = .returned (.agg #[.int .i64 (freshO s a).code, .int .i64 (freshO s a).pos, .int .i64 (freshO s a).first, .int .i64 (freshO s a).ver]) ∧ Keeps FX w w' ∧
      Idx.IdxAt w' px (freshL s a) (fun k => FX k ∨ (w.heap.size ≤ k ∧ k < w'.heap.size)) := by
  obtain ⟨A, c, hv, hA1, hA2⟩ := hb.shape
  unfold maxLen at hA2
  generalize hoo : freshO s a = oo
  generalize hll : freshL s a = LL
  have HO := Lib.hid hoo
  have HL := Lib.hid hll
  clear hoo hll
  rw [hv] at hb
  rw [hv]
  have hms : a.stream.size ≤ maxLen := by unfold maxLen; omega
  have hB0 : Below w.heap.size w ((w.alloc (.cells #[.string a.stream, .int .i64 a.expect, .int .i64 a.session, .int .i64 a.seq, .slice A a.evs.length c] 32)).alloc (.cells #[.int .i64 0, .int .i64 0, .int .i64 0, .int .i64 0] 34)) :=
    ((Below.refl _ w).alloc (Nat.le_refl _) _).alloc (by simp) _
  have c0 : ((w.alloc (.cells #[.string a.stream, .int .i64 a.expect, .int .i64 a.session, .int .i64 a.seq, .slice A a.evs.length c] 32)).alloc (.cells #[.int .i64 0, .int .i64 0, .int .i64 0, .int .i64 0] 34)).cell? ⟨p, 0, none⟩ = some (.pointer (some ⟨px, 0, none⟩)) := (h.fresh hB0).c0
  have hb1 : (w.alloc (.cells #[.string a.stream, .int .i64 a.expect, .int .i64 a.session, .int .i64 a.seq, .slice A a.evs.length c] 32)).heap[w.heap.size]? = some (.cells #[.string a.stream, .int .i64 a.expect, .int .i64 a.session, .int .i64 a.seq, .slice A a.evs.length c] 32 (0, 0)) := heap_alloc_new w _
  have hb1 := (Keeps.of_fresh ((Below.refl _ (w.alloc (.cells #[.string a.stream, .int .i64 a.expect, .int .i64 a.session, .int .i64 a.seq, .slice A a.evs.length c] 32))).alloc (Nat.le_refl _) (.cells #[.int .i64 0, .int .i64 0, .int .i64 0, .int .i64 0] 34)) (fun _ => False)).grownTo hb1 id
  have hb2 := heap_alloc_new (w.alloc (.cells #[.string a.stream, .int .i64 a.expect, .int .i64 a.session, .int .i64 a.seq, .slice A a.evs.length c] 32)) (.cells #[.int .i64 0, .int .i64 0, .int .i64 0, .int .i64 0] 34)
  rw [World.size_alloc] at hb2
  have hI := (h.fresh hB0).idx
  have HI := Lib.hid hI
  have HS := Lib.hid (hb.fresh hB0)
  have HG := Lib.hid hG
  have hle := Idx.ofS_le s.L a.stream
  have hFX : ∀ k, FX k → k < w.heap.size := fun k hk => h.lt k (h.wf k (h.wx k hk))
  have HFX := Lib.hid hFX
  clear hI hb hG hv h hFX
  go_enter Tryz.func65, Tryz.ntmps65
  go_upto_region 1 with (fail)
  generalize ((w.alloc (.cells #[.string a.stream, .int .i64 a.expect, .int .i64 a.session, .int .i64 a.seq, .slice A a.evs.length c] 32)).alloc (.cells #[.int .i64 0, .int .i64 0, .int .i64 0, .int .i64 0] 34)) = w1 at hB0 c0 hb1 hb2 HI HS ⊢
  have HB0 := Lib.hid hB0
  have y0 : w1.cell? ⟨w.heap.size, 0, none⟩ = some (.string a.stream) := cell_of_row w1 _ 0 _ _ _ hb1
  have y1 : w1.cell? ⟨w.heap.size, 1, none⟩ = some (.int .i64 a.expect) := cell_of_row w1 _ 1 _ _ _ hb1
  have y4 : w1.cell? ⟨w.heap.size, 4, none⟩ = some (.slice A a.evs.length c) := cell_of_row w1 _ 4 _ _ _ hb1
  have Hb2 := Lib.hid hb2
  have Hb1 := Lib.hid hb1
  clear hB0 hb1 hb2
  refine region_mid 6 rfl (by kernel_rfl) (by kernel_rfl) ?_
  simp only [List.take_succ_cons, List.take_zero, List.drop_succ_cons, List.drop_zero]
  change wpStill _ _ w1.drew _ _ _
  refine still_of_quiet ?_
  repeat (go_big_quiet_step (fail))
  refine wpQuiet_nil ?_
  change wpList _ _ _ _ _ w1.drew
  go_wp2_with fail
  refine (Idx.version_any _ px s.L FX (HI.out.fresh (show Below w1.heap.size w1 w1.drew from ⟨rfl, rfl, rfl, Nat.le_refl _, fun _ _ => rfl⟩)) a.stream hms).mono ?_
  rintro e w2 ⟨rfl, rfl⟩
  have hw0 : w.heap.size < w1.heap.size := World.block_lt_of_cell? _ _ y0
  have hw1 : w.heap.size + 1 < w1.heap.size := (Array.getElem?_eq_some_iff.1 Hb2.out).1
  have hn0 : ¬ FX w.heap.size := fun h => by have := HFX.out _ h; omega
  have hn1 : ¬ FX (w.heap.size + 1) := fun h => by have := HFX.out _ h; omega
  have hz := Hb2.out
  have z0 : w1.cell? ⟨w.heap.size + 1, 0, none⟩ = some (.int .i64 0) := cell_of_row w1 _ 0 _ _ _ hz
  have z1 : w1.cell? ⟨w.heap.size + 1, 1, none⟩ = some (.int .i64 0) := cell_of_row w1 _ 1 _ _ _ hz
  have z2 : w1.cell? ⟨w.heap.size + 1, 2, none⟩ = some (.int .i64 0) := cell_of_row w1 _ 2 _ _ _ hz
  have z3 : w1.cell? ⟨w.heap.size + 1, 3, none⟩ = some (.int .i64 0) := cell_of_row w1 _ 3 _ _ _ hz
  have f0 : w1.frozen? ⟨w.heap.size + 1, 0, none⟩ = false := frozen_block hz 0
  have f1 : w1.frozen? ⟨w.heap.size + 1, 1, none⟩ = false := frozen_block hz 1
  have f2 : w1.frozen? ⟨w.heap.size + 1, 2, none⟩ = false := frozen_block hz 2
  have f3 : w1.frozen? ⟨w.heap.size + 1, 3, none⟩ = false := frozen_block hz 3
  clear hz
  have hnw : ((Idx.ofS s.L a.stream).length : Int) ≤ 1000000 := by omega
  go_wp2_with fail
  unfold Go.Bl.Rest
  refine still_of_quiet ?_
  repeat (go_big_quiet_step (fail))
  refine wpQuiet_nil ?_
  by_cases h1 : a.expect = -1
  · have d1 : (a.expect != -1) = false := by simp [h1]
    have HF := Lib.hid (show freshO s a = ⟨1, a.pos, verS s a.stream, verS s a.stream + a.evs.length⟩ ∧ freshL s a = addS s a by unfold freshO freshL verS; rw [if_neg (by omega), if_neg (by omega)]; exact ⟨rfl, rfl⟩)
    clear h1
    go_wp2_with fail
    refine region_mid 9 rfl (by kernel_rfl) (by kernel_rfl) ?_
    simp only [List.take_succ_cons, List.take_zero, List.drop_succ_cons, List.drop_zero]
    change wpStill _ _ w1.drew.drew _ _ _
    refine still_of_quiet ?_
    repeat (go_big_quiet_step (fail))
    refine wpQuiet_nil ?_
    change wpList _ _ _ _ _ w1.drew.drew
    go_wp2_with fail
    refine (Idx.add_any _ px s.L FX G (HI.out.fresh (show Below w1.heap.size w1 w1.drew.drew from ⟨rfl, rfl, rfl, Nat.le_refl _, fun _ _ => rfl⟩)) a.pos a.stream _ a.evs (HS.out.fresh (show Below w1.heap.size w1 w1.drew.drew from ⟨rfl, rfl, rfl, Nat.le_refl _, fun _ _ => rfl⟩)) HG.out hms (by omega)).mono ?_
    rintro e w3 ⟨rfl, hK, hX⟩
    have hK' : Keeps FX w1 w3 := (((Keeps.refl FX w1).drew).drew).trans hK
    have hy4 := (hK'.cell (a := ⟨w.heap.size, 4, none⟩) hw0 hn0).trans y4
    have hz := hK'.grownTo Hb2.out hn1
    have z0 : w3.cell? ⟨w.heap.size + 1, 0, none⟩ = some (.int .i64 0) := cell_of_row w3 _ 0 _ _ _ hz
    have z1 : w3.cell? ⟨w.heap.size + 1, 1, none⟩ = some (.int .i64 0) := cell_of_row w3 _ 1 _ _ _ hz
    have z2 : w3.cell? ⟨w.heap.size + 1, 2, none⟩ = some (.int .i64 0) := cell_of_row w3 _ 2 _ _ _ hz
    have z3 : w3.cell? ⟨w.heap.size + 1, 3, none⟩ = some (.int .i64 0) := cell_of_row w3 _ 3 _ _ _ hz
    have f0 : w3.frozen? ⟨w.heap.size + 1, 0, none⟩ = false := frozen_block hz 0
    have f1 : w3.frozen? ⟨w.heap.size + 1, 1, none⟩ = false := frozen_block hz 1
    have f2 : w3.frozen? ⟨w.heap.size + 1, 2, none⟩ = false := frozen_block hz 2
    have f3 : w3.frozen? ⟨w.heap.size + 1, 3, none⟩ = false := frozen_block hz 3
    have HK := Lib.hid hK'
    have HX := Lib.hid hX
    clear hK hK' hX
    go_wp2_with fail
    unfold Go.Bl.Rest
    refine still_of_quiet ?_
    repeat (go_big_quiet_step (fail))
    refine wpQuiet_nil ?_
    go_wp2_with fail
    have hk4 := setCell_block' (o := 3) (v := .int .i64 ((Idx.ofS s.L a.stream).length+a.evs.length)) (setCell_block' (o := 2) (v := .int .i64 (Idx.ofS s.L a.stream).length) (setCell_block' (o := 1) (v := .int .i64 a.pos) (setCell_block' (o := 0) (v := .int .i64 1) hz)))
    have hkS : Keeps (fun k => k = w.heap.size + 1) w3 _ := (((Keeps.refl (fun k => k = w.heap.size + 1) w3).setCell (p := ⟨w.heap.size + 1, 0, none⟩) (fun _ => rfl) (.int .i64 1)).setCell (p := ⟨w.heap.size + 1, 1, none⟩) (fun _ => rfl) (.int .i64 a.pos)).setCell (p := ⟨w.heap.size + 1, 2, none⟩) (fun _ => rfl) (.int .i64 (Idx.ofS s.L a.stream).length)
    have hkS := hkS.setCell (p := ⟨w.heap.size + 1, 3, none⟩) (fun _ => rfl) (.int .i64 ((Idx.ofS s.L a.stream).length+a.evs.length))
    generalize (((w3.setCell ⟨w.heap.size + 1, 0, none⟩ (.int .i64 1)).setCell ⟨w.heap.size + 1, 1, none⟩ (.int .i64 a.pos)).setCell ⟨w.heap.size + 1, 2, none⟩ (.int .i64 (Idx.ofS s.L a.stream).length)).setCell ⟨w.heap.size + 1, 3, none⟩ (.int .i64 ((Idx.ofS s.L a.stream).length+a.evs.length)) = w4 at hk4 hkS ⊢
    have r0 : w4.cell? ⟨w.heap.size + 1, 0, none⟩ = some (.int .i64 1) := cell_of_row w4 _ 0 _ _ _ hk4
    have r1 : w4.cell? ⟨w.heap.size + 1, 1, none⟩ = some (.int .i64 a.pos) := cell_of_row w4 _ 1 _ _ _ hk4
    have r2 : w4.cell? ⟨w.heap.size + 1, 2, none⟩ = some (.int .i64 (Idx.ofS s.L a.stream).length) := cell_of_row w4 _ 2 _ _ _ hk4
    have r3 : w4.cell? ⟨w.heap.size + 1, 3, none⟩ = some (.int .i64 ((Idx.ofS s.L a.stream).length+a.evs.length)) := cell_of_row w4 _ 3 _ _ _ hk4
    refine bodyPost_ret (v := .agg #[.int .i64 1, .int .i64 a.pos, .int .i64 (Idx.ofS s.L a.stream).length, .int .i64 ((Idx.ofS s.L a.stream).length + a.evs.length)]) (by simp [results, Tryz.results65, go_sem, r0, r1, r2, r3]) rfl ⟨?_, ?_, ?_⟩
    · rw [← HO.out, HF.out.1]; rfl
    · exact ((Keeps.of_fresh HB0.out FX).trans HK.out).andThen hkS (fun i hi e => by omega)
    · have hh := HB0.out.size
      have hw3 := HK.out.size
      have hw4 := hkS.size
      rw [← HL.out, HF.out.2]
      refine (HX.out.keep hkS (fun k hk e => ?_)).wide (fun k hk => ?_) (fun k hk => ?_)
      · rcases hk with hk | hk
        · have := HFX.out _ hk; omega
        · have : w1.heap.size ≤ k := hk.1
          omega
      · rcases hk with hk | hk
        · exact .inl hk
        · exact .inr ⟨Nat.le_trans hh hk.1, Nat.lt_of_lt_of_le hk.2 hw4⟩
      · rcases hk with hk | hk
        · have := HFX.out _ hk; omega
        · exact hk.2
  · have d1 : (a.expect != -1) = true := by simp [h1]
    by_cases h2 : a.expect = ((Idx.ofS s.L a.stream).length : Int)
    · have d2 : (a.expect != ((Idx.ofS s.L a.stream).length : Int)) = false := by simp [h2]
      have HF := Lib.hid (show freshO s a = ⟨1, a.pos, verS s a.stream, verS s a.stream + a.evs.length⟩ ∧ freshL s a = addS s a by unfold freshO freshL verS; rw [if_neg (by omega), if_neg (by omega)]; exact ⟨rfl, rfl⟩)
      clear h1 h2
      go_wp2_with fail
      refine region_mid 9 rfl (by kernel_rfl) (by kernel_rfl) ?_
      simp only [List.take_succ_cons, List.take_zero, List.drop_succ_cons, List.drop_zero]
      change wpStill _ _ w1.drew.drew _ _ _
      refine still_of_quiet ?_
      repeat (go_big_quiet_step (fail))
      refine wpQuiet_nil ?_
      change wpList _ _ _ _ _ w1.drew.drew
      go_wp2_with fail
      refine (Idx.add_any _ px s.L FX G (HI.out.fresh (show Below w1.heap.size w1 w1.drew.drew from ⟨rfl, rfl, rfl, Nat.le_refl _, fun _ _ => rfl⟩)) a.pos a.stream _ a.evs (HS.out.fresh (show Below w1.heap.size w1 w1.drew.drew from ⟨rfl, rfl, rfl, Nat.le_refl _, fun _ _ => rfl⟩)) HG.out hms (by omega)).mono ?_
      rintro e w3 ⟨rfl, hK, hX⟩
      have hK' : Keeps FX w1 w3 := (((Keeps.refl FX w1).drew).drew).trans hK
      have hy4 := (hK'.cell (a := ⟨w.heap.size, 4, none⟩) hw0 hn0).trans y4
      have hz := hK'.grownTo Hb2.out hn1
      have z0 : w3.cell? ⟨w.heap.size + 1, 0, none⟩ = some (.int .i64 0) := cell_of_row w3 _ 0 _ _ _ hz
      have z1 : w3.cell? ⟨w.heap.size + 1, 1, none⟩ = some (.int .i64 0) := cell_of_row w3 _ 1 _ _ _ hz
      have z2 : w3.cell? ⟨w.heap.size + 1, 2, none⟩ = some (.int .i64 0) := cell_of_row w3 _ 2 _ _ _ hz
      have z3 : w3.cell? ⟨w.heap.size + 1, 3, none⟩ = some (.int .i64 0) := cell_of_row w3 _ 3 _ _ _ hz
      have f0 : w3.frozen? ⟨w.heap.size + 1, 0, none⟩ = false := frozen_block hz 0
      have f1 : w3.frozen? ⟨w.heap.size + 1, 1, none⟩ = false := frozen_block hz 1
      have f2 : w3.frozen? ⟨w.heap.size + 1, 2, none⟩ = false := frozen_block hz 2
      have f3 : w3.frozen? ⟨w.heap.size + 1, 3, none⟩ = false := frozen_block hz 3
      have HK := Lib.hid hK'
      have HX := Lib.hid hX
      clear hK hK' hX
      go_wp2_with fail
      unfold Go.Bl.Rest
      refine still_of_quiet ?_
      repeat (go_big_quiet_step (fail))
      refine wpQuiet_nil ?_
      go_wp2_with fail
      have hk4 := setCell_block' (o := 3) (v := .int .i64 ((Idx.ofS s.L a.stream).length+a.evs.length)) (setCell_block' (o := 2) (v := .int .i64 (Idx.ofS s.L a.stream).length) (setCell_block' (o := 1) (v := .int .i64 a.pos) (setCell_block' (o := 0) (v := .int .i64 1) hz)))
      have hkS : Keeps (fun k => k = w.heap.size + 1) w3 _ := (((Keeps.refl (fun k => k = w.heap.size + 1) w3).setCell (p := ⟨w.heap.size + 1, 0, none⟩) (fun _ => rfl) (.int .i64 1)).setCell (p := ⟨w.heap.size + 1, 1, none⟩) (fun _ => rfl) (.int .i64 a.pos)).setCell (p := ⟨w.heap.size + 1, 2, none⟩) (fun _ => rfl) (.int .i64 (Idx.ofS s.L a.stream).length)
      have hkS := hkS.setCell (p := ⟨w.heap.size + 1, 3, none⟩) (fun _ => rfl) (.int .i64 ((Idx.ofS s.L a.stream).length+a.evs.length))
      generalize (((w3.setCell ⟨w.heap.size + 1, 0, none⟩ (.int .i64 1)).setCell ⟨w.heap.size + 1, 1, none⟩ (.int .i64 a.pos)).setCell ⟨w.heap.size + 1, 2, none⟩ (.int .i64 (Idx.ofS s.L a.stream).length)).setCell ⟨w.heap.size + 1, 3, none⟩ (.int .i64 ((Idx.ofS s.L a.stream).length+a.evs.length)) = w4 at hk4 hkS ⊢
      have r0 : w4.cell? ⟨w.heap.size + 1, 0, none⟩ = some (.int .i64 1) := cell_of_row w4 _ 0 _ _ _ hk4
      have r1 : w4.cell? ⟨w.heap.size + 1, 1, none⟩ = some (.int .i64 a.pos) := cell_of_row w4 _ 1 _ _ _ hk4
      have r2 : w4.cell? ⟨w.heap.size + 1, 2, none⟩ = some (.int .i64 (Idx.ofS s.L a.stream).length) := cell_of_row w4 _ 2 _ _ _ hk4
      have r3 : w4.cell? ⟨w.heap.size + 1, 3, none⟩ = some (.int .i64 ((Idx.ofS s.L a.stream).length+a.evs.length)) := cell_of_row w4 _ 3 _ _ _ hk4
      refine bodyPost_ret (v := .agg #[.int .i64 1, .int .i64 a.pos, .int .i64 (Idx.ofS s.L a.stream).length, .int .i64 ((Idx.ofS s.L a.stream).length + a.evs.length)]) (by simp [results, Tryz.results65, go_sem, r0, r1, r2, r3]) rfl ⟨?_, ?_, ?_⟩
      · rw [← HO.out, HF.out.1]; rfl
      · exact ((Keeps.of_fresh HB0.out FX).trans HK.out).andThen hkS (fun i hi e => by omega)
      · have hh := HB0.out.size
        have hw3 := HK.out.size
        have hw4 := hkS.size
        rw [← HL.out, HF.out.2]
        refine (HX.out.keep hkS (fun k hk e => ?_)).wide (fun k hk => ?_) (fun k hk => ?_)
        · rcases hk with hk | hk
          · have := HFX.out _ hk; omega
          · have : w1.heap.size ≤ k := hk.1
            omega
        · rcases hk with hk | hk
          · exact .inl hk
          · exact .inr ⟨Nat.le_trans hh hk.1, Nat.lt_of_lt_of_le hk.2 hw4⟩
        · rcases hk with hk | hk
          · have := HFX.out _ hk; omega
          · exact hk.2
    · have d2 : (a.expect != ((Idx.ofS s.L a.stream).length : Int)) = true := by simp [h2]
      have HF := Lib.hid (show freshO s a = ⟨2, a.pos, verS s a.stream, verS s a.stream⟩ ∧ freshL s a = s.L by unfold freshO freshL verS; rw [if_pos (by omega), if_pos (by omega)]; exact ⟨rfl, rfl⟩)
      clear h1 h2
      have hz := Hb2.out
      go_wp2_with fail
      have hk4 := setCell_block' (o := 3) (v := .int .i64 ((Idx.ofS s.L a.stream).length)) (setCell_block' (o := 2) (v := .int .i64 (Idx.ofS s.L a.stream).length) (setCell_block' (o := 1) (v := .int .i64 a.pos) (setCell_block' (o := 0) (v := .int .i64 2) hz)))
      have hkS : Keeps (fun k => k = w.heap.size + 1) w1 _ := (((Keeps.refl (fun k => k = w.heap.size + 1) w1).setCell (p := ⟨w.heap.size + 1, 0, none⟩) (fun _ => rfl) (.int .i64 2)).setCell (p := ⟨w.heap.size + 1, 1, none⟩) (fun _ => rfl) (.int .i64 a.pos)).setCell (p := ⟨w.heap.size + 1, 2, none⟩) (fun _ => rfl) (.int .i64 (Idx.ofS s.L a.stream).length)
      have hkS := hkS.setCell (p := ⟨w.heap.size + 1, 3, none⟩) (fun _ => rfl) (.int .i64 ((Idx.ofS s.L a.stream).length))
      generalize (((w1.setCell ⟨w.heap.size + 1, 0, none⟩ (.int .i64 2)).setCell ⟨w.heap.size + 1, 1, none⟩ (.int .i64 a.pos)).setCell ⟨w.heap.size + 1, 2, none⟩ (.int .i64 (Idx.ofS s.L a.stream).length)).setCell ⟨w.heap.size + 1, 3, none⟩ (.int .i64 ((Idx.ofS s.L a.stream).length)) = w4 at hk4 hkS ⊢
      have r0 : w4.cell? ⟨w.heap.size + 1, 0, none⟩ = some (.int .i64 2) := cell_of_row w4 _ 0 _ _ _ hk4
      have r1 : w4.cell? ⟨w.heap.size + 1, 1, none⟩ = some (.int .i64 a.pos) := cell_of_row w4 _ 1 _ _ _ hk4
      have r2 : w4.cell? ⟨w.heap.size + 1, 2, none⟩ = some (.int .i64 (Idx.ofS s.L a.stream).length) := cell_of_row w4 _ 2 _ _ _ hk4
      have r3 : w4.cell? ⟨w.heap.size + 1, 3, none⟩ = some (.int .i64 ((Idx.ofS s.L a.stream).length)) := cell_of_row w4 _ 3 _ _ _ hk4
      refine bodyPost_ret (v := .agg #[.int .i64 2, .int .i64 a.pos, .int .i64 (Idx.ofS s.L a.stream).length, .int .i64 (Idx.ofS s.L a.stream).length]) (by simp [results, Tryz.results65, go_sem, r0, r1, r2, r3]) rfl ⟨?_, ?_, ?_⟩
      · rw [← HO.out, HF.out.1]; rfl
      · exact ((Keeps.of_fresh HB0.out FX).andThen hkS (fun i hi e => by omega)).drew
      · have hh := HB0.out.size
        have hw4 := hkS.size
        rw [← HL.out, HF.out.2]
        refine ((HI.out.keep hkS (fun k hk e => ?_)).fresh (show Below w4.heap.size w4 w4.drew from ⟨rfl, rfl, rfl, Nat.le_refl _, fun _ _ => rfl⟩)).wide (fun k hk => .inl hk) (fun k hk => ?_)
        · have := HFX.out _ hk; omega
        · rcases hk with hk | hk
          · have := HFX.out _ hk; show k < w4.heap.size; omega
          · exact hk.2
end Go.Proofs.YthdcnknjjbdefaaGreatDoor
