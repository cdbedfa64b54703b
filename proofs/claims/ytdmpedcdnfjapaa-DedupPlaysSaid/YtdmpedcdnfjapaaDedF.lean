/- DedupOnce: what the statement's function does: it answers true. -/
import Derived.Test.YtdmpedcdnfjapaaDedE
import Derived.Test.YtdmpedcdnfjapaaBlR
import Derived.Test.YtdmpedcdnfjapaaBlL
import Derived.Deep.RegionHeld3
import Derived.Deep.DrawnRows
import Derived.Deep.CutBlock
import Derived.Deep.DeepCutAuto
import Derived.BigQuiet
namespace Go.Proofs.Ytdmpedcdnfjapaa
open Go.RowKit Go.Bl
attribute [local go_sem ↓] Go.wp_at_zero Go.wp_at_succ

theorem Tab.keep {X : Nat → Prop} {w w' : World} {p : Nat} {L : List En} (h : Tab X w p L) (hk : Keeps X w w') : Tab X w' p L := by
  obtain ⟨F, G, h1, h2⟩ := h
  exact ⟨F, G, h1.keep hk h2, h2⟩
theorem Tab.lt {X : Nat → Prop} {w : World} {p : Nat} {L : List En} (h : Tab X w p L) : ∃ F : Nat → Prop, (∀ k, F k → k < w.heap.size) ∧ ∃ G, TabAt w p L F G ∧ ∀ k, F k → ¬ X k := by
  obtain ⟨F, G, h1, h2⟩ := h
  have hl : ∀ k, F k → k < w.heap.size := by obtain ⟨bm, R, h3, _⟩ := h1; exact h3.lt
  exact ⟨F, hl, G, h1, h2⟩
theorem Tab.more {X X' : Nat → Prop} {w : World} {p : Nat} {L : List En} (h : Tab X w p L) (hm : ∀ k, X' k → X k ∨ w.heap.size ≤ k) : Tab X' w p L := by
  obtain ⟨F, hl, G, h1, h2⟩ := h.lt
  exact ⟨F, G, h1, fun k hF hx => by rcases hm k hx with e | e; exact h2 k hF e; have := hl k hF; omega⟩
theorem Tab.slide {B : Nat} {v v' : Value} {w w' : World} {p : Nat} {L : List En} (h : Tab (fun q => q < B ∨ v.ownBlock = some q) w p L) (hk : Keeps (fun q => v.ownBlock = some q) w w') (hv : ∀ q, v'.ownBlock = some q → v.ownBlock = some q ∨ w.heap.size ≤ q) :
    Tab (fun q => q < B ∨ v'.ownBlock = some q) w' p L :=
  (h.more (X' := fun q => q < B ∨ (v.ownBlock = some q ∨ v'.ownBlock = some q)) (fun k hx => by
    rcases hx with e | e | e
    · exact .inl (.inl e)
    · exact .inl (.inr e)
    · rcases hv k e with e | e
      · exact .inl (.inr e)
      · exact .inr e)).keep (hk.mono fun k _ e => .inr (.inl e)) |>.more fun k hx => by
    rcases hx with e | e
    · exact .inl (.inl e)
    · exact .inl (.inr (.inr e))

theorem neqOc_self (a b c d : Int) (w : World) : (binOp .neq 27 (.agg #[.int .i64 a, .int .i64 b, .int .i64 c, .int .i64 d]) (.agg #[.int .i64 a, .int .i64 b, .int .i64 c, .int .i64 d])).run Try.prog w = .ok (.bool false) w := by
  have u4 := Try.underlying3
  have a4 := Try.isAgg3
  have z4 := Try.sizeOf3
  have hS : Try.prog.underlying 27 = some (.struct (Try.prog.fieldsOf 27)) := by kernel_rfl
  have hp : Try.prog.stoodInHeld 27 = false := by kernel_rfl
  rw [run_neq_struct, show (10000 : Nat) = 9999 + 1 from rfl, run_equalIn_agg w 9999 27 _ _ hS hp]
  simp only [Program.fieldsOf, Try.underlying27]
  go_simp
theorem acc_one (x : Ac) (u : Value) (h : u ∈ acc x) : u.oneCell' = true := by
  simp only [acc, List.mem_cons, List.not_mem_nil, or_false] at h
  rcases h with rfl | rfl | rfl | rfl | rfl | rfl <;> rfl
theorem infoAc : (Try.prog.info? 31).map (fun i => (i.zero, i.size, i.bytes)) = some (some (.agg #[.int .i64 0, .int .i64 0, .int .i64 0, .int .i64 0, .int .i64 0, .int .i64 0]), 6, 48) := by kernel_rfl
theorem elAc : El Try.prog 22 31 6 48 acc := ⟨Try.underlying22, ⟨_, infoAc, rfl⟩, by decide, by decide, fun _ => rfl, acc_one⟩

def enA (a : Ac) : En := ⟨a.ses, a.seq, a.o⟩
/-- No number stands twice. -/
def OneL (L : List En) : Prop := ∀ e ∈ L, findL L e.ses e.seq = some e.o
theorem oneL_snoc {L : List En} (h : OneL L) {e : En} (hf : findL L e.ses e.seq = none) : OneL (L ++ [e]) := by
  intro x hx
  rw [findL_append]
  rcases List.mem_append.1 hx with hx | hx
  · rw [h x hx]; rfl
  · obtain rfl := List.mem_singleton.1 hx
    rw [hf]; simp
theorem oneL_look {L : List En} (h : OneL L) {e : En} (he : e ∈ L) : lookL L e.ses e.seq = (oc0, 2) ∨ lookL L e.ses e.seq = (e.o, 1) := by
  by_cases ho : e.seq < 1 ∨ e.seq ≤ highL L e.ses - 8
  · exact .inl (lookL_old ho)
  · exact .inr (lookL_known ho (h e he))
theorem putL_cases (L : List En) (x y : Int) (o : Oc) : (putL L x y o = (L ++ [⟨x, y, o⟩], 0) ∧ lookL L x y = (oc0, 0) ∧ findL L x y = none ∧ 1 ≤ x ∧ 1 ≤ y) ∨ ∃ c : Int, (c = 1 ∨ c = 7 ∨ c = 12) ∧ putL L x y o = (L, c) := by
  unfold putL
  by_cases hb : x < 1 ∨ y < 1
  · exact .inr ⟨1, .inl rfl, if_pos hb⟩
  · rw [if_neg hb]
    rcases lookL_cases L x y with ⟨h0, h1, h2, h3⟩ | h | h
    · refine .inl ⟨by rw [h0]; rfl, lookL_fresh (by omega) h3, h3, by omega, by omega⟩
    · exact .inr ⟨7, .inr (.inl rfl), by rw [h]; rfl⟩
    · exact .inr ⟨12, .inr (.inr rfl), by rw [h]; rfl⟩

theorem Tab.fence {X : Nat → Prop} {w : World} {p : Nat} {L : List En} (h : Tab X w p L) : Tab (fun q => X q ∨ q = w.heap.size) w p L :=
  h.more fun q hq => by rcases hq with e | e; exact .inl e; exact .inr (by omega)
/-- What 'o, is := t.Look(..)' leaves. -/
def LookCut (w : World) (X : Nat → Prop) (p : Nat) (L : List En) (r : Oc × Int) (s1 s2 : Value) (wx : World) : Prop :=
  ∃ g, s1 = .pointer (some ⟨g, 0, none⟩) ∧ s2 = .int .i64 r.2 ∧ w.heap.size ≤ g ∧ wx.heap[g]? = some (.cells (occ r.1).toArray 27 (0, 0)) ∧ Below w.heap.size w wx ∧ Tab X wx p L
theorem LookCut.new {w w2 : World} {X : Nat → Prop} {p : Nat} {L : List En} {r : Oc × Int} (hB : Below w.heap.size w w2) (hT : Tab (fun q => X q ∨ q = w.heap.size) w2 p L) :
    LookCut w X p L r (.pointer (some ⟨w2.heap.size, 0, none⟩)) (.int .i64 r.2) (w2.alloc (.cells #[.int .i64 r.1.code, .int .i64 r.1.pos, .int .i64 r.1.first, .int .i64 r.1.ver] 27)) :=
  ⟨_, rfl, rfl, hB.size, heap_alloc_new w2 _, hB.alloc hB.size _, (hT.fresh ((Below.refl _ _).alloc (Nat.le_refl _) _)).more fun _ hq => .inl (.inl hq)⟩
theorem LookCut.old {w w2 : World} {X : Nat → Prop} {p : Nat} {L : List En} {r : Oc × Int} {a b c d : Value} (hB : Below w.heap.size w w2) (hT : Tab (fun q => X q ∨ q = w.heap.size) w2 p L)
    (hblk : w2.heap[w.heap.size]? = some (.cells #[a, b, c, d] 27 (0, 0))) :
    LookCut w X p L r (.pointer (some ⟨w.heap.size, 0, none⟩)) (.int .i64 r.2) ((((w2.setCell ⟨w.heap.size, 0, none⟩ (.int .i64 r.1.code)).setCell ⟨w.heap.size, 1, none⟩ (.int .i64 r.1.pos)).setCell ⟨w.heap.size, 2, none⟩ (.int .i64 r.1.first)).setCell ⟨w.heap.size, 3, none⟩ (.int .i64 r.1.ver)) := by
  have hks : Keeps (fun q => q = w.heap.size) w2 _ := ((((Keeps.refl (fun q => q = w.heap.size) w2).setCell (p := ⟨w.heap.size, 0, none⟩) (fun _ => rfl) (.int .i64 r.1.code)).setCell (p := ⟨w.heap.size, 1, none⟩) (fun _ => rfl) (.int .i64 r.1.pos)).setCell (p := ⟨w.heap.size, 2, none⟩) (fun _ => rfl) (.int .i64 r.1.first)).setCell (p := ⟨w.heap.size, 3, none⟩) (fun _ => rfl) (.int .i64 r.1.ver)
  exact ⟨_, rfl, rfl, Nat.le_refl _, setCell_block' (o := 3) (setCell_block' (o := 2) (setCell_block' (o := 1) (setCell_block' (o := 0) hblk _) _) _) _, hB.trans (hks.below hB.size (fun q hq => by omega)), (hT.keep (hks.mono fun q _ hq => .inr hq)).more fun _ hq => .inl (.inl hq)⟩

def OnceRel (w : World) (p n : Nat) (vs i : Value) (wr : World) : Prop :=
  ∃ (k : Nat) (P : List Ac), k ≤ n ∧ P.length ≤ k ∧ i = .int .i64 k ∧ Tab (fun q => q < w.heap.size ∨ vs.ownBlock = some q) wr p (P.map enA) ∧ OneL (P.map enA) ∧ (∀ a ∈ P, AcOk a) ∧
    Own wr w.heap.size 31 6 acc vs P ∧ Below w.heap.size w wr
def OnceRel2 (w : World) (p k : Nat) (vs : Value) (wr : World) : Prop :=
  ∃ P : List Ac, P.length ≤ k + 1 ∧ Tab (fun q => q < w.heap.size ∨ vs.ownBlock = some q) wr p (P.map enA) ∧ OneL (P.map enA) ∧ (∀ a ∈ P, AcOk a) ∧
    Own wr w.heap.size 31 6 acc vs P ∧ Below w.heap.size w wr

set_option maxRecDepth 4000 in
set_option maxHeartbeats 4000000 in
theorem once_any (w : World) (G : Nat → Prop) (v : Value) (l : List Ac) (h : Sl w G 6 acc v l) (hok : ∀ a ∈ l, AcOk a) :
    Calls Try.prog 3 #[v] w fun e w' => e = .returned (.bool true) ∧ Below w.heap.size w w' := by
  obtain ⟨A, c, rfl, hA1, hA2⟩ := h.shape
  unfold maxLen at hA2
  have HA := Lib.hid h
  have HO := Lib.hid hok
  clear h hok
  go_enter Try.func3, Try.ntmps3
  go_wp2_with fail
  refine (shown_any w).mono ?_
  rintro e w0 ⟨rfl, hB0⟩
  have HB0 := Lib.hid hB0
  clear hB0
  go_wp2_with fail
  refine (newT w0 (fun k => k < w.heap.size) (fun k hk => Nat.lt_of_lt_of_le hk HB0.out.size)).mono ?_
  rintro e w1 ⟨p, rfl, hN1, hB1⟩
  have HN1 := Lib.hid hN1
  have HB1 := Lib.hid (HB0.out.trans (hB1.mono HB0.out.size))
  clear hN1 hB1 HB0
  by_cases h60 : l.length ≤ 60
  · have d60 : decide ((60 : Int) < (l.length : Int)) = false := by simp; omega
    go_wp2_with fail
    go_loopw [5, 6] (fun vs i wr => OnceRel w p l.length vs i wr) (fun _ i _ => l.length - (Go.RowKit.intOf i).toNat)
    case atStart =>
      refine ⟨0, [], Nat.zero_le _, by simp, rfl, ?_, by simp [OneL], by simp, Own.nil_ _ _ _ _ _, HB1.out⟩
      exact HN1.out.more (fun k hk => .inl (by simpa [Value.ownBlock] using hk))
    case round =>
      obtain ⟨k, P, hk, hP, rfl, hN, hone, hPok, hS, hB⟩ := hrel
      obtain ⟨As, cs, rfl, hsc1, hsc2⟩ := hS.shape_ rfl
      have HN := Lib.hid hN
      have HS := Lib.hid hS
      have HB := Lib.hid hB
      have HONE := Lib.hid hone
      have HPOK := Lib.hid hPok
      unfold maxLen at hsc2
      clear hN hS hB hone hPok
      by_cases hlt : k < l.length
      · obtain ⟨b, o, rfl, hGb, hbl, hx⟩ := HA.out.cell_ hlt
        have x0 := (HB.out.cell (p := ⟨b, _, none⟩) hbl).trans (hx 0 _ rfl)
        have x1 := (HB.out.cell (p := ⟨b, _, none⟩) hbl).trans (hx 1 _ rfl)
        simp only [Nat.add_zero] at x0
        have HX := Lib.hid hx
        clear hx
        obtain ⟨o1, o2⟩ := HO.out l[k] (List.getElem_mem hlt)
        have hXlt : ∀ q, (q < w.heap.size ∨ (Value.slice As P.length cs).ownBlock = some q) → q < wr.heap.size := fun q hq => by
          rcases hq with hq | hq
          · exact Nat.lt_of_lt_of_le hq HB.out.size
          · exact (HS.out.lt q hq).2
        have HXL := Lib.hid hXlt
        clear hXlt
        go_upto_region 10 with (fail)
        go_cut [7, 8] (fun s7 s8 wx => LookCut wr (fun q => q < w.heap.size ∨ (Value.slice As P.length cs).ownBlock = some q) p (P.map enA) (lookL (P.map enA) l[k].ses l[k].seq) s7 s8 wx)
        case first =>
          have hbwwr : b < wr.heap.size := World.block_lt_of_cell? _ _ x0
          have hnew0 := World.new_ne wr _ x0
          have hnew1 := World.new_ne wr _ x1
          have hWd : Below wr.heap.size wr wr.drew := ⟨rfl, rfl, rfl, Nat.le_refl _, fun _ _ => rfl⟩
          have HN2 := Lib.hid HN.out.fence
          go_wp2_with fail
          go_region_held3 (fun x => x.cell? ⟨b, o+k*6, none⟩ = some (.int .i64 l[k].ses) ∧ x.cell? ⟨b, o+k*6+1, none⟩ = some (.int .i64 l[k].seq))
            (first | exact ⟨by assumption, by assumption⟩ | go_keep)
            (first
              | (go_at_call 10
                 refine (lookT _ _ p _ (HN2.out.fresh (by first | exact hWd | exact hWd.alloc (Nat.le_refl _) _)) l[k].ses l[k].seq o1 o2).mono ?_
                 rintro e w2 ⟨rfl, hT2, hB2⟩
                 have hz2 := hB2.size
                 have hB2' : Below wr.heap.size wr w2 := by
                   first
                   | exact hWd.trans hB2
                   | exact (hWd.alloc (Nat.le_refl _) _).trans (hB2.mono (by simp))
                 try
                   (have hblk := (Keeps.of_fresh hB2 (fun _ => False)).grownTo (heap_alloc_new wr.drew (.cells #[.int .i64 0, .int .i64 0, .int .i64 0, .int .i64 0] 27)) id
                    have q0 : w2.cell? ⟨wr.heap.size, 0, none⟩ = some (.int .i64 0) := cell_of_row w2 _ 0 _ _ _ hblk
                    have q1 : w2.cell? ⟨wr.heap.size, 1, none⟩ = some (.int .i64 0) := cell_of_row w2 _ 1 _ _ _ hblk
                    have q2 : w2.cell? ⟨wr.heap.size, 2, none⟩ = some (.int .i64 0) := cell_of_row w2 _ 2 _ _ _ hblk
                    have q3 : w2.cell? ⟨wr.heap.size, 3, none⟩ = some (.int .i64 0) := cell_of_row w2 _ 3 _ _ _ hblk
                    have f0 : w2.frozen? ⟨wr.heap.size, 0, none⟩ = false := frozen_block hblk 0
                    have f1 : w2.frozen? ⟨wr.heap.size, 1, none⟩ = false := frozen_block hblk 1
                    have f2 : w2.frozen? ⟨wr.heap.size, 2, none⟩ = false := frozen_block hblk 2
                    have f3 : w2.frozen? ⟨wr.heap.size, 3, none⟩ = false := frozen_block hblk 3
                    have HBLK := Lib.hid hblk
                    clear hblk)
                 have HT2 := Lib.hid hT2
                 have HB2 := Lib.hid hB2'
                 have y0 := (hB2'.cell (p := ⟨b, o+k*6, none⟩) hbwwr).trans x0
                 have y1 := (hB2'.cell (p := ⟨b, o+k*6+1, none⟩) hbwwr).trans x1
                 clear hT2 hB2 hB2'))
          all_goals go_wp2_with fail
          all_goals go_meet
          · exact LookCut.new HB2.out HT2.out
          · exact LookCut.old HB2.out HT2.out HBLK.out
        case rest =>
          obtain ⟨g9, rfl, rfl, _, _, hB3, hT3⟩ := hcut
          have HX3 := Lib.hid hB3
          have HT3 := Lib.hid hT3
          have hbw : b < wr.heap.size := Nat.lt_of_lt_of_le hbl HB.out.size
          have z0 := (hB3.cell (p := ⟨b, o + k * 6, none⟩) hbw).trans x0
          have z1 := (hB3.cell (p := ⟨b, o + k * 6 + 1, none⟩) hbw).trans x1
          have z2 := (hB3.cell (p := ⟨b, o + k * 6 + 2, none⟩) hbw).trans ((HB.out.cell (p := ⟨b, _, none⟩) hbl).trans (HX.out 2 _ rfl))
          have z3 := (hB3.cell (p := ⟨b, o + k * 6 + 3, none⟩) hbw).trans ((HB.out.cell (p := ⟨b, _, none⟩) hbl).trans (HX.out 3 _ rfl))
          have z4 := (hB3.cell (p := ⟨b, o + k * 6 + 4, none⟩) hbw).trans ((HB.out.cell (p := ⟨b, _, none⟩) hbl).trans (HX.out 4 _ rfl))
          have z5 := (hB3.cell (p := ⟨b, o + k * 6 + 5, none⟩) hbw).trans ((HB.out.cell (p := ⟨b, _, none⟩) hbl).trans (HX.out 5 _ rfl))
          clear x0 x1 hB3 hT3
          have HS3 := Lib.hid (HS.out.fresh HX3.out)
          have HB3 := Lib.hid (HB.out.trans (HX3.out.mono HB.out.size))
          have hput := fun wy hXy hTy => putT wy (fun q => q < w.heap.size ∨ (Value.slice As P.length cs).ownBlock = some q) hXy p (P.map enA) hTy l[k].ses l[k].seq o1 o2 l[k].o (by simp; omega)
          obtain ⟨L', cc, hpl⟩ : ∃ L' cc, putL (P.map enA) l[k].ses l[k].seq l[k].o = (L', cc) := ⟨_, _, rfl⟩
          have hcs := putL_cases (P.map enA) l[k].ses l[k].seq l[k].o
          rw [hpl] at hput hcs
          obtain ⟨was, hwas⟩ : ∃ was, (lookL (P.map enA) l[k].ses l[k].seq).2 = was := ⟨_, rfl⟩
          rw [hwas]
          have HPUT := Lib.hid hput
          have HCS := Lib.hid hcs
          have HWAS := Lib.hid hwas
          clear hput hpl hcs hwas
          go_wp2_with fail
          go_still_tail 16, (by kernel_rfl)
          change wpList _ _ _ _ _ wc.drew
          go_wp2_with fail
          refine (HPUT.out wc.drew (fun q hq => Nat.lt_of_lt_of_le (HXL.out q hq) HX3.out.size) (HT3.out.fresh ⟨rfl, rfl, rfl, Nat.le_refl _, fun _ _ => rfl⟩)).mono ?_
          rintro e w4 ⟨rfl, hT4, hK4⟩
          have hK4' : Keeps (fun q => ¬ (q < w.heap.size ∨ (Value.slice As P.length cs).ownBlock = some q)) wc w4 := ⟨hK4.os, hK4.tape, hK4.output, hK4.size, hK4.block⟩
          have HT4 := Lib.hid hT4
          have HS4 := Lib.hid (HS3.out.keep hK4' (fun q hq hn => hn (.inr hq)))
          have HB4 := Lib.hid (HB3.out.trans (below_not hK4' HB3.out.size (fun q hq => .inl hq)))
          have c0 := (hK4'.cell (a := ⟨b, o + k * 6, none⟩) (Nat.lt_of_lt_of_le hbl HB3.out.size) (fun h => h (.inl hbl))).trans z0
          have c1 := (hK4'.cell (a := ⟨b, o + k * 6 + 1, none⟩) (Nat.lt_of_lt_of_le hbl HB3.out.size) (fun h => h (.inl hbl))).trans z1
          have c2 := (hK4'.cell (a := ⟨b, o + k * 6 + 2, none⟩) (Nat.lt_of_lt_of_le hbl HB3.out.size) (fun h => h (.inl hbl))).trans z2
          have c3 := (hK4'.cell (a := ⟨b, o + k * 6 + 3, none⟩) (Nat.lt_of_lt_of_le hbl HB3.out.size) (fun h => h (.inl hbl))).trans z3
          have c4 := (hK4'.cell (a := ⟨b, o + k * 6 + 4, none⟩) (Nat.lt_of_lt_of_le hbl HB3.out.size) (fun h => h (.inl hbl))).trans z4
          have c5 := (hK4'.cell (a := ⟨b, o + k * 6 + 5, none⟩) (Nat.lt_of_lt_of_le hbl HB3.out.size) (fun h => h (.inl hbl))).trans z5
          clear hT4 hK4 hK4' z0 z1 z2 z3 z4 z5
          go_upto_if 70 with (fail)
          go_cut [5] (fun vs wx => OnceRel2 w p k vs wx)
          case first =>
            rcases HCS.out with ⟨hpl, hll, hfn, _, _⟩ | ⟨c2', hcc, hpl⟩
            · injection hpl with e1 e2
              subst e1 e2
              obtain rfl : was = 0 := by rw [← HWAS.out, hll]
              have HFN := Lib.hid hfn
              clear hfn hll
              have hnew := Lib.hid (Sl.single (k := 6) (enc := acc) (x := l[k]) (heap_alloc_new w4 (.cells #[.int .i64 l[k].ses, .int .i64 l[k].seq, .int .i64 l[k].o.code, .int .i64 l[k].o.pos, .int .i64 l[k].o.first, .int .i64 l[k].o.ver] 31)) rfl)
              go_wp2_with (at_builtin; refine elAc.append _ (by rfl) (.tmp 73) (.tmp 78) (by rfl) w.heap.size _ _ (by rfl) (HS4.out.fresh ((Below.refl _ _).alloc (Nat.le_refl _) _)) _ _ _ (by rfl) hnew.out ?_ ?_ ?_; (simp; omega); (have := HB4.out.size; simp; omega); intro v' w5 hown' hgrow hat; have Hown := Lib.hid hown'; clear hown')
              go_meet
              have hkk : Keeps (fun q => (Value.slice As P.length cs).ownBlock = some q) w4 w5 := ((Keeps.refl _ w4).alloc _).grown hgrow (fun q hq _ => hq)
              have hat' : ∀ q, v'.ownBlock = some q → (Value.slice As P.length cs).ownBlock = some q ∨ w4.heap.size ≤ q := fun q hq => by
                rcases hat with e | e
                · exact .inl (e ▸ hq)
                · rw [e] at hq; simp at hq; exact .inr (by omega)
              refine ⟨P ++ [l[k]], by simp; omega, ?_, ?_, ?_, Hown.out, HB4.out.trans (hkk.below HB4.out.size (fun q hq => (HS4.out.lt q hq).1))⟩
              · rw [List.map_append]
                exact HT4.out.slide hkk hat'
              · rw [List.map_append]
                exact oneL_snoc HONE.out HFN.out
              · intro a ha
                rcases List.mem_append.1 ha with ha | ha
                · exact HPOK.out a ha
                · obtain rfl := List.mem_singleton.1 ha
                  exact ⟨o1, o2⟩
            · injection hpl with e1 e2
              subst e1 e2
              rcases hcc with rfl | rfl | rfl
              all_goals go_wp2_with fail
              all_goals go_meet
              all_goals exact ⟨P, by omega, HT4.out, HONE.out, HPOK.out, HS4.out, HB4.out⟩
          case rest =>
            obtain ⟨P', hP', hT', hone', hPok', hS', hB'⟩ := hcut
            obtain ⟨Ap, cp, rfl, hp1, hp2⟩ := hS'.shape_ rfl
            unfold maxLen at hp2
            have HT' := Lib.hid hT'
            have HS' := Lib.hid hS'
            have HB' := Lib.hid hB'
            have HON' := Lib.hid hone'
            have HPO' := Lib.hid hPok'
            obtain ⟨wq, hwq⟩ : ∃ wq, wq = wc := ⟨_, rfl⟩
            subst hwq
            clear hT' hS' hB' hone' hPok' HS3 HS4 HB3 HB4 HT3 HT4 HPUT HX3 HXL c0 c1 c2 c3 c4 c5 HCS HWAS HN HS HB HX HONE HPOK hsc1 hsc2
            go_wp2_with fail
            go_loopw [10] (fun i wx => ∃ m : Nat, m ≤ P'.length ∧ i = .int .i64 m ∧ Below wq.heap.size wq wx) (fun i _ => P'.length - (Go.RowKit.intOf i).toNat)
            case atStart => exact ⟨0, Nat.zero_le _, rfl, Below.refl _ _⟩
            case round =>
              obtain ⟨m, hm, rfl, hBq⟩ := hrel
              have HBQ := Lib.hid hBq
              clear hBq
              obtain ⟨wv, hwv⟩ : ∃ wv, wv = wr := ⟨_, rfl⟩
              subst hwv
              by_cases hmt : m < P'.length
              · obtain ⟨b6, o6, rfl, hb60, hb6, hx6⟩ := (HS'.out.sl elAc.len).cell_ hmt
                have x0 := (HBQ.out.cell (p := ⟨b6, _, none⟩) hb6).trans (hx6 0 _ rfl)
                have x1 := (HBQ.out.cell (p := ⟨b6, _, none⟩) hb6).trans (hx6 1 _ rfl)
                simp only [Nat.add_zero] at x0
                have HX6 := Lib.hid hx6
                have HTQ := Lib.hid (HT'.out.fresh HBQ.out)
                obtain ⟨i1, i2⟩ := HPO'.out P'[m] (List.getElem_mem hmt)
                clear hx6
                have hlook := oneL_look HON'.out (List.mem_map.2 ⟨P'[m], List.getElem_mem hmt, rfl⟩)
                have HLO := Lib.hid hlook
                clear hlook
                go_upto_region 19 with (fail)
                go_cut [11, 12] (fun s11 s12 wx => LookCut wv (fun q => q < w.heap.size ∨ (Value.slice (some ⟨b6, o6, none⟩) P'.length cp).ownBlock = some q) p (P'.map enA) (lookL (P'.map enA) P'[m].ses P'[m].seq) s11 s12 wx)
                case first =>
                  have hbwwv : b6 < wv.heap.size := World.block_lt_of_cell? _ _ x0
                  have hnew0 := World.new_ne wv _ x0
                  have hnew1 := World.new_ne wv _ x1
                  have hWd : Below wv.heap.size wv wv.drew := ⟨rfl, rfl, rfl, Nat.le_refl _, fun _ _ => rfl⟩
                  have HN2 := Lib.hid HTQ.out.fence
                  go_wp2_with fail
                  go_region_held3 (fun x => x.cell? ⟨b6, o6+m*6, none⟩ = some (.int .i64 P'[m].ses) ∧ x.cell? ⟨b6, o6+m*6+1, none⟩ = some (.int .i64 P'[m].seq))
                    (first | exact ⟨by assumption, by assumption⟩ | go_keep)
                    (first
                      | (go_at_call 10
                         refine (lookT _ _ p _ (HN2.out.fresh (by first | exact hWd | exact hWd.alloc (Nat.le_refl _) _)) P'[m].ses P'[m].seq i1 i2).mono ?_
                         rintro e w2 ⟨rfl, hT2, hB2⟩
                         have hz2 := hB2.size
                         have hB2' : Below wv.heap.size wv w2 := by
                           first
                           | exact hWd.trans hB2
                           | exact (hWd.alloc (Nat.le_refl _) _).trans (hB2.mono (by simp))
                         try
                           (have hblk := (Keeps.of_fresh hB2 (fun _ => False)).grownTo (heap_alloc_new wv.drew (.cells #[.int .i64 0, .int .i64 0, .int .i64 0, .int .i64 0] 27)) id
                            have q0 : w2.cell? ⟨wv.heap.size, 0, none⟩ = some (.int .i64 0) := cell_of_row w2 _ 0 _ _ _ hblk
                            have q1 : w2.cell? ⟨wv.heap.size, 1, none⟩ = some (.int .i64 0) := cell_of_row w2 _ 1 _ _ _ hblk
                            have q2 : w2.cell? ⟨wv.heap.size, 2, none⟩ = some (.int .i64 0) := cell_of_row w2 _ 2 _ _ _ hblk
                            have q3 : w2.cell? ⟨wv.heap.size, 3, none⟩ = some (.int .i64 0) := cell_of_row w2 _ 3 _ _ _ hblk
                            have f0 : w2.frozen? ⟨wv.heap.size, 0, none⟩ = false := frozen_block hblk 0
                            have f1 : w2.frozen? ⟨wv.heap.size, 1, none⟩ = false := frozen_block hblk 1
                            have f2 : w2.frozen? ⟨wv.heap.size, 2, none⟩ = false := frozen_block hblk 2
                            have f3 : w2.frozen? ⟨wv.heap.size, 3, none⟩ = false := frozen_block hblk 3
                            have HBLK := Lib.hid hblk
                            clear hblk)
                         have HT2 := Lib.hid hT2
                         have HB2 := Lib.hid hB2'
                         have y0 := (hB2'.cell (p := ⟨b6, o6+m*6, none⟩) hbwwv).trans x0
                         have y1 := (hB2'.cell (p := ⟨b6, o6+m*6+1, none⟩) hbwwv).trans x1
                         clear hT2 hB2 hB2'))
                  all_goals go_wp2_with fail
                  all_goals go_meet
                  · exact LookCut.new HB2.out HT2.out
                  · exact LookCut.old HB2.out HT2.out HBLK.out
                case rest =>
                  obtain ⟨g8, rfl, rfl, hg8, hblk8, hB8, hT8⟩ := hcut
                  have HB8 := Lib.hid (HBQ.out.trans (hB8.mono HBQ.out.size))
                  have hne := neqOc_self
                  have HT8 := Lib.hid hT8
                  clear hT8
                  rcases HLO.out with hlk | hlk
                  · rw [show lookL (P'.map enA) P'[m].ses P'[m].seq = (oc0, 2) from hlk] at hblk8 ⊢
                    have a0 : wc.cell? ⟨g8, 0, none⟩ = some (.int .i64 0) := cell_of_row _ g8 0 _ _ _ hblk8
                    have a1 : wc.cell? ⟨g8, 1, none⟩ = some (.int .i64 0) := cell_of_row _ g8 1 _ _ _ hblk8
                    have a2 : wc.cell? ⟨g8, 2, none⟩ = some (.int .i64 0) := cell_of_row _ g8 2 _ _ _ hblk8
                    have a3 : wc.cell? ⟨g8, 3, none⟩ = some (.int .i64 0) := cell_of_row _ g8 3 _ _ _ hblk8
                    clear hblk8 hlk hB8 hg8 x0 x1
                    go_wp2_with fail
                    go_quiet (fail)
                    go_wp2_with fail
                    go_roundw
                    case rel => exact ⟨m + 1, hmt, by go_num, HB8.out.trans ⟨rfl, rfl, rfl, Nat.le_refl _, fun _ _ => rfl⟩⟩
                    case measure => simp [Go.RowKit.intOf]; omega
                  · rw [show lookL (P'.map enA) P'[m].ses P'[m].seq = (P'[m].o, 1) from hlk] at hblk8 ⊢
                    have a0 : wc.cell? ⟨g8, 0, none⟩ = some (.int .i64 P'[m].o.code) := cell_of_row _ g8 0 _ _ _ hblk8
                    have a1 : wc.cell? ⟨g8, 1, none⟩ = some (.int .i64 P'[m].o.pos) := cell_of_row _ g8 1 _ _ _ hblk8
                    have a2 : wc.cell? ⟨g8, 2, none⟩ = some (.int .i64 P'[m].o.first) := cell_of_row _ g8 2 _ _ _ hblk8
                    have a3 : wc.cell? ⟨g8, 3, none⟩ = some (.int .i64 P'[m].o.ver) := cell_of_row _ g8 3 _ _ _ hblk8
                    have e2 := (HB8.out.cell (p := ⟨b6, _, none⟩) hb6).trans (HX6.out 2 _ rfl)
                    have e3 := (HB8.out.cell (p := ⟨b6, _, none⟩) hb6).trans (HX6.out 3 _ rfl)
                    have e4 := (HB8.out.cell (p := ⟨b6, _, none⟩) hb6).trans (HX6.out 4 _ rfl)
                    have e5 := (HB8.out.cell (p := ⟨b6, _, none⟩) hb6).trans (HX6.out 5 _ rfl)
                    clear hblk8 hlk hB8 hg8 x0 x1
                    go_wp2_with fail
                    go_quiet (fail)
                    go_wp2_with fail
                    go_roundw
                    case rel => exact ⟨m + 1, hmt, by go_num, HB8.out.trans ⟨rfl, rfl, rfl, Nat.le_refl _, fun _ _ => rfl⟩⟩
                    case measure => simp [Go.RowKit.intOf]; omega
              · have hmd : m = P'.length := by omega
                subst hmd
                go_wp2_with fail
                go_roundw
                case rel => exact ⟨k + 1, P', by omega, by omega, by go_num, HT'.out.fresh HBQ.out, HON'.out, HPO'.out, HS'.out.fresh HBQ.out, HB'.out.trans (HBQ.out.mono HB'.out.size)⟩
                case measure => simp [Go.RowKit.intOf]; omega
      · have hkd : k = l.length := by omega
        subst hkd
        go_wp2_with fail
        go_ret
        exact ⟨rfl, HB.out⟩
  · have d60 : decide ((60 : Int) < (l.length : Int)) = true := by simp; omega
    go_wp2_with fail
    go_ret
    exact ⟨rfl, HB1.out⟩
end Go.Proofs.Ytdmpedcdnfjapaa
