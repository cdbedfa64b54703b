/- Frames: frame.Scan. -/
import Derived.Test.YtoegdpcfhmjnaaaDoorFrmB
import Derived.RangeFuncNested
namespace Go.Proofs.YtoegdpcfhmjnaaaDoor
open Go.RowKit Go.Bl Go.Shelf
attribute [local go_sem] Oper.semAt_some

def strF (s : ByteArray) : List Value := [.string s]
theorem infoStrF : (Tryd.prog.info? 9).map (fun i => (i.zero, i.size, i.bytes)) = some (some (.string ⟨#[]⟩), 1, 16) := by kernel_rfl
/-- Where the last frame ends. -/
def lastEnd (pre : List (ByteArray × Int)) : Int := (pre.getLast?.map Prod.snd).getD 0
def payl (pre : List (ByteArray × Int)) : List ByteArray := pre.map Prod.fst
theorem endS_len (T : Nat) : ∀ (f : Nat) (s : List UInt8), s.length ≤ f → (endS T s).length ≤ s.length
  | f, s, hf => by
    by_cases e : (tkF crcU s).2.2 = 0
    · have hl := (tkF_len crcU (tkF_eta crcU e)).1
      rw [endS_cons T e, List.length_cons]
      match f, hf with
      | 0, hf => omega
      | f + 1, hf =>
        have := endS_len T f (tkF crcU s).2.1 (by omega)
        omega
    · rw [endS_nil T e]; simp
theorem ownsRow_lower {w : World} {base base' : Nat} {e : TypeId} {size k : Nat} {v : Value} {xs : List Value} (h : w.ownsRow base e size v k xs) (hb : base' ≤ base) : w.ownsRow base' e size v k xs := by
  obtain ⟨h1, h2⟩ := h
  exact ⟨h1, h2.imp id fun ⟨g, cap, cur, e1, e2, e3⟩ => ⟨g, cap, cur, e1, Nat.le_trans hb e2, e3⟩⟩
set_option maxRecDepth 100000 in
set_option maxHeartbeats 2000000 in
theorem scan_in (s : ByteArray) (hs : s.size ≤ 1073741824) (w : World) :
    CallsIn Fence.wide 6 Tryd.prog 34 #[.string s] w fun e W' => ∃ v, e = .returned (.tuple #[v, .int .i64 (lastEnd (endS s.size (Lb s)))]) ∧ W'.ownsRow w.heap.size 9 1 v (payl (endS s.size (Lb s))).length ((payl (endS s.size (Lb s))).map Value.string) ∧ Below w.heap.size w W' := by
  obtain ⟨i0, hi, hz0, hz1, hz2⟩ := info_parts infoStrF
  have hEl : (endS s.size (Lb s)).length ≤ s.size := endS_len _ _ _ (Nat.le_refl _)
  refine callsIn_of_wp_marks Tryd.func34 rfl trivial ?_ rfl
  simp only [Tryd.ntmps34, List.size_toArray, List.length_cons, List.length_nil, Nat.reduceAdd, Nat.reduceSub, Array.replicate_succ, Array.replicate_zero, List.push_toArray, List.append_toArray, List.nil_append, List.cons_append]
  gi_wp2_with fail
  refine ⟨trivial, (frames_in _ _ _).mono ?_⟩
  rintro e w' ⟨rfl, rfl⟩
  gi_wp2_with fail
  obtain ⟨W0, hW0⟩ : ∃ W0, ((w.alloc (.cells #[.slice none 0 0] 85)).alloc (.cells #[.int .i64 0] 3)).alloc (.cells #[.string s] 9) = W0 := ⟨_, rfl⟩
  have bO : Boxed W0 w.heap.size 85 (.slice none 0 0) := by rw [← hW0]; exact ((Boxed.new w 85 (.slice none 0 0)).alloc _).alloc _
  have bN : Boxed W0 (w.heap.size + 1) 3 (.int .i64 0) := by
    rw [← hW0]
    have := (Boxed.new (w.alloc (.cells #[.slice none 0 0] 85)) 3 (.int .i64 0)).alloc (.cells #[.string s] 9)
    rwa [World.size_alloc] at this
  have bS : Boxed W0 (w.heap.size + 1 + 1) 9 (.string s) := by
    rw [← hW0]
    have := Boxed.new ((w.alloc (.cells #[.slice none 0 0] 85)).alloc (.cells #[.int .i64 0] 3)) 9 (.string s)
    rwa [World.size_alloc, World.size_alloc] at this
  have hB0 : Below w.heap.size w W0 := by rw [← hW0]; exact (((Below.refl _ w).alloc (Nat.le_refl _) _).alloc (by simp) _).alloc (by simp; omega) _
  have hsz : W0.heap.size = w.heap.size + 3 := by rw [← hW0]; simp
  rw [hW0]
  have HZ := Lib.hid hsz
  clear hW0 hsz
  refine wpIn_rangeFunc_ownG rfl (by omega) (gf := 55) (lb := #[.pointer (some ⟨w.heap.size + 1 + 1, 0, none⟩)]) rfl trivial (enters_of Tryd.func55 (by kernel_rfl) rfl)
    (frames_stops 5 (by omega) (w.heap.size + 1 + 1) s (by omega) W0 bS.cell) KpB.t (fun W l o o' hl ho _ _ => KpB.of_grown (grownBy_putObj' W l o') (by have := HZ.out; have := (Array.getElem?_eq_some_iff.1 ho).1; omega) (fun e => by cases e; have := HZ.out; omega)) (Below.refl _ _) (fun _ => rfl)
    (fun pre W => ((∃ v, Boxed W w.heap.size 85 v ∧ W.ownsRow (w.heap.size + 3) 9 1 v (payl pre).length ((payl pre).map Value.string) ∧ True) ∧ Boxed W (w.heap.size + 1) 3 (.int .i64 (lastEnd pre)) ∧ Boxed W (w.heap.size + 1 + 1) 9 (.string s)) ∧ Below w.heap.size w W)
    (fun _ _ _ => False)
    (OwnFrom.and (OwnFrom.and (Own.from (holdsRow_own (w.heap.size + 3) w.heap.size 85 9 1 (fun pre => (payl pre).length) (fun pre => (payl pre).map Value.string) (fun _ _ => True)) _) (OwnFrom.and (Own.from (boxed_own (w.heap.size + 1) 3 (fun pre => Value.int .i64 (lastEnd pre))) _) (Own.from (boxed_own (w.heap.size + 1 + 1) 9 (fun _ => Value.string s)) _))) (ownFrom_below (Nat.le_refl _) (by rw [HZ.out]; omega)))
    (fun _ _ _ _ _ hs _ _ => hs)
    ⟨⟨⟨_, bO, World.ownsRow_nil _ _ _ _, trivial⟩, bN, bS⟩, hB0⟩
    (fun x => { tmps := #[.string s, undef, .slice none 0 0, .int .i64 0, .pointer (some ⟨w.heap.size, 0, none⟩), .pointer (some ⟨w.heap.size + 1, 0, none⟩), .string x.1, .int .i64 x.2, .string s, .func (.func 55) #[] #[.pointer (some ⟨w.heap.size + 1 + 1, 0, none⟩)], .string x.1, .int .i64 x.2, undef, undef, undef, undef, undef, undef, undef], defers := [] }) ?assign ?body ?done ?stop
  case assign =>
    intro l x W K hK
    gi_wp2
    exact hK
  case body =>
    rintro l pre x W ⟨⟨⟨v, hv, hrow, _⟩, hn, hs0⟩, hB⟩ hlt
    have hc := hv.cell
    have hpl : (payl pre).length = pre.length := by simp [payl]
    have HPL := Lib.hid hpl
    have hlt2 : (payl pre).length < s.size := by omega
    clear hpl
    gi_wp2_with (gi_at_builtin; go_loud (refine wpListIn_append_own _ rfl _ _ 85 rfl (w.heap.size + 3) 9 i0 (.string ⟨#[]⟩) 1 16 Tryd.underlying85 hi hz0 hz1 hz2 rfl (by decide) _ _ _ rfl (hrow.alloc _) ⟨W.heap.size, 0, none⟩ 1 1 [.string x.1] rfl rfl (cell_one_new _ _ _) (by simp [Value.oneCell']) (by unfold maxLen; omega) (by omega) (by have := hs0.lt; simp; omega) ?_; intro v' w1 hown' hgrow _; obtain ⟨g', cap', rfl⟩ := ownsRow_succ hown'; obtain ⟨hv1, hv2, _, hk2, hb2⟩ := hv.appended (by decide) (ownsRow_lower hrow (by omega)) hB.size (Nat.le_refl _) (ownsRow_lower hown' (by omega)) hgrow; have hn1 := (hn.alloc (.cells #[.string x.1] 9)).kept hgrow (hn.not_row (by decide) hrow); have hn2 := hn1.other (B' := w.heap.size) (by omega) (.slice (some ⟨g', 0, none⟩) ((payl pre).length + 1) cap'); have hs1 := (hs0.alloc (.cells #[.string x.1] 9)).kept hgrow (fun e => by have := (World.ownsRow.lt hrow _ e.symm).1; omega); have hs2 := (hs1.other (B' := w.heap.size) (by omega) (.slice (some ⟨g', 0, none⟩) ((payl pre).length + 1) cap')).other (B' := w.heap.size + 1) (by omega) (.int .i64 x.2); have hr3 := (hown'.kept (grownBy_setCell' w1 w.heap.size (.slice (some ⟨g', 0, none⟩) ((payl pre).length + 1) cap')) (.inr (fun e => by have := (World.ownsRow.lt hown' _ e).1; omega))).kept (grownBy_setCell' _ (w.heap.size + 1) (.int .i64 x.2)) (.inr (fun e => by have := (World.ownsRow.lt hown' _ e).1; omega)); have hc1 := hv1.cell; have hf1 := hv1.frozen; have hc2 := hn2.cell; have hf2 := hn2.frozen; have HG := Lib.hid hgrow; clear hgrow))
    refine ⟨(hk2.trans (KeepsOthers.setCell _ _ _)).from _, ⟨Nat.le_trans hb2.size (KeepsOthers.setCell _ _ _).size, (show _ = _ from hs2).trans (show _ = _ from hs0).symm⟩, ⟨⟨_, hv2.other (by omega) _, ?_, trivial⟩, ?_, hs2⟩, (hB.trans hb2).setCell (p := ⟨w.heap.size + 1, 0, none⟩) (by simp) _⟩
    · have e1 : payl (pre ++ [x]) = payl pre ++ [x.1] := by simp [payl]
      rw [e1, List.length_append, List.map_append]
      exact hr3
    · have e2 : lastEnd (pre ++ [x]) = x.2 := by simp [lastEnd]
      rw [e2]
      exact hn2.set _
  case done =>
    rintro D ys W hD rfl ⟨⟨⟨v, hv, hrow, _⟩, hn, _⟩, hB⟩ hK
    have hc := hv.cell
    have hc2 := hn.cell
    gi_wp2
    gi_region
    gi_wp2
    have hK' : W.drew.heap[D]? = some (.deferred (some [])) := hK
    refine ⟨by simp, .inl ⟨_, _, rfl, run_takeDeferred hK', ?_⟩⟩
    refine ⟨_, results_tmp2 rfl _ _ _, v, rfl, ownsRow_lower (ownsRow_putObj (W := W.drew) hrow _ hK' rfl) (by omega), ?_⟩
    have hBd : Below w.heap.size w W.drew := hB.trans ⟨rfl, rfl, rfl, Nat.le_refl _, fun _ _ => rfl⟩
    exact hBd.trans (belowK_b (w := w) (Nat.le_refl _) W.drew D _ _ (by have := HZ.out; omega) hK' rfl rfl)
  case stop =>
    rintro D c pre W _ _ h _
    exact h.elim
/-- The frames that bytes begin with, as a slice of texts, and how many bytes they are. -/
theorem scan_any (w : World) (s : ByteArray) (hs : s.size ≤ 1073741824) : Calls Tryd.prog 34 #[.string s] w fun e w' => ∃ v, e = .returned (.tuple #[v, .int .i64 ((s.size : Int) - ((scanS crcU (Lb s)).2.length : Int))]) ∧ Sl w' (fun k => w.heap.size ≤ k) 1 strF v ((scanS crcU (Lb s)).1.map Bl) ∧ Below w.heap.size w w' := by
  refine (callsIn_wide.1 (scan_in s hs w)).mono ?_
  rintro e w' ⟨v, rfl, hr, hB⟩
  obtain ⟨h1, h2⟩ := endS_scan s.size s.size (Lb s) (Nat.le_refl _)
  have e1 : payl (endS s.size (Lb s)) = (scanS crcU (Lb s)).1.map Bl := h1
  have e2 : lastEnd (endS s.size (Lb s)) = (s.size : Int) - ((scanS crcU (Lb s)).2.length : Int) := by
    rw [← h2, Lb_len, Int.sub_self]
    rfl
  rw [e2]
  rw [e1] at hr
  refine ⟨v, rfl, ?_, hB⟩
  have h3 : w'.ownsRow w.heap.size 9 1 v ((scanS crcU (Lb s)).1.map Bl).length (((scanS crcU (Lb s)).1.map Bl).flatMap strF) := by
    rw [show ((scanS crcU (Lb s)).1.map Bl).flatMap strF = ((scanS crcU (Lb s)).1.map Bl).map Value.string by
      generalize (scanS crcU (Lb s)).1.map Bl = L
      induction L with
      | nil => rfl
      | cons x L ih => rw [List.flatMap_cons, List.map_cons, ih]; rfl]
    exact hr
  exact (Sl.of_own (enc := strF) (fun _ => rfl) h3).mono (fun k _ e => (World.ownsRow.lt h3 k e).1)
end Go.Proofs.YtoegdpcfhmjnaaaDoor
