/- Frames: frame.Scan. -/
import Derived.RangeFuncBox
import Derived.RangeFuncLeaves
import Derived.Shelf.Abstract
import Derived.WalkKit
import Derived.OwnWalkIn
import Derived.TacticsInMore
import Derived.LoopNIn
import Derived.LoopIn
import Derived.Test.YtoegdpcfhmjnaaaGreatDoorFrmA
import Derived.RangeFuncNested
/- Frames: what goes over those that bytes begin with (frame.frames, its closure). -/
namespace Go.Proofs.YtoegdpcfhmjnaaaGreatDoor
open Go.RowKit Go.Bl Go.Shelf
attribute [local go_sem] Oper.semAt_some

/-- The frames that bytes begin with: each payload, and where its frame ends (of T bytes). -/
def endF (T : Nat) : Nat → List UInt8 → List (ByteArray × Int)
  | 0, _ => []
  | f + 1, s => if (tkF crcU s).2.2 = 0 then (Bl (tkF crcU s).1, (T : Int) - ((tkF crcU s).2.1.length : Int)) :: endF T f (tkF crcU s).2.1 else []
theorem endF_fuel (T : Nat) : ∀ (f g : Nat) (s : List UInt8), s.length ≤ f → f ≤ g → endF T g s = endF T f s
  | 0, 0, _, _, _ => rfl
  | 0, g + 1, s, h, _ => by
    unfold endF
    rw [if_neg]
    intro e
    have := (tkF_len crcU (tkF_eta crcU e)).1
    omega
  | f + 1, 0, _, _, h => by omega
  | f + 1, g + 1, s, h, hg => by
    unfold endF
    by_cases e : (tkF crcU s).2.2 = 0
    · rw [if_pos e, if_pos e]
      have := (tkF_len crcU (tkF_eta crcU e)).1
      rw [endF_fuel T f g _ (by omega) (by omega)]
    · rw [if_neg e, if_neg e]
def endS (T : Nat) (s : List UInt8) : List (ByteArray × Int) := endF T s.length s
theorem endS_cons (T : Nat) {s : List UInt8} (e : (tkF crcU s).2.2 = 0) : endS T s = (Bl (tkF crcU s).1, (T : Int) - ((tkF crcU s).2.1.length : Int)) :: endS T (tkF crcU s).2.1 := by
  have := (tkF_len crcU (tkF_eta crcU e)).1
  obtain ⟨n, hn⟩ : ∃ n, s.length = n + 1 := ⟨s.length - 1, by omega⟩
  unfold endS
  rw [hn]
  conv => lhs; unfold endF
  rw [if_pos e, endF_fuel T _ n _ (Nat.le_refl _) (by omega)]
theorem endS_nil (T : Nat) {s : List UInt8} (e : (tkF crcU s).2.2 ≠ 0) : endS T s = [] := by
  unfold endS
  cases h : s.length with
  | zero => rfl
  | succ n => unfold endF; rw [if_neg e]
/-- What the scan says, by them. -/
theorem endS_scan (T : Nat) : ∀ (f : Nat) (s : List UInt8), s.length ≤ f → (endS T s).map Prod.fst = (scanS crcU s).1.map Bl ∧ ((endS T s).getLast?.map Prod.snd).getD ((T : Int) - (s.length : Int)) = (T : Int) - ((scanS crcU s).2.length : Int)
  | f, s, hf => by
    by_cases e : (tkF crcU s).2.2 = 0
    · have hl := (tkF_len crcU (tkF_eta crcU e)).1
      rw [scanS_cons crcU e, endS_cons T e]
      match f, hf with
      | 0, hf => omega
      | f + 1, hf =>
        have := endS_scan T f (tkF crcU s).2.1 (by omega)
        refine ⟨by rw [List.map_cons, List.map_cons, this.1], ?_⟩
        have h2 := this.2
        rw [List.getLast?_cons]
        cases h : (endS T (tkF crcU s).2.1).getLast? with
        | none => rw [h] at h2; simpa using h2
        | some x => rw [h] at h2; simpa using h2
    · rw [scanS_nil crcU e, endS_nil T e]
      exact ⟨rfl, rfl⟩
def strSz : Value → Nat
  | .string s => s.size
  | _ => 0
abbrev encE (x : ByteArray × Int) : Array Value := #[.string x.1, .int .i64 x.2]
theorem grown_of_below {w w' : World} (h : Below w.heap.size w w') : w.grownBy w' none := ⟨h.os, h.tape, h.output, h.size, fun k hk _ => h.block k hk⟩

theorem lt_of_cell {w : World} {b o : Nat} {v : Value} (h : w.cell? ⟨b, o, none⟩ = some v) : b < w.heap.size := by
  refine Decidable.byContradiction fun hn => ?_
  have : w.heap[b]? = none := Array.getElem?_eq_none (by omega)
  simp [World.cell?, this] at h
/-- A block that the goer reads is left alone. -/
def KpB (b : Nat) (W W' : World) : Prop := W.heap.size ≤ W'.heap.size ∧ W'.heap[b]? = W.heap[b]?
theorem KpB.t {b : Nat} {A B C : World} (h : KpB b A B) (k : KpB b B C) : KpB b A C := ⟨Nat.le_trans h.1 k.1, k.2.trans h.2⟩
theorem KpB.of_grown {b : Nat} {W W' : World} {row : Option Nat} (hg : W.grownBy W' row) (hb : b < W.heap.size) (hr : some b ≠ row) : KpB b W W' := ⟨hg.size, hg.block b hb hr⟩
set_option maxRecDepth 100000 in
set_option maxHeartbeats 2000000 in
theorem frames1_in (n : Nat) (hn : 1 ≤ n) (l Bn : Nat) (s : ByteArray) (hs : s.size ≤ 1000000000000) (J Jx : List (ByteArray × Int) → World → Prop)
    (hY : ∀ pre x W, J pre W → pre.length < (endS s.size (Lb s)).length → YieldAt Fence.wide (n - 1) Tryz.prog l (encE x) W fun e W' =>
      (e = .returned (.bool true) ∧ J (pre ++ [x]) W' ∧ KpB Bn W W') ∨ (e = .returned (.bool false) ∧ Jx (pre ++ [x]) W'))
    (W : World) (hJ : AbidesFrom W.heap.size J) (hBn : W.cell? ⟨Bn, 0, none⟩ = some (.string s)) (h0 : J [] W) :
    CallsIn Fence.wide n Tryz.prog 83 #[.func (.yield l) #[] #[], .pointer (some ⟨Bn, 0, none⟩)] W fun e W' => (∃ v, e = .returned v) ∧
      ((∃ ys, ys = endS s.size (Lb s) ∧ J ys W') ∨ (∃ pre, pre <+: endS s.size (Lb s) ∧ Jx pre W')) := by
  refine callsIn_of_wp Tryz.func83 rfl trivial ?_ rfl
  simp only [Tryz.ntmps83, List.size_toArray, List.length_cons, List.length_nil, Nat.reduceAdd, Nat.reduceSub, Array.replicate_succ, Array.replicate_zero, List.push_toArray, List.append_toArray, List.nil_append, List.cons_append]
  gi_wp2
  gi_loopw [3] (fun p wr => ∃ (pre : List (ByteArray × Int)) (t : ByteArray), p = .string t ∧ Hid (endS s.size (Lb s) = pre ++ endS s.size (Lb t)) ∧ t.size ≤ s.size ∧ wr.cell? ⟨Bn, 0, none⟩ = some (.string s) ∧ Bn < wr.heap.size ∧ W.heap.size ≤ wr.heap.size ∧ J pre wr)
    (fun p wr => strSz p)
  case atStart => exact ⟨[], s, rfl, Lib.hid rfl, Nat.le_refl _, hBn, lt_of_cell hBn, Nat.le_refl _, h0⟩
  case round =>
    obtain ⟨pre, t, rfl, hx, hts, hcell, hBl, hWl, hJs⟩ := hrel
    have hc := fun W => frameTake_any W t (by omega)
    obtain ⟨P, hP⟩ : ∃ P : ByteArray, P = Bl (tkF crcU (Lb t)).1 := ⟨_, rfl⟩
    obtain ⟨R, hR⟩ : ∃ P : ByteArray, P = Bl (tkF crcU (Lb t)).2.1 := ⟨_, rfl⟩
    obtain ⟨E, hE⟩ : ∃ P : Int, P = (tkF crcU (Lb t)).2.2 := ⟨_, rfl⟩
    rw [← hP, ← hR, ← hE] at hc
    have HC := Lib.hid hc
    clear hc
    by_cases e0 : E = 0
    · have he : (tkF crcU (Lb t)).2.2 = 0 := by rw [← hE, e0]
      have hcons := endS_cons s.size he
      have hlen := tkF_len crcU (tkF_eta crcU he)
      rw [← hP, show ((tkF crcU (Lb t)).2.1.length : Int) = (R.size : Int) by rw [hR]; rfl, show (tkF crcU (Lb t)).2.1 = Lb R by rw [hR]; rfl] at hcons
      have hRt : R.size + 8 ≤ t.size := by rw [Lb_len] at hlen; rw [hR, Bl_size]; omega
      have HX := Lib.hid (hx.out.trans (congrArg (pre ++ ·) hcons))
      have hlt : pre.length < (endS s.size (Lb s)).length := by rw [HX.out]; simp
      clear hcons hlen he hP hR hE
      subst e0
      gi_wp2_with fail
      refine ⟨trivial, (callsIn_wide.2 (HC.out _)).mono ?_⟩
      rintro e w1 ⟨rfl, hB1⟩
      have hJ1 : J pre w1 := hJ pre wr w1 none hJs (grown_of_below hB1) (fun r e => by cases e)
      have hc1 := (hB1.cell (p := ⟨Bn, 0, none⟩) hBl).trans hcell
      have hB1s := hB1.size
      obtain ⟨fn, tmps, assign, body, hy, hRR⟩ := hY pre (P, (s.size : Int) - (R.size : Int)) w1 hJ1 hlt
      dsimp only [encE] at hy
      gi_wp2_with fail
      refine hRR.mono ?_
      rintro e W3 (⟨rfl, hJ3, hk3⟩ | ⟨rfl, hJx3⟩)
      · have hc3 : W3.cell? ⟨Bn, 0, none⟩ = some (.string s) := (World.cell?_of_block (a := ⟨Bn, 0, none⟩) hk3.2).trans hc1
        have hB3s := hk3.1
        gi_wp2_with fail
        go_roundw
        case rel => exact ⟨pre ++ [(P, (s.size : Int) - (R.size : Int))], R, rfl, Lib.hid (by rw [HX.out]; simp), by omega, hc3, by omega, by omega, hJ3⟩
        case measure => simp [strSz]; omega
      · gi_wp2_with fail
        refine bodyPost_ret (results_none rfl _ _ _) rfl ?_
        exact ⟨⟨_, rfl⟩, .inr ⟨pre ++ [(P, (s.size : Int) - (R.size : Int))], ⟨endS s.size (Lb R), by rw [HX.out]; simp⟩, hJx3⟩⟩
    · have he : (tkF crcU (Lb t)).2.2 ≠ 0 := by rw [← hE]; exact e0
      have HX := Lib.hid (hx.out.trans (congrArg (pre ++ ·) (endS_nil s.size he)))
      have e1 : (E != 0) = true := by simpa using e0
      clear he hP hR hE
      gi_wp2_with fail
      refine ⟨trivial, (callsIn_wide.2 (HC.out _)).mono ?_⟩
      rintro e w1 ⟨rfl, hB1⟩
      have hJ1 : J pre w1 := hJ pre wr w1 none hJs (grown_of_below hB1) (fun r e => by cases e)
      gi_wp2_with fail
      refine ⟨fun _ h => (by cases h), ?_⟩
      gi_wp2_with fail
      refine bodyPost_ret (results_none rfl _ _ _) rfl ?_
      exact ⟨⟨_, rfl⟩, .inl ⟨pre, by rw [HX.out]; simp, hJ1⟩⟩
set_option maxHeartbeats 1000000 in
theorem frames_in (n : Nat) (s : ByteArray) (w : World) :
    CallsIn Fence.wide n Tryz.prog 66 #[.string s] w fun e w' => e = .returned (.func (.func 83) #[] #[.pointer (some ⟨w.heap.size, 0, none⟩)]) ∧ w' = w.alloc (.cells #[.string s] 9) := by
  refine callsIn_of_wp Tryz.func66 rfl trivial ?_ rfl
  simp only [Tryz.ntmps66, List.size_toArray, List.length_cons, List.length_nil, Nat.reduceAdd, Nat.reduceSub, Array.replicate_succ, Array.replicate_zero, List.push_toArray, List.append_toArray, List.nil_append, List.cons_append]
  gi_wp2_with fail
  go_ret
  exact ⟨rfl, rfl⟩
theorem frames_stops (n : Nat) (hn : 1 ≤ n) (Bn : Nat) (s : ByteArray) (hs : s.size ≤ 1000000000000) (w : World) (hc : w.cell? ⟨Bn, 0, none⟩ = some (.string s)) :
    SeqStopsK Fence.wide n Tryz.prog 83 #[.pointer (some ⟨Bn, 0, none⟩)] encE (KpB Bn) (fun ys => ys = endS s.size (Lb s)) (fun pre => pre <+: endS s.size (Lb s)) (endS s.size (Lb s)).length w :=
  fun l J Jx W hW hJ _ hY h0 => frames1_in n hn l Bn s hs J Jx hY W hJ ((hW.cell (p := ⟨Bn, 0, none⟩) (lt_of_cell hc)).trans hc) h0
end Go.Proofs.YtoegdpcfhmjnaaaGreatDoor

namespace Go.Proofs.YtoegdpcfhmjnaaaGreatDoor
open Go.RowKit Go.Bl Go.Shelf
attribute [local go_sem] Oper.semAt_some

def strF (s : ByteArray) : List Value := [.string s]
theorem infoStrF : (Tryz.prog.info? 9).map (fun i => (i.zero, i.size, i.bytes)) = some (some (.string ⟨#[]⟩), 1, 16) := by kernel_rfl
/-- Where the last frame ends. -/
def lastEnd (pre : List (ByteArray × Int)) : Int := (pre.getLast?.map Prod.snd).getD 0
def payl (pre : List (ByteArray × Int)) : List ByteArray := pre.map Prod.fst
theorem endS_len (T : Nat) : ∀ (f : Nat) (s : List UInt8), s.length ≤ f → (endS T s).length ≤ s.length
  | f, s, hf => by
    by_cases e : (tkF crcU s).2.2 = 0
    · have hl := (tkF_len crcU (tkF_eta crcU e)).1
      rw [endS_cons T e, List.length_cons]
      match f, hf with
      | 0, hf => omega
      | f + 1, hf =>
        have := endS_len T f (tkF crcU s).2.1 (by omega)
        omega
    · rw [endS_nil T e]; simp
theorem ownsRow_lower {w : World} {base base' : Nat} {e : TypeId} {size k : Nat} {v : Value} {xs : List Value} (h : w.ownsRow base e size v k xs) (hb : base' ≤ base) : w.ownsRow base' e size v k xs := by
  obtain ⟨h1, h2⟩ := h
  exact ⟨h1, h2.imp id fun ⟨g, cap, cur, e1, e2, e3⟩ => ⟨g, cap, cur, e1, Nat.le_trans hb e2, e3⟩⟩
set_option maxRecDepth 100000 in
set_option maxHeartbeats 2000000 in
theorem scan_in (s : ByteArray) (hs : s.size ≤ 1073741824) (w : World) :
    CallsIn Fence.wide 6 Tryz.prog 51 #[.string s] w fun e W' => ∃ v, e = .returned (.tuple #[v, .int .i64 (lastEnd (endS s.size (Lb s)))]) ∧ W'.ownsRow w.heap.size 9 1 v (payl (endS s.size (Lb s))).length ((payl (endS s.size (Lb s))).map Value.string) ∧ Below w.heap.size w W' := by
  obtain ⟨i0, hi, hz0, hz1, hz2⟩ := info_parts infoStrF
  have hEl : (endS s.size (Lb s)).length ≤ s.size := endS_len _ _ _ (Nat.le_refl _)
  refine callsIn_of_wp_marks Tryz.func51 rfl trivial ?_ rfl
  simp only [Tryz.ntmps51, List.size_toArray, List.length_cons, List.length_nil, Nat.reduceAdd, Nat.reduceSub, Array.replicate_succ, Array.replicate_zero, List.push_toArray, List.append_toArray, List.nil_append, List.cons_append]
  gi_wp2_with fail
  refine ⟨trivial, (frames_in _ _ _).mono ?_⟩
  rintro e w' ⟨rfl, rfl⟩
  gi_wp2_with fail
  obtain ⟨W0, hW0⟩ : ∃ W0, ((w.alloc (.cells #[.slice none 0 0] 107)).alloc (.cells #[.int .i64 0] 3)).alloc (.cells #[.string s] 9) = W0 := ⟨_, rfl⟩
  have bO : Boxed W0 w.heap.size 107 (.slice none 0 0) := by rw [← hW0]; exact ((Boxed.new w 107 (.slice none 0 0)).alloc _).alloc _
  have bN : Boxed W0 (w.heap.size + 1) 3 (.int .i64 0) := by
    rw [← hW0]
    have := (Boxed.new (w.alloc (.cells #[.slice none 0 0] 107)) 3 (.int .i64 0)).alloc (.cells #[.string s] 9)
    rwa [World.size_alloc] at this
  have bS : Boxed W0 (w.heap.size + 1 + 1) 9 (.string s) := by
    rw [← hW0]
    have := Boxed.new ((w.alloc (.cells #[.slice none 0 0] 107)).alloc (.cells #[.int .i64 0] 3)) 9 (.string s)
    rwa [World.size_alloc, World.size_alloc] at this
  have hB0 : Below w.heap.size w W0 := by rw [← hW0]; exact (((Below.refl _ w).alloc (Nat.le_refl _) _).alloc (by simp) _).alloc (by simp; omega) _
  have hsz : W0.heap.size = w.heap.size + 3 := by rw [← hW0]; simp
  rw [hW0]
  have HZ := Lib.hid hsz
  clear hW0 hsz
  refine wpIn_rangeFunc_ownG rfl (by omega) (gf := 83) (lb := #[.pointer (some ⟨w.heap.size + 1 + 1, 0, none⟩)]) rfl trivial (enters_of Tryz.func83 (by kernel_rfl) rfl)
    (frames_stops 5 (by omega) (w.heap.size + 1 + 1) s (by omega) W0 bS.cell) KpB.t (fun W l o o' hl ho _ _ => KpB.of_grown (grownBy_putObj' W l o') (by have := HZ.out; have := (Array.getElem?_eq_some_iff.1 ho).1; omega) (fun e => by cases e; have := HZ.out; omega)) (Below.refl _ _) (fun _ => rfl)
    (fun pre W => ((∃ v, Boxed W w.heap.size 107 v ∧ W.ownsRow (w.heap.size + 3) 9 1 v (payl pre).length ((payl pre).map Value.string) ∧ True) ∧ Boxed W (w.heap.size + 1) 3 (.int .i64 (lastEnd pre)) ∧ Boxed W (w.heap.size + 1 + 1) 9 (.string s)) ∧ Below w.heap.size w W)
    (fun _ _ _ => False)
    (OwnFrom.and (OwnFrom.and (Own.from (holdsRow_own (w.heap.size + 3) w.heap.size 107 9 1 (fun pre => (payl pre).length) (fun pre => (payl pre).map Value.string) (fun _ _ => True)) _) (OwnFrom.and (Own.from (boxed_own (w.heap.size + 1) 3 (fun pre => Value.int .i64 (lastEnd pre))) _) (Own.from (boxed_own (w.heap.size + 1 + 1) 9 (fun _ => Value.string s)) _))) (ownFrom_below (Nat.le_refl _) (by rw [HZ.out]; omega)))
    (fun _ _ _ _ _ hs _ _ => hs)
    ⟨⟨⟨_, bO, World.ownsRow_nil _ _ _ _, trivial⟩, bN, bS⟩, hB0⟩
    (fun x => { tmps := #[.string s, undef, .slice none 0 0, .int .i64 0, .pointer (some ⟨w.heap.size, 0, none⟩), .pointer (some ⟨w.heap.size + 1, 0, none⟩), .string x.1, .int .i64 x.2, .string s, .func (.func 83) #[] #[.pointer (some ⟨w.heap.size + 1 + 1, 0, none⟩)], .string x.1, .int .i64 x.2, undef, undef, undef, undef, undef, undef, undef], defers := [] }) ?assign ?body ?done ?stop
  case assign =>
    intro l x W K hK
    gi_wp2
    exact hK
  case body =>
    rintro l pre x W ⟨⟨⟨v, hv, hrow, _⟩, hn, hs0⟩, hB⟩ hlt
    have hc := hv.cell
    have hpl : (payl pre).length = pre.length := by simp [payl]
    have HPL := Lib.hid hpl
    have hlt2 : (payl pre).length < s.size := by omega
    clear hpl
    gi_wp2_with (gi_at_builtin; go_loud (refine wpListIn_append_own _ rfl _ _ 107 rfl (w.heap.size + 3) 9 i0 (.string ⟨#[]⟩) 1 16 Tryz.underlying107 hi hz0 hz1 hz2 rfl (by decide) _ _ _ rfl (hrow.alloc _) ⟨W.heap.size, 0, none⟩ 1 1 [.string x.1] rfl rfl (cell_one_new _ _ _) (by simp [Value.oneCell']) (by unfold maxLen; omega) (by omega) (by have := hs0.lt; simp; omega) ?_; intro v' w1 hown' hgrow _; obtain ⟨g', cap', rfl⟩ := ownsRow_succ hown'; obtain ⟨hv1, hv2, _, hk2, hb2⟩ := hv.appended (by decide) (ownsRow_lower hrow (by omega)) hB.size (Nat.le_refl _) (ownsRow_lower hown' (by omega)) hgrow; have hn1 := (hn.alloc (.cells #[.string x.1] 9)).kept hgrow (hn.not_row (by decide) hrow); have hn2 := hn1.other (B' := w.heap.size) (by omega) (.slice (some ⟨g', 0, none⟩) ((payl pre).length + 1) cap'); have hs1 := (hs0.alloc (.cells #[.string x.1] 9)).kept hgrow (fun e => by have := (World.ownsRow.lt hrow _ e.symm).1; omega); have hs2 := (hs1.other (B' := w.heap.size) (by omega) (.slice (some ⟨g', 0, none⟩) ((payl pre).length + 1) cap')).other (B' := w.heap.size + 1) (by omega) (.int .i64 x.2); have hr3 := (hown'.kept (grownBy_setCell' w1 w.heap.size (.slice (some ⟨g', 0, none⟩) ((payl pre).length + 1) cap')) (.inr (fun e => by have := (World.ownsRow.lt hown' _ e).1; omega))).kept (grownBy_setCell' _ (w.heap.size + 1) (.int .i64 x.2)) (.inr (fun e => by have := (World.ownsRow.lt hown' _ e).1; omega)); have hc1 := hv1.cell; have hf1 := hv1.frozen; have hc2 := hn2.cell; have hf2 := hn2.frozen; have HG := Lib.hid hgrow; clear hgrow))
    refine ⟨(hk2.trans (KeepsOthers.setCell _ _ _)).from _, ⟨Nat.le_trans hb2.size (KeepsOthers.setCell _ _ _).size, (show _ = _ from hs2).trans (show _ = _ from hs0).symm⟩, ⟨⟨_, hv2.other (by omega) _, ?_, trivial⟩, ?_, hs2⟩, (hB.trans hb2).setCell (p := ⟨w.heap.size + 1, 0, none⟩) (by simp) _⟩
    · have e1 : payl (pre ++ [x]) = payl pre ++ [x.1] := by simp [payl]
      rw [e1, List.length_append, List.map_append]
      exact hr3
    · have e2 : lastEnd (pre ++ [x]) = x.2 := by simp [lastEnd]
      rw [e2]
      exact hn2.set _
  case done =>
    rintro D ys W hD rfl ⟨⟨⟨v, hv, hrow, _⟩, hn, _⟩, hB⟩ hK
    have hc := hv.cell
    have hc2 := hn.cell
    gi_wp2
    gi_region
    gi_wp2
    have hK' : W.drew.heap[D]? = some (.deferred (some [])) := hK
    refine ⟨by simp, .inl ⟨_, _, rfl, run_takeDeferred hK', ?_⟩⟩
    refine ⟨_, results_tmp2 rfl _ _ _, v, rfl, ownsRow_lower (ownsRow_putObj (W := W.drew) hrow _ hK' rfl) (by omega), ?_⟩
    have hBd : Below w.heap.size w W.drew := hB.trans ⟨rfl, rfl, rfl, Nat.le_refl _, fun _ _ => rfl⟩
    exact hBd.trans (belowK_b (w := w) (Nat.le_refl _) W.drew D _ _ (by have := HZ.out; omega) hK' rfl rfl)
  case stop =>
    rintro D c pre W _ _ h _
    exact h.elim
/-- The frames that bytes begin with, as a slice of texts, and how many bytes they are. -/
theorem scan_any (w : World) (s : ByteArray) (hs : s.size ≤ 1073741824) : Calls Tryz.prog 51 #[.string s] w fun e w' => ∃ v, e = .returned (.tuple #[v, .int .i64 ((s.size : Int) - ((scanS crcU (Lb s)).2.length : Int))]) ∧ Sl w' (fun k => w.heap.size ≤ k) 1 strF v ((scanS crcU (Lb s)).1.map Bl) ∧ Below w.heap.size w w' := by
  refine (callsIn_wide.1 (scan_in s hs w)).mono ?_
  rintro e w' ⟨v, rfl, hr, hB⟩
  obtain ⟨h1, h2⟩ := endS_scan s.size s.size (Lb s) (Nat.le_refl _)
  have e1 : payl (endS s.size (Lb s)) = (scanS crcU (Lb s)).1.map Bl := h1
  have e2 : lastEnd (endS s.size (Lb s)) = (s.size : Int) - ((scanS crcU (Lb s)).2.length : Int) := by
    rw [← h2, Lb_len, Int.sub_self]
    rfl
  rw [e2]
  rw [e1] at hr
  refine ⟨v, rfl, ?_, hB⟩
  have h3 : w'.ownsRow w.heap.size 9 1 v ((scanS crcU (Lb s)).1.map Bl).length (((scanS crcU (Lb s)).1.map Bl).flatMap strF) := by
    rw [show ((scanS crcU (Lb s)).1.map Bl).flatMap strF = ((scanS crcU (Lb s)).1.map Bl).map Value.string by
      generalize (scanS crcU (Lb s)).1.map Bl = L
      induction L with
      | nil => rfl
      | cons x L ih => rw [List.flatMap_cons, List.map_cons, ih]; rfl]
    exact hr
  exact (Sl.of_own (enc := strF) (fun _ => rfl) h3).mono (fun k _ e => (World.ownsRow.lt h3 k e).1)
end Go.Proofs.YtoegdpcfhmjnaaaGreatDoor
