/- Frames: what goes over those that bytes begin with (frame.frames, its closure). -/
import Derived.RangeFuncBox
import Derived.RangeFuncLeaves
import Derived.Shelf.Abstract
import Derived.WalkKit
import Derived.OwnWalkIn
import Derived.TacticsInMore
import Derived.LoopNIn
import Derived.LoopIn
import Derived.Test.YtoegdpcfhmjnaaaDoorFrmA
namespace Go.Proofs.YtoegdpcfhmjnaaaDoor
open Go.RowKit Go.Bl Go.Shelf
attribute [local go_sem] Oper.semAt_some

/-- The frames that bytes begin with: each payload, and where its frame ends (of T bytes). -/
def endF (T : Nat) : Nat → List UInt8 → List (ByteArray × Int)
  | 0, _ => []
  | f + 1, s => if (tkF crcU s).2.2 = 0 then (Bl (tkF crcU s).1, (T : Int) - ((tkF crcU s).2.1.length : Int)) :: endF T f (tkF crcU s).2.1 else []
theorem endF_fuel (T : Nat) : ∀ (f g : Nat) (s : List UInt8), s.length ≤ f → f ≤ g → endF T g s = endF T f s
  | 0, 0, _, _, _ => rfl
  | 0, g + 1, s, h, _ => by
    unfold endF
    rw [if_neg]
    intro e
    have := (tkF_len crcU (tkF_eta crcU e)).1
    omega
  | f + 1, 0, _, _, h => by omega
  | f + 1, g + 1, s, h, hg => by
    unfold endF
    by_cases e : (tkF crcU s).2.2 = 0
    · rw [if_pos e, if_pos e]
      have := (tkF_len crcU (tkF_eta crcU e)).1
      rw [endF_fuel T f g _ (by omega) (by omega)]
    · rw [if_neg e, if_neg e]
def endS (T : Nat) (s : List UInt8) : List (ByteArray × Int) := endF T s.length s
theorem endS_cons (T : Nat) {s : List UInt8} (e : (tkF crcU s).2.2 = 0) : endS T s = (Bl (tkF crcU s).1, (T : Int) - ((tkF crcU s).2.1.length : Int)) :: endS T (tkF crcU s).2.1 := by
  have := (tkF_len crcU (tkF_eta crcU e)).1
  obtain ⟨n, hn⟩ : ∃ n, s.length = n + 1 := ⟨s.length - 1, by omega⟩
  unfold endS
  rw [hn]
  conv => lhs; unfold endF
  rw [if_pos e, endF_fuel T _ n _ (Nat.le_refl _) (by omega)]
theorem endS_nil (T : Nat) {s : List UInt8} (e : (tkF crcU s).2.2 ≠ 0) : endS T s = [] := by
  unfold endS
  cases h : s.length with
  | zero => rfl
  | succ n => unfold endF; rw [if_neg e]
/-- What the scan says, by them. -/
theorem endS_scan (T : Nat) : ∀ (f : Nat) (s : List UInt8), s.length ≤ f → (endS T s).map Prod.fst = (scanS crcU s).1.map Bl ∧ ((endS T s).getLast?.map Prod.snd).getD ((T : Int) - (s.length : Int)) = (T : Int) - ((scanS crcU s).2.length : Int)
  | f, s, hf => by
    by_cases e : (tkF crcU s).2.2 = 0
    · have hl := (tkF_len crcU (tkF_eta crcU e)).1
      rw [scanS_cons crcU e, endS_cons T e]
      match f, hf with
      | 0, hf => omega
      | f + 1, hf =>
        have := endS_scan T f (tkF crcU s).2.1 (by omega)
        refine ⟨by rw [List.map_cons, List.map_cons, this.1], ?_⟩
        have h2 := this.2
        rw [List.getLast?_cons]
        cases h : (endS T (tkF crcU s).2.1).getLast? with
        | none => rw [h] at h2; simpa using h2
        | some x => rw [h] at h2; simpa using h2
    · rw [scanS_nil crcU e, endS_nil T e]
      exact ⟨rfl, rfl⟩
def strSz : Value → Nat
  | .string s => s.size
  | _ => 0
abbrev encE (x : ByteArray × Int) : Array Value := #[.string x.1, .int .i64 x.2]
theorem grown_of_below {w w' : World} (h : Below w.heap.size w w') : w.grownBy w' none := ⟨h.os, h.tape, h.output, h.size, fun k hk _ => h.block k hk⟩

theorem lt_of_cell {w : World} {b o : Nat} {v : Value} (h : w.cell? ⟨b, o, none⟩ = some v) : b < w.heap.size := by
  refine Decidable.byContradiction fun hn => ?_
  have : w.heap[b]? = none := Array.getElem?_eq_none (by omega)
  simp [World.cell?, this] at h
/-- A block that the goer reads is left alone. -/
def KpB (b : Nat) (W W' : World) : Prop := W.heap.size ≤ W'.heap.size ∧ W'.heap[b]? = W.heap[b]?
theorem KpB.t {b : Nat} {A B C : World} (h : KpB b A B) (k : KpB b B C) : KpB b A C := ⟨Nat.le_trans h.1 k.1, k.2.trans h.2⟩
theorem KpB.of_grown {b : Nat} {W W' : World} {row : Option Nat} (hg : W.grownBy W' row) (hb : b < W.heap.size) (hr : some b ≠ row) : KpB b W W' := ⟨hg.size, hg.block b hb hr⟩
set_option maxRecDepth 100000 in
set_option maxHeartbeats 2000000 in
theorem frames1_in (n : Nat) (hn : 1 ≤ n) (l Bn : Nat) (s : ByteArray) (hs : s.size ≤ 1000000000000) (J Jx : List (ByteArray × Int) → World → Prop)
    (hY : ∀ pre x W, J pre W → pre.length < (endS s.size (Lb s)).length → YieldAt Fence.wide (n - 1) Tryd.prog l (encE x) W fun e W' =>
      (e = .returned (.bool true) ∧ J (pre ++ [x]) W' ∧ KpB Bn W W') ∨ (e = .returned (.bool false) ∧ Jx (pre ++ [x]) W'))
    (W : World) (hJ : AbidesFrom W.heap.size J) (hBn : W.cell? ⟨Bn, 0, none⟩ = some (.string s)) (h0 : J [] W) :
    CallsIn Fence.wide n Tryd.prog 55 #[.func (.yield l) #[] #[], .pointer (some ⟨Bn, 0, none⟩)] W fun e W' => (∃ v, e = .returned v) ∧
      ((∃ ys, ys = endS s.size (Lb s) ∧ J ys W') ∨ (∃ pre, pre <+: endS s.size (Lb s) ∧ Jx pre W')) := by
  refine callsIn_of_wp Tryd.func55 rfl trivial ?_ rfl
  simp only [Tryd.ntmps55, List.size_toArray, List.length_cons, List.length_nil, Nat.reduceAdd, Nat.reduceSub, Array.replicate_succ, Array.replicate_zero, List.push_toArray, List.append_toArray, List.nil_append, List.cons_append]
  gi_wp2
  gi_loopw [3] (fun p wr => ∃ (pre : List (ByteArray × Int)) (t : ByteArray), p = .string t ∧ Hid (endS s.size (Lb s) = pre ++ endS s.size (Lb t)) ∧ t.size ≤ s.size ∧ wr.cell? ⟨Bn, 0, none⟩ = some (.string s) ∧ Bn < wr.heap.size ∧ W.heap.size ≤ wr.heap.size ∧ J pre wr)
    (fun p wr => strSz p)
  case atStart => exact ⟨[], s, rfl, Lib.hid rfl, Nat.le_refl _, hBn, lt_of_cell hBn, Nat.le_refl _, h0⟩
  case round =>
    obtain ⟨pre, t, rfl, hx, hts, hcell, hBl, hWl, hJs⟩ := hrel
    have hc := fun W => frameTake_any W t (by omega)
    obtain ⟨P, hP⟩ : ∃ P : ByteArray, P = Bl (tkF crcU (Lb t)).1 := ⟨_, rfl⟩
    obtain ⟨R, hR⟩ : ∃ P : ByteArray, P = Bl (tkF crcU (Lb t)).2.1 := ⟨_, rfl⟩
    obtain ⟨E, hE⟩ : ∃ P : Int, P = (tkF crcU (Lb t)).2.2 := ⟨_, rfl⟩
    rw [← hP, ← hR, ← hE] at hc
    have HC := Lib.hid hc
    clear hc
    by_cases e0 : E = 0
    · have he : (tkF crcU (Lb t)).2.2 = 0 := by rw [← hE, e0]
      have hcons := endS_cons s.size he
      have hlen := tkF_len crcU (tkF_eta crcU he)
      rw [← hP, show ((tkF crcU (Lb t)).2.1.length : Int) = (R.size : Int) by rw [hR]; rfl, show (tkF crcU (Lb t)).2.1 = Lb R by rw [hR]; rfl] at hcons
      have hRt : R.size + 8 ≤ t.size := by rw [Lb_len] at hlen; rw [hR, Bl_size]; omega
      have HX := Lib.hid (hx.out.trans (congrArg (pre ++ ·) hcons))
      have hlt : pre.length < (endS s.size (Lb s)).length := by rw [HX.out]; simp
      clear hcons hlen he hP hR hE
      subst e0
      gi_wp2_with fail
      refine ⟨trivial, (callsIn_wide.2 (HC.out _)).mono ?_⟩
      rintro e w1 ⟨rfl, hB1⟩
      have hJ1 : J pre w1 := hJ pre wr w1 none hJs (grown_of_below hB1) (fun r e => by cases e)
      have hc1 := (hB1.cell (p := ⟨Bn, 0, none⟩) hBl).trans hcell
      have hB1s := hB1.size
      obtain ⟨fn, tmps, assign, body, hy, hRR⟩ := hY pre (P, (s.size : Int) - (R.size : Int)) w1 hJ1 hlt
      dsimp only [encE] at hy
      gi_wp2_with fail
      refine hRR.mono ?_
      rintro e W3 (⟨rfl, hJ3, hk3⟩ | ⟨rfl, hJx3⟩)
      · have hc3 : W3.cell? ⟨Bn, 0, none⟩ = some (.string s) := (World.cell?_of_block (a := ⟨Bn, 0, none⟩) hk3.2).trans hc1
        have hB3s := hk3.1
        gi_wp2_with fail
        go_roundw
        case rel => exact ⟨pre ++ [(P, (s.size : Int) - (R.size : Int))], R, rfl, Lib.hid (by rw [HX.out]; simp), by omega, hc3, by omega, by omega, hJ3⟩
        case measure => simp [strSz]; omega
      · gi_wp2_with fail
        refine bodyPost_ret (results_none rfl _ _ _) rfl ?_
        exact ⟨⟨_, rfl⟩, .inr ⟨pre ++ [(P, (s.size : Int) - (R.size : Int))], ⟨endS s.size (Lb R), by rw [HX.out]; simp⟩, hJx3⟩⟩
    · have he : (tkF crcU (Lb t)).2.2 ≠ 0 := by rw [← hE]; exact e0
      have HX := Lib.hid (hx.out.trans (congrArg (pre ++ ·) (endS_nil s.size he)))
      have e1 : (E != 0) = true := by simpa using e0
      clear he hP hR hE
      gi_wp2_with fail
      refine ⟨trivial, (callsIn_wide.2 (HC.out _)).mono ?_⟩
      rintro e w1 ⟨rfl, hB1⟩
      have hJ1 : J pre w1 := hJ pre wr w1 none hJs (grown_of_below hB1) (fun r e => by cases e)
      gi_wp2_with fail
      refine ⟨fun _ h => (by cases h), ?_⟩
      gi_wp2_with fail
      refine bodyPost_ret (results_none rfl _ _ _) rfl ?_
      exact ⟨⟨_, rfl⟩, .inl ⟨pre, by rw [HX.out]; simp, hJ1⟩⟩
set_option maxHeartbeats 1000000 in
theorem frames_in (n : Nat) (s : ByteArray) (w : World) :
    CallsIn Fence.wide n Tryd.prog 47 #[.string s] w fun e w' => e = .returned (.func (.func 55) #[] #[.pointer (some ⟨w.heap.size, 0, none⟩)]) ∧ w' = w.alloc (.cells #[.string s] 9) := by
  refine callsIn_of_wp Tryd.func47 rfl trivial ?_ rfl
  simp only [Tryd.ntmps47, List.size_toArray, List.length_cons, List.length_nil, Nat.reduceAdd, Nat.reduceSub, Array.replicate_succ, Array.replicate_zero, List.push_toArray, List.append_toArray, List.nil_append, List.cons_append]
  gi_wp2_with fail
  go_ret
  exact ⟨rfl, rfl⟩
theorem frames_stops (n : Nat) (hn : 1 ≤ n) (Bn : Nat) (s : ByteArray) (hs : s.size ≤ 1000000000000) (w : World) (hc : w.cell? ⟨Bn, 0, none⟩ = some (.string s)) :
    SeqStopsK Fence.wide n Tryd.prog 55 #[.pointer (some ⟨Bn, 0, none⟩)] encE (KpB Bn) (fun ys => ys = endS s.size (Lb s)) (fun pre => pre <+: endS s.size (Lb s)) (endS s.size (Lb s)).length w :=
  fun l J Jx W hW hJ _ hY h0 => frames1_in n hn l Bn s hs J Jx hY W hJ ((hW.cell (p := ⟨Bn, 0, none⟩) (lt_of_cell hc)).trans hc) h0
end Go.Proofs.YtoegdpcfhmjnaaaDoor
