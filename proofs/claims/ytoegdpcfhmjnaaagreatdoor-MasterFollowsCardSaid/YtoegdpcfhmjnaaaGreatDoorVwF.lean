/- Views as bytes: Take, of what Put made. Under the stated premises on sizes. -/
import Derived.Test.YtoegdpcfhmjnaaaGreatDoorVwC
import Derived.Test.YtoegdpcfhmjnaaaGreatDoorVwE
import Derived.Test.YtoegdpcfhmjnaaaGreatDoorNumC
import Derived.Test.YtoegdpcfhmjnaaaGreatDoorVwG
namespace Go.Proofs.YtoegdpcfhmjnaaaGreatDoor
open Go.RowKit Go.Bl
attribute [local go_sem ↓] Go.wp_at_zero Go.wp_at_succ

def asI (l : List Nat) : List Int := l.map fun n : Nat => (n : Int)
def lenSl : Value → Nat
  | .slice _ n _ => n
  | _ => 0
theorem asI_len (l : List Nat) : (asI l).length = l.length := List.length_map _
theorem asI_get {l : List Nat} {i n : Nat} (h : l[i]? = some n) : ∃ h2 : i < (asI l).length, (asI l)[i] = (n : Int) := by
  have hi := (List.getElem?_eq_some_iff.1 h).1
  refine ⟨by rw [asI_len]; exact hi, ?_⟩
  unfold asI
  rw [List.getElem_map]
  have := (List.getElem?_eq_some_iff.1 h).2
  rw [this]
/-- Amid the second loop: the view at block q, of whose nodes the first j are there. -/
def TkR (w2 : World) (q : Nat) (ep : Int) (L : List Nd) (j : Nat) (wr : World) : Prop :=
  ∃ a b c, wr.heap[q]? = some (.cells #[.int .i64 ep, a, b, c] 45 (0, 0)) ∧ Own wr w2.heap.size 3 1 intc a ((L.take j).map Nd.node) ∧ Own wr w2.heap.size 3 1 intc b ((L.take j).map Nd.since) ∧ Own wr w2.heap.size 3 1 intc c ((L.take j).map Nd.boot) ∧
    (∀ k, a.ownBlock = some k → b.ownBlock ≠ some k ∧ c.ownBlock ≠ some k) ∧ (∀ k, b.ownBlock = some k → c.ownBlock ≠ some k) ∧ Keeps (fun k => k = q) w2 wr
/-- Amid the round: what is made already. -/
structure JT (w2 : World) (q : Nat) (ep : Int) (r1 r2 r3 : Value) (L1 L2 L3 : List Int) (n1 n2 n3 : Int) (β : Nat → Bool) (X : Nat → Value) (u : World) : Prop where
  rows : Rows3 u w2.heap.size ⟨true, β 6, β 7, X 56, X 57, r1, L1, n1⟩ ⟨true, β 15, β 16, X 65, X 66, r2, L2, n2⟩ ⟨true, β 24, β 25, X 74, X 75, r3, L3, n3⟩
  k : Keeps (fun k => k = q) w2 u
  c : u.heap[q]? = some (.cells #[.int .i64 ep, if β 27 = true then X 57 else r1, if β 29 = true then X 66 else r2, if β 31 = true then X 75 else r3] 45 (0, 0))
  i27 : β 27 = true → β 6 = true ∧ β 7 = true ∧ β 15 = true ∧ β 16 = true ∧ β 24 = true ∧ β 25 = true ∧ β 26 = true
  i29 : β 29 = true → β 27 = true
  i31 : β 31 = true → β 29 = true
  p26 : β 26 = true → X 76 = .pointer (some ⟨q, 1, none⟩)
  p28 : β 28 = true → X 77 = .pointer (some ⟨q, 2, none⟩)
  p30 : β 30 = true → X 78 = .pointer (some ⟨q, 3, none⟩)
  w7 : β 7 = true → β 6 = true
  w16 : β 16 = true → β 15 = true ∧ β 7 = true
  w25 : β 25 = true → β 24 = true ∧ β 16 = true
theorem JT.early {w2 : World} {q : Nat} {ep : Int} {r1 r2 r3 : Value} {L1 L2 L3 : List Int} {n1 n2 n3 : Int} {β : Nat → Bool} {X : Nat → Value} {u : World} (h : JT w2 q ep r1 r2 r3 L1 L2 L3 n1 n2 n3 β X u) (h27 : β 27 = false) :
    β 29 = false ∧ β 31 = false ∧ u.heap[q]? = some (.cells #[.int .i64 ep, r1, r2, r3] 45 (0, 0)) := by
  have h29 : β 29 = false := by cases e : β 29 with | false => rfl | true => rw [h.i29 e] at h27; cases h27
  have h31 : β 31 = false := by cases e : β 31 with | false => rfl | true => rw [h.i31 e] at h29; cases h29
  have := h.c
  rw [h27, h29, h31] at this
  exact ⟨h29, h31, this⟩
section
variable {w2 : World} {q : Nat} {ep : Int} {r1 r2 r3 : Value} {L1 L2 L3 : List Int} {n1 n2 n3 : Int} {β : Nat → Bool} {X : Nat → Value} {u u' : World}
theorem JT.build1 (h : JT w2 q ep r1 r2 r3 L1 L2 L3 n1 n2 n3 β X u) (ha : β 7 = false) (h27 : β 27 = false) : JT w2 q ep r1 r2 r3 L1 L2 L3 n1 n2 n3 (fun k => decide (k = 6) || β k) (newX (some 56) (.slice (some ⟨u.heap.size, 0, none⟩) 1 1) X) (u.alloc (.cells #[.int .i64 n1] 3)) :=
  ⟨(h.rows.build1 ha h.k.size), h.k.alloc _, (Below.heap_alloc _ _ _ (Array.getElem?_eq_some_iff.1 h.c).1).trans h.c, (fun e => by rw [show (decide (27 = 6) || β 27) = β 27 from rfl, h27] at e; cases e), h.i29, h.i31, h.p26, h.p28, h.p30, fun _ => rfl, h.w16, h.w25⟩
theorem JT.got1 {v : Value} (h : JT w2 q ep r1 r2 r3 L1 L2 L3 n1 n2 n3 β X u) (ha : β 7 = false) (hf : β 6 = true) (h27 : β 27 = false) (hq : q < w2.heap.size) (ho : Own u' w2.heap.size 3 1 intc v (L1 ++ [n1])) (hg : u.grownBy u' r1.ownBlock) (hat : AtOf u r1 v) :
    JT w2 q ep r1 r2 r3 L1 L2 L3 n1 n2 n3 (fun k => decide (k = 7) || β k) (newX (some 57) v X) u' := by
  have hb : ∀ k, r1.ownBlock = some k → w2.heap.size ≤ k := fun k e => (Own.lt (h.rows.r1.own0 rfl ha) k e).1
  refine ⟨(h.rows.got1 ha rfl ho hg hat), h.k.grown hg (fun k e hk => by have := hb k e; omega), ?_, (fun e => by rw [show (decide (27 = 7) || β 27) = β 27 from rfl, h27] at e; cases e), h.i29, h.i31, h.p26, h.p28, h.p30, fun _ => hf, (fun e => ⟨(h.w16 e).1, rfl⟩), h.w25⟩
  obtain ⟨h29, h31, hc⟩ := h.early h27
  have := (Keeps.of_grown hg).grownTo hc (fun e => by have := hb q e; omega)
  rw [show (decide (27 = 7) || β 27) = false from h27, show (decide (29 = 7) || β 29) = false from h29, show (decide (31 = 7) || β 31) = false from h31]
  exact this
theorem JT.build2 (h : JT w2 q ep r1 r2 r3 L1 L2 L3 n1 n2 n3 β X u) (ha : β 16 = false) (h27 : β 27 = false) : JT w2 q ep r1 r2 r3 L1 L2 L3 n1 n2 n3 (fun k => decide (k = 15) || β k) (newX (some 65) (.slice (some ⟨u.heap.size, 0, none⟩) 1 1) X) (u.alloc (.cells #[.int .i64 n2] 3)) :=
  ⟨(h.rows.rot.build1 ha h.k.size).rot.rot, h.k.alloc _, (Below.heap_alloc _ _ _ (Array.getElem?_eq_some_iff.1 h.c).1).trans h.c, (fun e => by rw [show (decide (27 = 15) || β 27) = β 27 from rfl, h27] at e; cases e), h.i29, h.i31, h.p26, h.p28, h.p30, h.w7, (fun e => ⟨rfl, (h.w16 e).2⟩), h.w25⟩
theorem JT.got2 {v : Value} (h : JT w2 q ep r1 r2 r3 L1 L2 L3 n1 n2 n3 β X u) (ha : β 16 = false) (hf : β 15 = true) (hp : β 7 = true) (h27 : β 27 = false) (hq : q < w2.heap.size) (ho : Own u' w2.heap.size 3 1 intc v (L2 ++ [n2])) (hg : u.grownBy u' r2.ownBlock) (hat : AtOf u r2 v) :
    JT w2 q ep r1 r2 r3 L1 L2 L3 n1 n2 n3 (fun k => decide (k = 16) || β k) (newX (some 66) v X) u' := by
  have hb : ∀ k, r2.ownBlock = some k → w2.heap.size ≤ k := fun k e => (Own.lt (h.rows.r2.own0 rfl ha) k e).1
  refine ⟨(h.rows.rot.got1 ha rfl ho hg hat).rot.rot, h.k.grown hg (fun k e hk => by have := hb k e; omega), ?_, (fun e => by rw [show (decide (27 = 16) || β 27) = β 27 from rfl, h27] at e; cases e), h.i29, h.i31, h.p26, h.p28, h.p30, h.w7, fun _ => ⟨hf, hp⟩, (fun e => ⟨(h.w25 e).1, rfl⟩)⟩
  obtain ⟨h29, h31, hc⟩ := h.early h27
  have := (Keeps.of_grown hg).grownTo hc (fun e => by have := hb q e; omega)
  rw [show (decide (27 = 16) || β 27) = false from h27, show (decide (29 = 16) || β 29) = false from h29, show (decide (31 = 16) || β 31) = false from h31]
  exact this
theorem JT.build3 (h : JT w2 q ep r1 r2 r3 L1 L2 L3 n1 n2 n3 β X u) (ha : β 25 = false) (h27 : β 27 = false) : JT w2 q ep r1 r2 r3 L1 L2 L3 n1 n2 n3 (fun k => decide (k = 24) || β k) (newX (some 74) (.slice (some ⟨u.heap.size, 0, none⟩) 1 1) X) (u.alloc (.cells #[.int .i64 n3] 3)) :=
  ⟨(h.rows.rot.rot.build1 ha h.k.size).rot, h.k.alloc _, (Below.heap_alloc _ _ _ (Array.getElem?_eq_some_iff.1 h.c).1).trans h.c, (fun e => by rw [show (decide (27 = 24) || β 27) = β 27 from rfl, h27] at e; cases e), h.i29, h.i31, h.p26, h.p28, h.p30, h.w7, h.w16, (fun e => ⟨rfl, (h.w25 e).2⟩)⟩
theorem JT.got3 {v : Value} (h : JT w2 q ep r1 r2 r3 L1 L2 L3 n1 n2 n3 β X u) (ha : β 25 = false) (hf : β 24 = true) (hp : β 16 = true) (h27 : β 27 = false) (hq : q < w2.heap.size) (ho : Own u' w2.heap.size 3 1 intc v (L3 ++ [n3])) (hg : u.grownBy u' r3.ownBlock) (hat : AtOf u r3 v) :
    JT w2 q ep r1 r2 r3 L1 L2 L3 n1 n2 n3 (fun k => decide (k = 25) || β k) (newX (some 75) v X) u' := by
  have hb : ∀ k, r3.ownBlock = some k → w2.heap.size ≤ k := fun k e => (Own.lt (h.rows.r3.own0 rfl ha) k e).1
  refine ⟨(h.rows.rot.rot.got1 ha rfl ho hg hat).rot, h.k.grown hg (fun k e hk => by have := hb k e; omega), ?_, (fun e => by rw [show (decide (27 = 25) || β 27) = β 27 from rfl, h27] at e; cases e), h.i29, h.i31, h.p26, h.p28, h.p30, h.w7, h.w16, fun _ => ⟨hf, hp⟩⟩
  obtain ⟨h29, h31, hc⟩ := h.early h27
  have := (Keeps.of_grown hg).grownTo hc (fun e => by have := hb q e; omega)
  rw [show (decide (27 = 25) || β 27) = false from h27, show (decide (29 = 25) || β 29) = false from h29, show (decide (31 = 25) || β 31) = false from h31]
  exact this
theorem JT.ptr1 (h : JT w2 q ep r1 r2 r3 L1 L2 L3 n1 n2 n3 β X u) (h27 : β 27 = false) : JT w2 q ep r1 r2 r3 L1 L2 L3 n1 n2 n3 (fun k => decide (k = 26) || β k) (newX (some 76) (.pointer (some ⟨q, 1, none⟩)) X) u :=
  ⟨h.rows, h.k, h.c, (fun e => by rw [show (decide (27 = 26) || β 27) = β 27 from rfl, h27] at e; cases e), h.i29, h.i31, fun _ => rfl, h.p28, h.p30, h.w7, h.w16, h.w25⟩
theorem JT.ptr2 (h : JT w2 q ep r1 r2 r3 L1 L2 L3 n1 n2 n3 β X u) : JT w2 q ep r1 r2 r3 L1 L2 L3 n1 n2 n3 (fun k => decide (k = 28) || β k) (newX (some 77) (.pointer (some ⟨q, 2, none⟩)) X) u :=
  ⟨h.rows, h.k, h.c, h.i27, h.i29, h.i31, h.p26, fun _ => rfl, h.p30, h.w7, h.w16, h.w25⟩
theorem JT.ptr3 (h : JT w2 q ep r1 r2 r3 L1 L2 L3 n1 n2 n3 β X u) : JT w2 q ep r1 r2 r3 L1 L2 L3 n1 n2 n3 (fun k => decide (k = 30) || β k) (newX (some 78) (.pointer (some ⟨q, 3, none⟩)) X) u :=
  ⟨h.rows, h.k, h.c, h.i27, h.i29, h.i31, h.p26, h.p28, fun _ => rfl, h.w7, h.w16, h.w25⟩
theorem JT.put1 (h : JT w2 q ep r1 r2 r3 L1 L2 L3 n1 n2 n3 β X u) (h27 : β 27 = false) (hq : q < w2.heap.size) (ha : β 6 = true ∧ β 7 = true ∧ β 15 = true ∧ β 16 = true ∧ β 24 = true ∧ β 25 = true ∧ β 26 = true) : JT w2 q ep r1 r2 r3 L1 L2 L3 n1 n2 n3 (fun k => decide (k = 27) || β k) X (u.setCell ⟨q, 1, none⟩ (X 57)) := by
  obtain ⟨h29, h31, hc⟩ := h.early h27
  refine ⟨h.rows.keep (Keeps.one u q 1 (X 57)) (fun k e => by rw [show k = q from e]; exact hq), h.k.trans (Keeps.one u q 1 (X 57)), ?_, fun _ => ha, (fun e => by rw [show (decide (29 = 27) || β 29) = β 29 from rfl, h29] at e; cases e), h.i31, h.p26, h.p28, h.p30, h.w7, h.w16, h.w25⟩
  rw [show (decide (29 = 27) || β 29) = false from h29, show (decide (31 = 27) || β 31) = false from h31]
  exact setCell_block (o := 1) hc (X 57)
theorem JT.put2 (h : JT w2 q ep r1 r2 r3 L1 L2 L3 n1 n2 n3 β X u) (h29 : β 29 = false) (hq : q < w2.heap.size) (h27 : β 27 = true) : JT w2 q ep r1 r2 r3 L1 L2 L3 n1 n2 n3 (fun k => decide (k = 29) || β k) X (u.setCell ⟨q, 2, none⟩ (X 66)) := by
  have h31 : β 31 = false := by cases e : β 31 with | false => rfl | true => rw [h.i31 e] at h29; cases h29
  have hc := h.c
  rw [h27, h29, h31] at hc
  refine ⟨h.rows.keep (Keeps.one u q 2 (X 66)) (fun k e => by rw [show k = q from e]; exact hq), h.k.trans (Keeps.one u q 2 (X 66)), ?_, h.i27, fun _ => h27, (fun e => by rw [show (decide (31 = 29) || β 31) = β 31 from rfl, h31] at e; cases e), h.p26, h.p28, h.p30, h.w7, h.w16, h.w25⟩
  rw [show (decide (27 = 29) || β 27) = true from h27, show (decide (31 = 29) || β 31) = false from h31]
  exact setCell_block (o := 2) hc (X 66)
theorem JT.put3 (h : JT w2 q ep r1 r2 r3 L1 L2 L3 n1 n2 n3 β X u) (h31 : β 31 = false) (hq : q < w2.heap.size) (h29 : β 29 = true) : JT w2 q ep r1 r2 r3 L1 L2 L3 n1 n2 n3 (fun k => decide (k = 31) || β k) X (u.setCell ⟨q, 3, none⟩ (X 75)) := by
  have h27 := h.i29 h29
  have hc := h.c
  rw [h27, h29, h31] at hc
  refine ⟨h.rows.keep (Keeps.one u q 3 (X 75)) (fun k e => by rw [show k = q from e]; exact hq), h.k.trans (Keeps.one u q 3 (X 75)), ?_, h.i27, h.i29, fun _ => h29, h.p26, h.p28, h.p30, h.w7, h.w16, h.w25⟩
  rw [show (decide (27 = 31) || β 27) = true from h27, show (decide (29 = 31) || β 29) = true from h29]
  exact setCell_block (o := 3) hc (X 75)
end
theorem ff {a b : Bool} (hb : b = false) (h : a = true → b = true) : a = false := by
  cases a
  · rfl
  · rw [h rfl] at hb
    cases hb
set_option maxRecDepth 20000 in
set_option maxHeartbeats 8000000 in
theorem vtake_any (w : World) (v : Vw) (hr : RightV v) :
    Calls Tryz.prog 52 #[.string (Bl (vwL v))] w fun e w' => ∃ a b c, e = .returned (.tuple #[.agg #[.int .i64 v.ep, a, b, c], .int .i64 0]) ∧ VwSl w' (fun k => w.heap.size ≤ k) v.L a b c ∧ Below w.heap.size w w' := by
  have hn1 := hr.n1
  have hn2 := hr.n2
  have hlen := vwI_len v
  have hle := vwI_le hr
  have h0 : (vwI v)[0]? = some v.ep.toNat := rfl
  have h1 : (vwI v)[1]? = some v.L.length := rfl
  have hvs := vwL_len hr
  have hvL : vwL v = (vwI v).flatMap numL := rfl
  have hat := fun k (hk : k < v.L.length) => vwI_at hk
  obtain ⟨n, hn⟩ : ∃ n, v.L.length = n := ⟨_, rfl⟩
  obtain ⟨ns, hns⟩ : ∃ ns, vwI v = ns := ⟨_, rfl⟩
  rw [hn] at hn1 hn2 hlen h1
  rw [hns] at hlen hle h0 h1 hvL hat
  have HNS := Lib.hid hns
  have HR := Lib.hid hr
  have HLE := Lib.hid hle
  have HN := Lib.hid hn
  have H0 := Lib.hid h0
  have H1 := Lib.hid h1
  have HAT := Lib.hid hat
  have HVL := Lib.hid hvL
  rw [hvL]
  rw [hvL] at hvs
  have HVS := Lib.hid hvs
  have HLEN := Lib.hid hlen
  clear hn hns hr hle h0 h1 hat hvL hvs
  have hB0 : Below w.heap.size w (w.alloc (.cells #[.int .i64 0, .slice none 0 0, .slice none 0 0, .slice none 0 0] 45)) := (Below.refl _ w).alloc (Nat.le_refl _) _
  have hblk := heap_alloc_new w (.cells #[.int .i64 0, .slice none 0 0, .slice none 0 0, .slice none 0 0] 45)
  go_enter Tryz.func52, Tryz.ntmps52
  go_upto_region 1 with (fail)
  obtain ⟨r, hr⟩ : ∃ r, w.heap.size = r := ⟨_, rfl⟩
  rw [hr] at hblk ⊢
  generalize w.alloc (.cells #[.int .i64 0, .slice none 0 0, .slice none 0 0, .slice none 0 0] 45) = w0 at hB0 hblk ⊢
  have HRQ := Lib.hid hr
  have HB0 := Lib.hid hB0
  have HBK := Lib.hid hblk
  clear hr hB0 hblk
  obtain ⟨N, hN⟩ : ∃ N, ns.length = N := ⟨_, rfl⟩
  rw [hN] at hlen HLEN
  have HNN := Lib.hid hN
  clear hN
  go_wp2_with fail
  go_loopw [0, 4, 5] (fun s l many wr => ∃ k : Nat, k ≤ N ∧ s = .string (Bl ((ns.drop k).flatMap numL)) ∧ Own wr w0.heap.size 3 1 intc l (asI (ns.take k)) ∧ many = .int .i64 (if k < 2 then 2 else 2 + 3 * n : Nat) ∧ Below w0.heap.size w0 wr) (fun _ l _ _ => N - lenSl l)
  case atStart => exact ⟨0, Nat.zero_le _, rfl, Own.nil_ _ _ _ _ _, rfl, Below.refl _ _⟩
  case round =>
    obtain ⟨k, hk, rfl, hO, rfl, hB⟩ := hrel
    obtain ⟨M, hM⟩ : ∃ M : Nat, (if k < 2 then 2 else 2 + 3 * n) = M := ⟨_, rfl⟩
    rw [hM]
    have hlk : (asI (ns.take k)).length = k := by rw [asI_len, List.length_take, HNN.out]; omega
    obtain ⟨A, ca, rfl, hA1, hA2⟩ := hO.shape_ hlk
    unfold maxLen at hA2
    have hlN := HLEN.out
    by_cases hlt : k < N
    · have hkM : k < M := by
        rw [← hM]
        split
        · assumption
        · omega
      have hkn : k < ns.length := by rw [HNN.out]; exact hlt
      have hm := HLE.out ns[k] (List.getElem_mem hkn)
      have hdr := List.drop_eq_getElem_cons hkn
      have htk := List.take_succ_eq_append_getElem hkn
      have hm1 : k = 1 → ns[k] = n := fun e => by
        have h1 := H1.out
        subst e
        exact (List.getElem?_eq_some_iff.1 h1).2
      obtain ⟨m, hme⟩ : ∃ m, ns[k] = m := ⟨_, rfl⟩
      rw [hme] at hm hdr htk hm1
      have hts := tkN_num (n := m) (by omega) ((ns.drop (k + 1)).flatMap numL)
      have hflat : (ns.drop k).flatMap numL = numL m ++ (ns.drop (k + 1)).flatMap numL := by rw [hdr]; rfl
      have hsz : ((ns.drop k).flatMap numL).length ≤ 120 := by
        have h1 := (HVS.out).2
        have h2 : ns.flatMap numL = (ns.take k).flatMap numL ++ (ns.drop k).flatMap numL := by rw [← List.flatMap_append, List.take_append_drop]
        rw [h2, List.length_append] at h1
        omega
      have hc := fun W => take_any W (Bl ((ns.drop k).flatMap numL)) (by rw [Bl_size]; omega)
      rw [Lb_Bl, hflat, hts] at hc
      rw [hflat]
      have htk2 : asI (ns.take (k + 1)) = asI (ns.take k) ++ [(m : Int)] := by rw [htk]; unfold asI; rw [List.map_append]; rfl
      obtain ⟨K1, hK1⟩ : ∃ K1, k + 1 = K1 := ⟨_, rfl⟩
      have hM1 : k ≠ 1 → (if k + 1 < 2 then 2 else 2 + 3 * n) = M := fun e => by
        rw [← hM]
        by_cases h2 : k < 2
        · rw [if_pos h2, if_pos (by omega)]
        · rw [if_neg h2, if_neg (by omega)]
      have hM2 : k = 1 → M = 2 := fun e => by rw [← hM, e]; rfl
      have d0 : decide ((k : Int) < (M : Int)) = true := decide_eq_true (by omega)
      have HC := Lib.hid hc
      have HO := Lib.hid hO
      have HB := Lib.hid hB
      have HTK := Lib.hid htk2
      have HM1 := Lib.hid hM1
      have HK1 := Lib.hid hK1
      have hlk1 : (asI (ns.take k) ++ [(m : Int)]).length = K1 := by rw [List.length_append, hlk, List.length_singleton]; exact hK1
      have HLK := Lib.hid hlk1
      have HLK0 := Lib.hid hlk
      have hKd : k = 1 → ((K1 : Int) == 2) = true := fun e => by rw [beq_iff_eq]; omega
      have hKe : k ≠ 1 → ((K1 : Int) == 2) = false := fun e => by rw [beq_eq_false_iff_ne]; omega
      have HKd := Lib.hid hKd
      have HKe := Lib.hid hKe
      have HM2 := Lib.hid hM2
      have Hm1 := Lib.hid hm1
      have hb0 := HB.out.size
      have hk20 : k ≤ 20 := by omega
      clear hc hO hB htk2 hM1 hK1 hdr htk hts hflat hme hkn hM hlk hlk1 hKd hKe hM2 hm1
      go_wp2_with fail
      refine (HC.out _).mono ?_
      rintro e w1 ⟨rfl, hB1⟩
      have HB1 := Lib.hid (HB.out.trans (hB1.mono HB.out.size))
      have HO1 := Lib.hid (HO.out.fresh hB1)
      clear hB1 HC
      by_cases hk1 : k = 1
      · have d8 := HKd.out hk1
        have hmn := Hm1.out hk1
        have d9 : decide ((6 : Int) < (m : Int)) = false := decide_eq_false (by omega)
        have hM2 := HM2.out hk1
        have HMN := Lib.hid hmn
        have HMM := Lib.hid hM2
        have hm6 : m ≤ 6 := by omega
        have hMb : M ≤ 20 := by omega
        have HKO := Lib.hid hk1
        clear hmn hM2 hk1
        go_wp2_with (at_builtin; refine elInt.append _ (by rfl) _ _ rfl w0.heap.size _ _ rfl (HO1.out.fresh ((Below.refl _ _).alloc (Nat.le_refl _) _)) _ _ [(m : Int)] rfl (Sl.single (heap_alloc_new _ _) rfl) ?_ ?_ ?_; (have := HLK0.out; simp; omega); (have := HB1.out.size; simp; omega); intro v' w4 hown' hgrow hat; (have hgr : Below w0.heap.size w0 w4 := (HB1.out.alloc HB1.out.size _).grown hgrow (by have := HB1.out.size; simp; omega) (fun q e => (HO1.out.lt q e).1)); obtain ⟨A', ca', rfl, hA1', hA2'⟩ := hown'.shape_ HLK.out; have HO2 := Lib.hid hown'; have HB2 := Lib.hid hgr; clear hown' hgrow hat hgr)
        go_roundw
        case rel => exact ⟨k + 1, by omega, rfl, by rw [HTK.out]; exact HO2.out, by rw [if_neg (by have := HKO.out; omega)]; have h1 := HMN.out; have h2 := HMM.out; go_num, HB2.out⟩
        case measure => have := HK1.out; show N - K1 < N - k; omega
      · have d8 := HKe.out hk1
        have HMM := Lib.hid (HM1.out hk1)
        clear hk1
        go_wp2_with (at_builtin; refine elInt.append _ (by rfl) _ _ rfl w0.heap.size _ _ rfl (HO1.out.fresh ((Below.refl _ _).alloc (Nat.le_refl _) _)) _ _ [(m : Int)] rfl (Sl.single (heap_alloc_new _ _) rfl) ?_ ?_ ?_; (have := HLK0.out; simp; omega); (have := HB1.out.size; simp; omega); intro v' w4 hown' hgrow hat; (have hgr : Below w0.heap.size w0 w4 := (HB1.out.alloc HB1.out.size _).grown hgrow (by have := HB1.out.size; simp; omega) (fun q e => (HO1.out.lt q e).1)); obtain ⟨A', ca', rfl, hA1', hA2'⟩ := hown'.shape_ HLK.out; have HO2 := Lib.hid hown'; have HB2 := Lib.hid hgr; clear hown' hgrow hat hgr)
        go_roundw
        case rel => exact ⟨k + 1, by omega, rfl, by rw [HTK.out]; exact HO2.out, by rw [HMM.out], HB2.out⟩
        case measure => have := HK1.out; show N - K1 < N - k; omega
    · have hkN : k = N := by omega
      subst hkN
      have hMk : M ≤ k := by rw [← hM, if_neg (by omega)]; omega
      have d0 : decide ((k : Int) < (M : Int)) = false := decide_eq_false (by omega)
      have d0' : decide (k < M) = false := decide_eq_false (by omega)
      have hdr : ns.drop k = [] := List.drop_of_length_le (by rw [HNN.out]; exact Nat.le_refl _)
      have htk : ns.take k = ns := List.take_of_length_le (by rw [HNN.out]; exact Nat.le_refl _)
      rw [htk] at hO
      rw [hdr, show Bl (([] : List Nat).flatMap numL) = (⟨#[]⟩ : ByteArray) from rfl]
      have hsl := hO.sl (fun _ => rfl)
      have hcl : ∀ i m : Nat, ns[i]? = some m → ∃ b o, A = some ⟨b, o, none⟩ ∧ b < wr.heap.size ∧ w0.heap.size ≤ b ∧ wr.cell? ⟨b, o + i, none⟩ = some (.int .i64 (m : Int)) := fun i m hm => by
        obtain ⟨h2, h3⟩ := asI_get hm
        obtain ⟨b, o, e, hF, hb, hc⟩ := hsl.cell_ h2
        have := hc 0 _ rfl
        rw [Nat.mul_one, Nat.add_zero, h3] at this
        exact ⟨b, o, e, hb, (hO.lt b hF).1, this⟩
      obtain ⟨g, o, rfl, hg, hg0, x0⟩ := hcl 0 _ H0.out
      have hcl2 : ∀ i m : Nat, ns[i]? = some m → wr.cell? ⟨g, o + i, none⟩ = some (.int .i64 (m : Int)) := fun i m hm => by
        obtain ⟨b, o', e, _, _, h⟩ := hcl i m hm
        cases e
        exact h
      have hep := HR.out.ep1
      have hep2 := HR.out.ep2
      rw [show ((v.ep.toNat : Nat) : Int) = v.ep by omega, Nat.add_zero] at x0
      obtain ⟨ep, hepe⟩ : ∃ ep, v.ep = ep := ⟨_, rfl⟩
      rw [hepe] at x0 hep hep2
      have HEP := Lib.hid hepe
      have HB := Lib.hid hB
      have HCL := Lib.hid hcl2
      have hk20 : 2 ≤ k ∧ k ≤ 20 := by omega
      obtain ⟨hk2, hk3⟩ := hk20
      have hrw : r < w0.heap.size := (Array.getElem?_eq_some_iff.1 HBK.out).1
      clear hB hO hdr htk hsl hcl hcl2 hM hlk hepe hlen hlN
      go_upto_region 13 with (fail)
      have hbl2 := heap_alloc_new wr (.cells #[.int .i64 ep, .slice none 0 0, .slice none 0 0, .slice none 0 0] 45)
      have hB2 : Below wr.heap.size wr (wr.alloc (.cells #[.int .i64 ep, .slice none 0 0, .slice none 0 0, .slice none 0 0] 45)) := (Below.refl _ wr).alloc (Nat.le_refl _) _
      generalize wr.alloc (.cells #[.int .i64 ep, .slice none 0 0, .slice none 0 0, .slice none 0 0] 45) = w2 at hbl2 hB2 ⊢
      obtain ⟨q, hq⟩ : ∃ q, wr.heap.size = q := ⟨_, rfl⟩
      have HX := Lib.hid (fun (i m : Nat) (hm : ns[i]? = some m) => (hB2.cell (p := ⟨g, o + i, none⟩) hg).trans (HCL.out i m hm))
      have HB2 := Lib.hid (HB.out.trans (hB2.mono HB.out.size))
      have hgq : g < q := by rw [← hq]; exact hg
      rw [hq] at hbl2 ⊢
      have HBL := Lib.hid hbl2
      have hq2 : q < w2.heap.size := (Array.getElem?_eq_some_iff.1 hbl2).1
      have hrq : r < q := by rw [← hq]; have := HB.out.size; omega
      clear hbl2 hB2 hq hg x0 HB HCL
      go_wp2_with fail
      have hT0 : TkR w2 q ep v.L 0 w2 := ⟨_, _, _, HBL.out, Own.nil_ _ _ _ _ _, Own.nil_ _ _ _ _ _, Own.nil_ _ _ _ _ _, fun _ h => by simp [Value.ownBlock] at h, fun _ h => by simp [Value.ownBlock] at h, Keeps.refl _ _⟩
      go_loopw [10] (fun i wr => ∃ j : Nat, j ≤ n ∧ i = .int .i64 (2 + 3 * j : Nat) ∧ TkR w2 q ep v.L j wr) (fun i _ => 2 + 3 * n - (intOf i).toNat)
      case atStart => exact ⟨0, Nat.zero_le _, rfl, hT0⟩
      case round =>
        obtain ⟨j, hj, rfl, va, vb, vc, hQ, ha, hb, hc, hd1, hd2, hK⟩ := hrel
        obtain ⟨I, hI⟩ : ∃ I, 2 + 3 * j = I := ⟨_, rfl⟩
        have HIj := Lib.hid hI
        rw [hI]
        clear hT0
        by_cases hlt : j < n
        · have hIk : I < k := by have := HLEN.out; omega
          have d0 : decide ((I : Int) < (k : Int)) = true := decide_eq_true (by omega)
          have hI1 : I + 2 < k := by have := HLEN.out; omega
          obtain ⟨e0, e1, e2⟩ := HAT.out j (by rw [HN.out]; exact hlt)
          rw [hI] at e0 e1 e2
          have y0 := (hK.cell (a := ⟨g, o + I, none⟩) (by show g < _; omega) (fun e => by have e2 : g = q := e; omega)).trans (HX.out _ _ e0)
          have y1 := (hK.cell (a := ⟨g, o + (I + 1), none⟩) (by show g < _; omega) (fun e => by have e2 : g = q := e; omega)).trans (HX.out _ _ e1)
          have y2 := (hK.cell (a := ⟨g, o + (I + 2), none⟩) (by show g < _; omega) (fun e => by have e2 : g = q := e; omega)).trans (HX.out _ _ e2)
          have Z0 := Lib.hid (HX.out _ _ e0)
          have Z1 := Lib.hid (HX.out _ _ e1)
          have Z2 := Lib.hid (HX.out _ _ e2)
          have hgw : g < w2.heap.size := by omega
          have hbd := HR.out.bd (v.L[j]'(by rw [HN.out]; exact hlt)) (List.getElem_mem _)
          have hts := List.take_succ_eq_append_getElem (show j < v.L.length by rw [HN.out]; exact hlt)
          obtain ⟨x, hx⟩ : ∃ x, x = v.L[j]'(by rw [HN.out]; exact hlt) := ⟨_, rfl⟩
          rw [← hx] at y0 y1 y2 Z0 Z1 Z2 hbd hts
          rw [show ((x.node.toNat : Nat) : Int) = x.node by omega] at y0 Z0
          rw [show ((x.since.toNat : Nat) : Int) = x.since by omega] at y1 Z1
          rw [show ((x.boot.toNat : Nat) : Int) = x.boot by omega] at y2 Z2
          have hlj : (v.L.take j).length = j := by rw [List.length_take, HN.out]; omega
          obtain ⟨A1, c1, rfl, a1, _⟩ := ha.shape_ (n := j) (by rw [List.length_map]; exact hlj)
          obtain ⟨A2, c2, rfl, a2, _⟩ := hb.shape_ (n := j) (by rw [List.length_map]; exact hlj)
          obtain ⟨A3, c3, rfl, a3, _⟩ := hc.shape_ (n := j) (by rw [List.length_map]; exact hlj)
          have HTS := Lib.hid hts
          have HA := Lib.hid ha
          have HB := Lib.hid hb
          have HC := Lib.hid hc
          have HD1 := Lib.hid hd1
          have HD2 := Lib.hid hd2
          have HK := Lib.hid hK
          have HQ := Lib.hid hQ
          have q1 : wr.cell? ⟨q, 1, none⟩ = some (.slice A1 j c1) := cell_of_row wr q 1 _ _ _ hQ
          have q2 : wr.cell? ⟨q, 2, none⟩ = some (.slice A2 j c2) := cell_of_row wr q 2 _ _ _ hQ
          have q3 : wr.cell? ⟨q, 3, none⟩ = some (.slice A3 j c3) := cell_of_row wr q 3 _ _ _ hQ
          have HLJ := Lib.hid hlj
          clear ha hb hc hd1 hd2 hK hQ hI e0 e1 e2 hts hx hbd hlj
          go_upto_region 16 with (fail)
          have hk0 : (0 : Int) ≤ (I : Int) ∧ (I : Int) < (k : Int) ∧ (0 : Int) ≤ (I : Int) + 1 ∧ (I : Int) + 1 < (k : Int) ∧ (0 : Int) ≤ (I : Int) + 2 ∧ (I : Int) + 2 < (k : Int) := by omega
          obtain ⟨i1, i2, i3, i4, i5, i6⟩ := hk0
          have t1 : ((I : Int) + 1).toNat = I + 1 := by omega
          have t2 : ((I : Int) + 2).toNat = I + 2 := by omega
          have w1 : IntKind.i64.wrap ((I : Int) + 1) = (I : Int) + 1 := IntWalk.i64_in _ (by omega)
          have w3 : IntKind.i64.wrap ((I : Int) + 2) = (I : Int) + 2 := IntWalk.i64_in _ (by omega)
          have held : ∀ β X u, JT w2 q ep (.slice A1 j c1) (.slice A2 j c2) (.slice A3 j c3) ((v.L.take j).map Nd.node) ((v.L.take j).map Nd.since) ((v.L.take j).map Nd.boot) x.node x.since x.boot β X u → β 27 = false →
              (u.cell? ⟨q, 1, none⟩ = some (.slice A1 j c1) ∧ u.cell? ⟨q, 2, none⟩ = some (.slice A2 j c2) ∧ u.cell? ⟨q, 3, none⟩ = some (.slice A3 j c3) ∧ u.cell? ⟨g, o + I, none⟩ = some (.int .i64 x.node) ∧ u.cell? ⟨g, o + (I + 1), none⟩ = some (.int .i64 x.since) ∧ u.cell? ⟨g, o + (I + 2), none⟩ = some (.int .i64 x.boot)) := fun β X u hJ h27 => by
            obtain ⟨_, _, hc⟩ := hJ.early h27
            exact ⟨cell_of_row u q 1 _ _ _ hc, cell_of_row u q 2 _ _ _ hc, cell_of_row u q 3 _ _ _ hc, (hJ.k.cell (a := ⟨g, o + I, none⟩) hgw (fun e => by have e2 : g = q := e; omega)).trans Z0.out, (hJ.k.cell (a := ⟨g, o + (I + 1), none⟩) hgw (fun e => by have e2 : g = q := e; omega)).trans Z1.out, (hJ.k.cell (a := ⟨g, o + (I + 2), none⟩) hgw (fun e => by have e2 : g = q := e; omega)).trans Z2.out⟩
          refine wp_region_noPanic ?_
          refine region_kept 27 [0, 1, 2, 3, 4, 5, 8, 9, 10, 11, 12, 13, 14, 17, 18, 19, 20, 21, 22, 23] [6, 7, 15, 16, 24, 25, 26, 27, 28, 29, 30, 31] [56, 57, 65, 66, 74, 75, 76, 77, 78]
            (fun z => z.cell? ⟨q, 1, none⟩ = some (.slice A1 j c1) ∧ z.cell? ⟨q, 2, none⟩ = some (.slice A2 j c2) ∧ z.cell? ⟨q, 3, none⟩ = some (.slice A3 j c3) ∧ z.cell? ⟨g, o + I, none⟩ = some (.int .i64 x.node) ∧ z.cell? ⟨g, o + (I + 1), none⟩ = some (.int .i64 x.since) ∧ z.cell? ⟨g, o + (I + 2), none⟩ = some (.int .i64 x.boot))
            (JT w2 q ep (.slice A1 j c1) (.slice A2 j c2) (.slice A3 j c3) ((v.L.take j).map Nd.node) ((v.L.take j).map Nd.since) ((v.L.take j).map Nd.boot) x.node x.since x.boot) (by kernel_rfl) (by kernel_rfl) (by kernel_rfl) (by decide) (by kernel_rfl) (fun _ _ _ _ h => h) ⟨q1, q2, q3, y0, y1, y2⟩
            ⟨.pointer (some ⟨q, 1, none⟩), .inl ⟨rfl, fun z hz => by (obtain ⟨z1, z2, z3, z4, z5, z6⟩ := hz; simp only [List.getElem?_toArray, List.getElem?_cons_zero, Option.getD_some]; go_simp)⟩,
              .slice A1 j c1, .inl ⟨rfl, fun z hz => by (obtain ⟨z1, z2, z3, z4, z5, z6⟩ := hz; simp only [List.getElem?_toArray, List.getElem?_cons_succ, List.getElem?_cons_zero, Option.getD_some]; go_simp)⟩,
              .slice (some ⟨g, o, none⟩) k ca, .inl ⟨rfl, fun z hz => by (obtain ⟨z1, z2, z3, z4, z5, z6⟩ := hz; simp only [List.getElem?_toArray, List.getElem?_cons_succ, List.getElem?_cons_zero, Option.getD_some]; go_simp)⟩,
              .int .i64 I, .inl ⟨rfl, fun z hz => by (obtain ⟨z1, z2, z3, z4, z5, z6⟩ := hz; simp only [List.getElem?_toArray, List.getElem?_cons_succ, List.getElem?_cons_zero, Option.getD_some]; go_simp)⟩,
              .pointer (some ⟨g, o + I, none⟩), .inl ⟨rfl, fun z hz => by (obtain ⟨z1, z2, z3, z4, z5, z6⟩ := hz; simp only [List.getElem?_toArray, List.getElem?_cons_succ, List.getElem?_cons_zero, Option.getD_some]; go_simp)⟩,
              .int .i64 x.node, .inl ⟨rfl, fun z hz => by (obtain ⟨z1, z2, z3, z4, z5, z6⟩ := hz; simp only [List.getElem?_toArray, List.getElem?_cons_succ, List.getElem?_cons_zero, Option.getD_some]; go_simp)⟩,
              .pointer (some ⟨q, 2, none⟩), .inl ⟨rfl, fun z hz => by (obtain ⟨z1, z2, z3, z4, z5, z6⟩ := hz; simp only [List.getElem?_toArray, List.getElem?_cons_succ, List.getElem?_cons_zero, Option.getD_some]; go_simp)⟩,
              .slice A2 j c2, .inl ⟨rfl, fun z hz => by (obtain ⟨z1, z2, z3, z4, z5, z6⟩ := hz; simp only [List.getElem?_toArray, List.getElem?_cons_succ, List.getElem?_cons_zero, Option.getD_some]; go_simp)⟩,
              .slice (some ⟨g, o, none⟩) k ca, .inl ⟨rfl, fun z hz => by (obtain ⟨z1, z2, z3, z4, z5, z6⟩ := hz; simp only [List.getElem?_toArray, List.getElem?_cons_succ, List.getElem?_cons_zero, Option.getD_some]; go_simp)⟩,
              .int .i64 I, .inl ⟨rfl, fun z hz => by (obtain ⟨z1, z2, z3, z4, z5, z6⟩ := hz; simp only [List.getElem?_toArray, List.getElem?_cons_succ, List.getElem?_cons_zero, Option.getD_some]; go_simp)⟩,
              .int .i64 ((I : Int) + 1), .inl ⟨rfl, fun z hz => by (obtain ⟨z1, z2, z3, z4, z5, z6⟩ := hz; simp only [List.getElem?_toArray, List.getElem?_cons_succ, List.getElem?_cons_zero, Option.getD_some]; go_simp)⟩,
              .pointer (some ⟨g, o + (I + 1), none⟩), .inl ⟨rfl, fun z hz => by (obtain ⟨z1, z2, z3, z4, z5, z6⟩ := hz; simp only [List.getElem?_toArray, List.getElem?_cons_succ, List.getElem?_cons_zero, Option.getD_some]; go_simp)⟩,
              .int .i64 x.since, .inl ⟨rfl, fun z hz => by (obtain ⟨z1, z2, z3, z4, z5, z6⟩ := hz; simp only [List.getElem?_toArray, List.getElem?_cons_succ, List.getElem?_cons_zero, Option.getD_some]; go_simp)⟩,
              .pointer (some ⟨q, 3, none⟩), .inl ⟨rfl, fun z hz => by (obtain ⟨z1, z2, z3, z4, z5, z6⟩ := hz; simp only [List.getElem?_toArray, List.getElem?_cons_succ, List.getElem?_cons_zero, Option.getD_some]; go_simp)⟩,
              .slice A3 j c3, .inl ⟨rfl, fun z hz => by (obtain ⟨z1, z2, z3, z4, z5, z6⟩ := hz; simp only [List.getElem?_toArray, List.getElem?_cons_succ, List.getElem?_cons_zero, Option.getD_some]; go_simp)⟩,
              .slice (some ⟨g, o, none⟩) k ca, .inl ⟨rfl, fun z hz => by (obtain ⟨z1, z2, z3, z4, z5, z6⟩ := hz; simp only [List.getElem?_toArray, List.getElem?_cons_succ, List.getElem?_cons_zero, Option.getD_some]; go_simp)⟩,
              .int .i64 I, .inl ⟨rfl, fun z hz => by (obtain ⟨z1, z2, z3, z4, z5, z6⟩ := hz; simp only [List.getElem?_toArray, List.getElem?_cons_succ, List.getElem?_cons_zero, Option.getD_some]; go_simp)⟩,
              .int .i64 ((I : Int) + 2), .inl ⟨rfl, fun z hz => by (obtain ⟨z1, z2, z3, z4, z5, z6⟩ := hz; simp only [List.getElem?_toArray, List.getElem?_cons_succ, List.getElem?_cons_zero, Option.getD_some]; go_simp)⟩,
              .pointer (some ⟨g, o + (I + 2), none⟩), .inl ⟨rfl, fun z hz => by (obtain ⟨z1, z2, z3, z4, z5, z6⟩ := hz; simp only [List.getElem?_toArray, List.getElem?_cons_succ, List.getElem?_cons_zero, Option.getD_some]; go_simp)⟩,
              .int .i64 x.boot, .inl ⟨rfl, fun z hz => by (obtain ⟨z1, z2, z3, z4, z5, z6⟩ := hz; simp only [List.getElem?_toArray, List.getElem?_cons_succ, List.getElem?_cons_zero, Option.getD_some]; go_simp)⟩,
              rfl⟩ ?_ ?_ ?_
          · intro β X hβ
            have b := fun i (hi : i ∈ [6, 7, 15, 16, 24, 25, 26, 27, 28, 29, 30, 31]) => hβ i hi
            refine ⟨?_, HK.out.drew, ?_, ?_, ?_, ?_, ?_, ?_, ?_, ?_, ?_, ?_⟩
            · rw [b 6 (by decide), b 7 (by decide), b 15 (by decide), b 16 (by decide), b 24 (by decide), b 25 (by decide)]
              exact ⟨.start HA.out, .start HB.out, .start HC.out, .start fun k h => (HD1.out k h).1, .start fun k h => (HD1.out k h).2, .start fun k h => HD2.out k h⟩
            · rw [b 27 (by decide), b 29 (by decide), b 31 (by decide)]
              exact HQ.out
            · rw [b 27 (by decide)]; intro h; cases h
            · rw [b 29 (by decide)]; intro h; cases h
            · rw [b 31 (by decide)]; intro h; cases h
            · rw [b 26 (by decide)]; intro h; cases h
            · rw [b 28 (by decide)]; intro h; cases h
            · rw [b 30 (by decide)]; intro h; cases h
            · rw [b 7 (by decide)]; intro h; cases h
            · rw [b 16 (by decide)]; intro h; cases h
            · rw [b 25 (by decide)]; intro h; cases h
          · intro i hi β X u hJ hb hdep b ho hx K hK
            simp only [List.mem_cons, List.not_mem_nil, or_false] at hi
            rcases hi with rfl | rfl | rfl | rfl | rfl | rfl | rfl | rfl | rfl | rfl | rfl | rfl
            · have h27 : β 27 = false := ff hb fun e => (hJ.i27 e).1
              have ha : β 7 = false := ff hb (hJ.w7)
              have e1 : b.eval (.tmp 55) = .int .i64 x.node := by rw [ho 55 (by decide)]; go_simp
              exact wpOp_one 55 x.node rfl rfl rfl e1 (hK _ _ (fun _ => held _ _ _ (hJ.build1 ha h27) h27) (hJ.build1 ha h27))
            · have h27 : β 27 = false := ff hb fun e => (hJ.i27 e).2.1
              have hf : β 6 = true := edge_came rfl hdep 6 (by kernel_rfl)
              have e1 : b.eval (.tmp 51) = .slice A1 j c1 := by rw [ho 51 (by decide)]; go_simp
              have e2 : b.eval (.tmp 56) = X 56 := hx 56 (by decide) (by simp [Act.put])
              refine wpOp_of rfl (elInt.step u rfl (.tmp 51) (.tmp 56) rfl w2.heap.size _ _ e1 (hJ.rows.r1.own0 rfl hb) _ _ [x.node] e2 (hJ.rows.r1.sl hf hb) (by rw [List.length_map, HLJ.out, List.length_singleton]; omega) hJ.k.size fun v' u' h1 h2 h3 => ?_)
              exact hK _ _ (fun _ => held _ _ _ (hJ.got1 hb hf h27 hq2 h1 h2 h3) h27) (hJ.got1 hb hf h27 hq2 h1 h2 h3)
            · have h27 : β 27 = false := ff hb fun e => (hJ.i27 e).2.2.1
              have ha : β 16 = false := ff hb (fun e => (hJ.w16 e).1)
              have e1 : b.eval (.tmp 64) = .int .i64 x.since := by rw [ho 64 (by decide)]; go_simp
              exact wpOp_one 64 x.since rfl rfl rfl e1 (hK _ _ (fun _ => held _ _ _ (hJ.build2 ha h27) h27) (hJ.build2 ha h27))
            · have h27 : β 27 = false := ff hb fun e => (hJ.i27 e).2.2.2.1
              have hf : β 15 = true := edge_came rfl hdep 15 (by kernel_rfl)
              have hp : β 7 = true := edge_came rfl hdep 7 (by kernel_rfl)
              have e1 : b.eval (.tmp 59) = .slice A2 j c2 := by rw [ho 59 (by decide)]; go_simp
              have e2 : b.eval (.tmp 65) = X 65 := hx 65 (by decide) (by simp [Act.put])
              refine wpOp_of rfl (elInt.step u rfl (.tmp 59) (.tmp 65) rfl w2.heap.size _ _ e1 (hJ.rows.r2.own0 rfl hb) _ _ [x.since] e2 (hJ.rows.r2.sl hf hb) (by rw [List.length_map, HLJ.out, List.length_singleton]; omega) hJ.k.size fun v' u' h1 h2 h3 => ?_)
              exact hK _ _ (fun _ => held _ _ _ (hJ.got2 hb hf hp h27 hq2 h1 h2 h3) h27) (hJ.got2 hb hf hp h27 hq2 h1 h2 h3)
            · have h27 : β 27 = false := ff hb fun e => (hJ.i27 e).2.2.2.2.1
              have ha : β 25 = false := ff hb (fun e => (hJ.w25 e).1)
              have e1 : b.eval (.tmp 73) = .int .i64 x.boot := by rw [ho 73 (by decide)]; go_simp
              exact wpOp_one 73 x.boot rfl rfl rfl e1 (hK _ _ (fun _ => held _ _ _ (hJ.build3 ha h27) h27) (hJ.build3 ha h27))
            · have h27 : β 27 = false := ff hb fun e => (hJ.i27 e).2.2.2.2.2.1
              have hf : β 24 = true := edge_came rfl hdep 24 (by kernel_rfl)
              have hp : β 16 = true := edge_came rfl hdep 16 (by kernel_rfl)
              have e1 : b.eval (.tmp 68) = .slice A3 j c3 := by rw [ho 68 (by decide)]; go_simp
              have e2 : b.eval (.tmp 74) = X 74 := hx 74 (by decide) (by simp [Act.put])
              refine wpOp_of rfl (elInt.step u rfl (.tmp 68) (.tmp 74) rfl w2.heap.size _ _ e1 (hJ.rows.r3.own0 rfl hb) _ _ [x.boot] e2 (hJ.rows.r3.sl hf hb) (by rw [List.length_map, HLJ.out, List.length_singleton]; omega) hJ.k.size fun v' u' h1 h2 h3 => ?_)
              exact hK _ _ (fun _ => held _ _ _ (hJ.got3 hb hf hp h27 hq2 h1 h2 h3) h27) (hJ.got3 hb hf hp h27 hq2 h1 h2 h3)
            · have h27 : β 27 = false := ff hb fun e => (hJ.i27 e).2.2.2.2.2.2
              have e1 : b.eval (.tmp 9) = .pointer (some ⟨q, 0, none⟩) := by rw [ho 9 (by decide)]; go_simp
              have hK1 := hK (.pointer (some ⟨q, 1, none⟩)) u (fun _ => held _ _ _ (hJ.ptr1 h27) h27) (hJ.ptr1 h27)
              refine wpOp_of rfl ?_
              have e1' : (b.tmps[9]?).getD undef = .pointer (some ⟨q, 0, none⟩) := by rw [← Array.getD_eq_getD_getElem?]; exact e1
              clear ho hx hJ hK hdep e1
              go_simp
              exact hK1
            · have h25 : β 25 = true := edge_came rfl hdep 25 (by kernel_rfl)
              have h7 : β 7 = true := edge_came rfl hdep 7 (by kernel_rfl)
              have hall : β 6 = true ∧ β 7 = true ∧ β 15 = true ∧ β 16 = true ∧ β 24 = true ∧ β 25 = true ∧ β 26 = true := ⟨hJ.w7 h7, h7, (hJ.w16 (hJ.w25 h25).2).1, (hJ.w25 h25).2, (hJ.w25 h25).1, h25, edge_came rfl hdep 26 (by kernel_rfl)⟩
              have e1 : b.eval (.tmp 76) = .pointer (some ⟨q, 1, none⟩) := (hx 76 (by decide) (by simp [Act.put])).trans (hJ.p26 (edge_came rfl hdep 26 (by kernel_rfl)))
              obtain ⟨Z, zc, hz, _, _⟩ := (hJ.rows.r1.own1 rfl h7).shape_ (n := j + 1) (by rw [List.length_append, List.length_map, HLJ.out, List.length_singleton])
              have hz : X 57 = .slice Z (j + 1) zc := hz
              have e2 : b.eval (.tmp 57) = .slice Z (j + 1) zc := (hx 57 (by decide) (by simp [Act.put])).trans hz
              have hc := hJ.c
              have z1 := cell_of_row u q 1 _ _ _ hc
              have z2 := frozen_block hc 1
              have hK1 := hK undef (u.setCell ⟨q, 1, none⟩ (X 57)) (fun h => absurd h (by omega)) (hJ.put1 hb hq2 hall)
              rw [hz] at hK1
              refine wpOp_of rfl ?_
              have e1' : (b.tmps[76]?).getD undef = .pointer (some ⟨q, 1, none⟩) := by rw [← Array.getD_eq_getD_getElem?]; exact e1
              have e2' : (b.tmps[57]?).getD undef = .slice Z (j + 1) zc := by rw [← Array.getD_eq_getD_getElem?]; exact e2
              clear ho hx hJ hK hdep hz hc e1 e2
              go_simp
              exact hK1
            · have e1 : b.eval (.tmp 9) = .pointer (some ⟨q, 0, none⟩) := by rw [ho 9 (by decide)]; go_simp
              have hK1 := hK (.pointer (some ⟨q, 2, none⟩)) u (fun h => absurd h (by omega)) (hJ.ptr2)
              refine wpOp_of rfl ?_
              have e1' : (b.tmps[9]?).getD undef = .pointer (some ⟨q, 0, none⟩) := by rw [← Array.getD_eq_getD_getElem?]; exact e1
              clear ho hx hJ hK hdep e1
              go_simp
              exact hK1
            · have h27 : β 27 = true := edge_came rfl hdep 27 (by kernel_rfl)
              have h16 : β 16 = true := edge_came rfl hdep 16 (by kernel_rfl)
              have e1 : b.eval (.tmp 77) = .pointer (some ⟨q, 2, none⟩) := (hx 77 (by decide) (by simp [Act.put])).trans (hJ.p28 (edge_came rfl hdep 28 (by kernel_rfl)))
              obtain ⟨Z, zc, hz, _, _⟩ := (hJ.rows.r2.own1 rfl h16).shape_ (n := j + 1) (by rw [List.length_append, List.length_map, HLJ.out, List.length_singleton])
              have hz : X 66 = .slice Z (j + 1) zc := hz
              have e2 : b.eval (.tmp 66) = .slice Z (j + 1) zc := (hx 66 (by decide) (by simp [Act.put])).trans hz
              have hc := hJ.c
              have z1 := cell_of_row u q 2 _ _ _ hc
              have z2 := frozen_block hc 2
              have hK1 := hK undef (u.setCell ⟨q, 2, none⟩ (X 66)) (fun h => absurd h (by omega)) (hJ.put2 hb hq2 h27)
              rw [hz] at hK1
              refine wpOp_of rfl ?_
              have e1' : (b.tmps[77]?).getD undef = .pointer (some ⟨q, 2, none⟩) := by rw [← Array.getD_eq_getD_getElem?]; exact e1
              have e2' : (b.tmps[66]?).getD undef = .slice Z (j + 1) zc := by rw [← Array.getD_eq_getD_getElem?]; exact e2
              clear ho hx hJ hK hdep hz hc e1 e2
              go_simp
              exact hK1
            · have e1 : b.eval (.tmp 9) = .pointer (some ⟨q, 0, none⟩) := by rw [ho 9 (by decide)]; go_simp
              have hK1 := hK (.pointer (some ⟨q, 3, none⟩)) u (fun h => absurd h (by omega)) (hJ.ptr3)
              refine wpOp_of rfl ?_
              have e1' : (b.tmps[9]?).getD undef = .pointer (some ⟨q, 0, none⟩) := by rw [← Array.getD_eq_getD_getElem?]; exact e1
              clear ho hx hJ hK hdep e1
              go_simp
              exact hK1
            · have h29 : β 29 = true := edge_came rfl hdep 29 (by kernel_rfl)
              have h25 : β 25 = true := edge_came rfl hdep 25 (by kernel_rfl)
              have e1 : b.eval (.tmp 78) = .pointer (some ⟨q, 3, none⟩) := (hx 78 (by decide) (by simp [Act.put])).trans (hJ.p30 (edge_came rfl hdep 30 (by kernel_rfl)))
              obtain ⟨Z, zc, hz, _, _⟩ := (hJ.rows.r3.own1 rfl h25).shape_ (n := j + 1) (by rw [List.length_append, List.length_map, HLJ.out, List.length_singleton])
              have hz : X 75 = .slice Z (j + 1) zc := hz
              have e2 : b.eval (.tmp 75) = .slice Z (j + 1) zc := (hx 75 (by decide) (by simp [Act.put])).trans hz
              have hc := hJ.c
              have z1 := cell_of_row u q 3 _ _ _ hc
              have z2 := frozen_block hc 3
              have hK1 := hK undef (u.setCell ⟨q, 3, none⟩ (X 75)) (fun h => absurd h (by omega)) (hJ.put3 hb hq2 h29)
              rw [hz] at hK1
              refine wpOp_of rfl ?_
              have e1' : (b.tmps[78]?).getD undef = .pointer (some ⟨q, 3, none⟩) := by rw [← Array.getD_eq_getD_getElem?]; exact e1
              have e2' : (b.tmps[75]?).getD undef = .slice Z (j + 1) zc := by rw [← Array.getD_eq_getD_getElem?]; exact e2
              clear ho hx hJ hK hdep hz hc e1 e2
              go_simp
              exact hK1
          -- steps end
          · intro β X u hJ hall
            have hr1 := hJ.rows.r1.own1 rfl (hall 7 (by decide))
            have hr2 := hJ.rows.r2.own1 rfl (hall 16 (by decide))
            have hr3 := hJ.rows.r3.own1 rfl (hall 25 (by decide))
            have hT : TkR w2 q ep v.L (j + 1) u := by
              have hc := hJ.c
              rw [hall 27 (by decide), hall 29 (by decide), hall 31 (by decide)] at hc
              refine ⟨X 57, X 66, X 75, hc, ?_, ?_, ?_, ?_, ?_, hJ.k⟩
              · rw [HTS.out, List.map_append]; exact hr1
              · rw [HTS.out, List.map_append]; exact hr2
              · rw [HTS.out, List.map_append]; exact hr3
              · intro k hk
                have b1 : (⟨true, β 6, β 7, X 56, X 57, .slice A1 j c1, (v.L.take j).map Nd.node, x.node⟩ : RowD).blk k := .inl ⟨rfl, by unfold RowD.val; rw [hall 7 (by decide)]; exact hk⟩
                refine ⟨fun e => hJ.rows.d12 k b1 (.inl ⟨rfl, ?_⟩), fun e => hJ.rows.d13 k b1 (.inl ⟨rfl, ?_⟩)⟩
                · unfold RowD.val; rw [hall 16 (by decide)]; exact e
                · unfold RowD.val; rw [hall 25 (by decide)]; exact e
              · intro k hk e
                refine hJ.rows.d23 k (.inl ⟨rfl, ?_⟩) (.inl ⟨rfl, ?_⟩)
                · unfold RowD.val; rw [hall 16 (by decide)]; exact hk
                · unfold RowD.val; rw [hall 25 (by decide)]; exact e
            have HT := Lib.hid hT
            clear hr1 hr2 hr3 hT hJ hall held w1 w3 t1 t2 q1 q2 q3 y0 y1 y2 Z0 Z1 Z2
            refine NoPanic.normal ?_
            generalize X 56 = x56
            generalize X 57 = x57
            generalize X 65 = x65
            generalize X 66 = x66
            generalize X 74 = x74
            generalize X 75 = x75
            generalize X 76 = x76
            generalize X 77 = x77
            generalize X 78 = x78
            simp only [putsL, List.getElem?_toArray, List.getElem?_cons_succ, List.getElem?_cons_zero, Option.getD_some, Act.put, List.setIfInBounds_toArray, List.set_cons_succ, List.set_cons_zero]
            go_wp2_with fail
            go_roundw
            case rel => exact ⟨j + 1, hlt, by have := HIj.out; go_num, HT.out⟩
            case measure => have := HIj.out; simp [intOf]; omega
        · have hjn : j = n := by omega
          subst hjn
          have hIk : k ≤ I := by have := HLEN.out; have := HIj.out; omega
          have d0 : decide ((I : Int) < (k : Int)) = false := decide_eq_false (by omega)
          have d0' : decide (I < k) = false := decide_eq_false (by omega)
          have hta : v.L.take j = v.L := List.take_of_length_le (by rw [HN.out]; exact Nat.le_refl _)
          rw [hta] at ha hb hc
          obtain ⟨A1, c1, rfl, a1, _⟩ := ha.shape_ (n := j) (by rw [List.length_map]; exact HN.out)
          obtain ⟨A2, c2, rfl, a2, _⟩ := hb.shape_ (n := j) (by rw [List.length_map]; exact HN.out)
          obtain ⟨A3, c3, rfl, a3, _⟩ := hc.shape_ (n := j) (by rw [List.length_map]; exact HN.out)
          have hV : VwSl wr (fun k => w2.heap.size ≤ k) v.L (.slice A1 j c1) (.slice A2 j c2) (.slice A3 j c3) :=
            ⟨(ha.sl (fun _ => rfl)).mono fun k _ hk => (Own.lt ha k hk).1, (hb.sl (fun _ => rfl)).mono fun k _ hk => (Own.lt hb k hk).1, (hc.sl (fun _ => rfl)).mono fun k _ hk => (Own.lt hc k hk).1⟩
          have q0 : wr.cell? ⟨q, 0, none⟩ = some (.int .i64 ep) := cell_of_row wr q 0 _ _ _ hQ
          have q1 : wr.cell? ⟨q, 1, none⟩ = some (.slice A1 j c1) := cell_of_row wr q 1 _ _ _ hQ
          have q2 : wr.cell? ⟨q, 2, none⟩ = some (.slice A2 j c2) := cell_of_row wr q 2 _ _ _ hQ
          have q3 : wr.cell? ⟨q, 3, none⟩ = some (.slice A3 j c3) := cell_of_row wr q 3 _ _ _ hQ
          have hemp : ((⟨#[]⟩ : ByteArray).toList != (⟨#[]⟩ : ByteArray).toList) = false := by simp
          have hrc := right_any wr _ ep v.L _ _ _ hV
          rw [show (⟨ep, v.L⟩ : Vw) = v by rw [← HEP.out], rightV_iff.2 HR.out] at hrc
          have hw2s := HB2.out.size
          have hRr := (hK.block r (by omega) (fun e => by have e2 : r = q := e; omega)).trans ((HB2.out.block r hrw).trans HBK.out)
          have HRC := Lib.hid hrc
          have HV := Lib.hid hV
          have HRr := Lib.hid hRr
          have HQ := Lib.hid hQ
          have HBw := Lib.hid (Below.keep HB2.out hK (by omega) (fun k e => by have e2 : k = q := e; omega))
          clear ha hb hc hd1 hd2 hK hQ hrc hV hta hRr
          go_wp2_with fail
          refine HRC.out.mono ?_
          rintro e w5 ⟨rfl, hB5⟩
          have hRr := (hB5.block r (Array.getElem?_eq_some_iff.1 HRr.out).1).trans HRr.out
          have hQQ := (hB5.block q (Array.getElem?_eq_some_iff.1 HQ.out).1).trans HQ.out
          have HV5 := Lib.hid (HV.out.fresh hB5)
          have HB5 := Lib.hid (HBw.out.trans (hB5.mono HBw.out.size))
          have q0 : w5.cell? ⟨q, 0, none⟩ = some (.int .i64 ep) := cell_of_row w5 q 0 _ _ _ hQQ
          have q1 : w5.cell? ⟨q, 1, none⟩ = some (.slice A1 j c1) := cell_of_row w5 q 1 _ _ _ hQQ
          have q2 : w5.cell? ⟨q, 2, none⟩ = some (.slice A2 j c2) := cell_of_row w5 q 2 _ _ _ hQQ
          have q3 : w5.cell? ⟨q, 3, none⟩ = some (.slice A3 j c3) := cell_of_row w5 q 3 _ _ _ hQQ
          have r0 : w5.cell? ⟨r, 0, none⟩ = some (.int .i64 0) := cell_of_row w5 r 0 _ _ _ hRr
          have r1 : w5.cell? ⟨r, 1, none⟩ = some (.slice none 0 0) := cell_of_row w5 r 1 _ _ _ hRr
          have r2 : w5.cell? ⟨r, 2, none⟩ = some (.slice none 0 0) := cell_of_row w5 r 2 _ _ _ hRr
          have r3 : w5.cell? ⟨r, 3, none⟩ = some (.slice none 0 0) := cell_of_row w5 r 3 _ _ _ hRr
          have g0 := frozen_block hRr 0
          have g1 := frozen_block hRr 1
          have g2 := frozen_block hRr 2
          have g3 := frozen_block hRr 3
          have HR5 := Lib.hid hRr
          clear hB5 hQQ hRr
          go_wp2_with fail
          have hb4 := four_block HR5.out (.int .i64 ep) (.slice A1 j c1) (.slice A2 j c2) (.slice A3 j c3)
          have hk4 := four_keeps w5 r (.int .i64 ep) (.slice A1 j c1) (.slice A2 j c2) (.slice A3 j c3)
          have hrq2 := HRQ.out
          have hBe := Below.keep (HB0.out.trans (HB5.out.mono HB0.out.size)) hk4 (Nat.le_trans HB0.out.size HB5.out.size) (fun k e => by have e2 : k = r := e; omega)
          have hVe := (HV5.out.keep hk4 (fun k _ hk e => by have e2 : k = r := e; have hk2 : w2.heap.size ≤ k := hk; omega)).mono (F' := fun k => w.heap.size ≤ k) (fun k _ hk => by have hk2 : w2.heap.size ≤ k := hk; have := HB0.out.size; show w.heap.size ≤ k; omega)
          generalize ((((w5.setCell ⟨r, 0, none⟩ (.int .i64 ep)).setCell ⟨r, 1, none⟩ (.slice A1 j c1)).setCell ⟨r, 2, none⟩ (.slice A2 j c2)).setCell ⟨r, 3, none⟩ (.slice A3 j c3)) = w6 at hb4 hBe hVe ⊢
          have z0 := cell_of_row w6 r 0 _ _ _ hb4
          have z1 := cell_of_row w6 r 1 _ _ _ hb4
          have z2 := cell_of_row w6 r 2 _ _ _ hb4
          have z3 := cell_of_row w6 r 3 _ _ _ hb4
          refine bodyPost_ret (v := .tuple #[.agg #[.int .i64 ep, .slice A1 j c1, .slice A2 j c2, .slice A3 j c3], .int .i64 0]) (by simp [results, Tryz.results52, go_sem, z0, z1, z2, z3]) rfl ⟨_, _, _, by rw [HEP.out], hVe, hBe⟩
end Go.Proofs.YtoegdpcfhmjnaaaGreatDoor
