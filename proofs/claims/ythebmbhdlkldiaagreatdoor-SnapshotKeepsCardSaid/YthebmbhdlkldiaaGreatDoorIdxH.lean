/- The index: Names: the streams that have events, in rising order of their bytes. -/
import Derived.Test.YthebmbhdlkldiaaGreatDoorIdxC
import Derived.Test.YthebmbhdlkldiaaGreatDoorLay
import Derived.Test.YthebmbhdlkldiaaGreatDoorBlD
namespace Go.Proofs.YthebmbhdlkldiaaGreatDoor.Idx
open Go.RowKit Go.Bl Go.Maps Go.Sort Go.Shelf

/-- slices.Sort's two contracts at this dump, at the fence that asks nothing. -/
theorem sorts (m : Nat) : AnyZ.SortsIn Tryz.prog Tryz.sorted105_ren Fence.wide m :=
  ⟨fun blk off cap ss W hH hblk hsz => callsIn_wide.2 (AnyM.slices_Sort_string Tryz.sort121 blk off cap ss W hH hblk hsz),
   fun p cap W => callsIn_wide.2 (AnyM.slices_Sort_string_none Tryz.sort121 p cap W)⟩

theorem keys_call (mb : Option Nat) (W : World) : Calls Tryz.prog 106 #[.map mb] W fun e w' => e = .returned (.func (.func 122) #[] #[.pointer (some ⟨W.heap.size, 0, none⟩)]) ∧ w' = W.alloc (.cells #[.map mb] 175) :=
  callsIn_wide.1 (AnyZ.keys_in Tryz.keys106 Fence.wide 5 trivial rfl mb W)

set_option maxHeartbeats 1000000 in
theorem sorted_call {H : Type} (b nn : Nat) (D0 : DataW H) (R : Value → Option (DataW H × List MemPlace)) (w : World) (hown : w.ownsMap Tryz.prog 9 R b nn D0) (hmax : Maps.size D0 ≤ maxLen) (hbytes : Maps.size D0 * 16 ≤ 140737488355328) :
    Calls Tryz.prog 105 #[.func (.func 122) #[] #[.pointer (some ⟨w.heap.size, 0, none⟩)]] (w.alloc (.cells #[.map (some b)] 175)) fun e w' => ∃ (v : Value) (ss : List (List UInt8)), e = .returned v ∧ ss.Perm (strKeys D0) ∧
      w'.ownsRow (w.alloc (.cells #[.map (some b)] 175)).heap.size 9 1 v ss.length ((ss.mergeSort (fun x y => decide (x ≤ y))).map encStr) ∧ (v = .slice none 0 0 ↔ ss = []) ∧ Below (w.alloc (.cells #[.map (some b)] 175)).heap.size (w.alloc (.cells #[.map (some b)] 175)) w' := by
  have hbl := hown.lt
  have hseq : SeqGives Fence.wide 2 Tryz.prog 122 #[.pointer (some ⟨w.heap.size, 0, none⟩)] encStr (fun ss => ss.Perm (strKeys D0)) (Maps.size D0) (w.alloc (.cells #[.map (some b)] 175)) :=
    AnyZ.keys_gives (ρ := Tryz.keys106_ren) { Tryz.keys106 with } Fence.wide _ trivial rfl (by omega) w.heap.size b nn D0 _ (by simp) (by simp) (by
      obtain ⟨es, clock, hb, Ft, hs, hD⟩ := hown
      exact ⟨es, clock, (Below.heap_alloc _ _ b hbl).trans hb, Ft, hs, hD⟩)
  exact callsIn_wide.1 (AnyZ.sorted_in Tryz.sorted105 Fence.wide 5 trivial trivial trivial trivial rfl (by omega) (sorts _) (enters_of Tryz.func121 (by kernel_rfl) rfl) 122 #[.pointer (some ⟨w.heap.size, 0, none⟩)] trivial (enters_of Tryz.func122 (by kernel_rfl) rfl) _ _ hmax hbytes _ hseq)

/-- The streams of a row of all events, in rising order. -/
def Streams (L : List One) (ks : List ByteArray) : Prop := Rising ks ∧ ∀ s, s ∈ ks ↔ ofS L s ≠ []

set_option maxHeartbeats 1000000 in
theorem names_any (w : World) (p : Nat) (L : List One) (F : Nat → Prop) (h : IdxAt w p L F) (hb : L.length ≤ 1073741824) :
    Calls Tryz.prog 60 #[.pointer (some ⟨p, 0, none⟩)] w fun e w' => ∃ v ks, e = .returned v ∧ Streams L ks ∧ Below w.heap.size w w' ∧ Sl w' (fun b => w.heap.size ≤ b) 1 strc v ks := by
  obtain ⟨bm, V, n, h⟩ := h
  have c0 := h.c0
  have hle := h.le
  obtain ⟨D, hown, hsz, hat, hhas⟩ := h.map
  have HO := Lib.hid hown
  have HH := Lib.hid hhas
  clear hat hown hhas h
  go_enter Tryz.func60, Tryz.ntmps60
  go_wp2_with fail
  refine (keys_call _ _).mono ?_
  rintro e w1 ⟨rfl, rfl⟩
  go_wp2_with fail
  refine (sorted_call bm n D Rv w HO.out (by rw [hsz]; unfold maxLen; omega) (by rw [hsz]; omega)).mono ?_
  rintro e w2 ⟨v, ss, rfl, hP, hrow, -, hB⟩
  have HP := Lib.hid hP
  have HR := Lib.hid hrow
  have HB := Lib.hid hB
  clear hP hrow hB
  go_wp2_with fail
  go_ret
  obtain ⟨k1, k2⟩ := keys_sorted law Tryz.underlying9 HO.out HP.out
  refine ⟨v, _, rfl, ⟨k1, fun s => ?_⟩, ((Below.refl _ w).alloc (Nat.le_refl _) _).trans (HB.out.mono (by simp)), ?_⟩
  · have hh := HH.out s
    rw [show strLit s = .string s.data.toList from rfl] at hh
    rw [k2, hh]
    by_cases hs : ofS L s = [] <;> simp [hs]
  · have := HR.out
    have hlen : ss.length = ((ss.mergeSort leB).map bsOf).length := by simp
    rw [hlen, show (ss.mergeSort (fun x y => decide (x ≤ y))).map encStr = ((ss.mergeSort leB).map bsOf).flatMap strc by rw [List.flatMap_map]; simp [strc, bsOf, ← List.map_eq_flatMap]] at this
    have hs := Sl.of_own (enc := strc) (fun _ => rfl) this
    exact hs.mono fun q hq hv => by have := (this.lt q hv).1; simp at this; omega
end Go.Proofs.YthebmbhdlkldiaaGreatDoor.Idx
