/- The disk: List: the files' names, in rising order of their bytes. -/
import Derived.Test.YtoegdpcfhmjnaaaGreatDoorDskA
import Derived.Test.YtoegdpcfhmjnaaaGreatDoorLay
import Derived.Test.YtoegdpcfhmjnaaaGreatDoorBlD
namespace Go.Proofs.YtoegdpcfhmjnaaaGreatDoor
open Go.RowKit Go.Bl Go.Maps Go.Sort Go.Shelf

/-- slices.Sort's two contracts at this dump, at the fence that asks nothing. -/
theorem sorts (m : Nat) : AnyZ.SortsIn Tryz.prog Tryz.sorted63_ren Fence.wide m :=
  ⟨fun blk off cap ss W hH hblk hsz => callsIn_wide.2 (AnyM.slices_Sort_string Tryz.sort81 blk off cap ss W hH hblk hsz),
   fun p cap W => callsIn_wide.2 (AnyM.slices_Sort_string_none Tryz.sort81 p cap W)⟩

theorem keys_call (mb : Option Nat) (W : World) : Calls Tryz.prog 64 #[.map mb] W fun e w' => e = .returned (.func (.func 82) #[] #[.pointer (some ⟨W.heap.size, 0, none⟩)]) ∧ w' = W.alloc (.cells #[.map mb] 104) :=
  callsIn_wide.1 (AnyZ.keys_in Tryz.keys64 Fence.wide 5 trivial rfl mb W)

set_option maxHeartbeats 1000000 in
theorem sorted_call {H : Type} (b nn : Nat) (D0 : DataW H) (R : Value → Option (DataW H × List MemPlace)) (w : World) (hown : w.ownsMap Tryz.prog 9 R b nn D0) (hmax : Maps.size D0 ≤ maxLen) (hbytes : Maps.size D0 * 16 ≤ 140737488355328) :
    Calls Tryz.prog 63 #[.func (.func 82) #[] #[.pointer (some ⟨w.heap.size, 0, none⟩)]] (w.alloc (.cells #[.map (some b)] 104)) fun e w' => ∃ (v : Value) (ss : List (List UInt8)), e = .returned v ∧ ss.Perm (strKeys D0) ∧
      w'.ownsRow (w.alloc (.cells #[.map (some b)] 104)).heap.size 9 1 v ss.length ((ss.mergeSort (fun x y => decide (x ≤ y))).map encStr) ∧ (v = .slice none 0 0 ↔ ss = []) ∧ Below (w.alloc (.cells #[.map (some b)] 104)).heap.size (w.alloc (.cells #[.map (some b)] 104)) w' := by
  have hbl := hown.lt
  have hseq : SeqGives Fence.wide 2 Tryz.prog 82 #[.pointer (some ⟨w.heap.size, 0, none⟩)] encStr (fun ss => ss.Perm (strKeys D0)) (Maps.size D0) (w.alloc (.cells #[.map (some b)] 104)) :=
    AnyZ.keys_gives (ρ := Tryz.keys64_ren) { Tryz.keys64 with } Fence.wide _ trivial rfl (by omega) w.heap.size b nn D0 _ (by simp) (by simp) (by
      obtain ⟨es, clock, hb, Ft, hs, hD⟩ := hown
      exact ⟨es, clock, (Below.heap_alloc _ _ b hbl).trans hb, Ft, hs, hD⟩)
  exact callsIn_wide.1 (AnyZ.sorted_in Tryz.sorted63 Fence.wide 5 trivial trivial trivial trivial rfl (by omega) (sorts _) (enters_of Tryz.func81 (by kernel_rfl) rfl) 82 #[.pointer (some ⟨w.heap.size, 0, none⟩)] trivial (enters_of Tryz.func82 (by kernel_rfl) rfl) _ _ hmax hbytes _ hseq)

theorem bLt_irr (a : ByteArray) : ¬ bLt a a := by rw [bLt_iff]; exact List.lt_irrefl _
/-- The files' names, in rising order. -/
def Names (L : List Fl) (ks : List ByteArray) : Prop := Rising ks ∧ ∀ s, s ∈ ks ↔ ∃ f ∈ L, f.name = s
theorem Names.len {L : List Fl} {ks : List ByteArray} (h : Names L ks) (hn : (L.map Fl.name).Nodup) : ks.length = L.length := by
  have h1 : ks.Perm (L.map Fl.name) := (List.perm_ext_iff_of_nodup (show ks.Nodup from List.Pairwise.imp (fun {a b} (hlt : bLt a b) (e : a = b) => bLt_irr a (by rw [← e] at hlt; exact hlt)) h.1) hn).2 fun s => by
    rw [h.2, List.mem_map]
  rw [h1.length_eq, List.length_map]

set_option maxHeartbeats 1000000 in
theorem list_in (w : World) (p : Nat) (room u : Int) (L : List Fl) (F : Nat → Prop) (bm : Nat) (R : List (Nat × Fl)) (h : DskR w p room u L F bm R) (hle : L.length ≤ 40) :
    Calls Tryz.prog 45 #[.pointer (some ⟨p, 0, none⟩)] w fun e w' => ∃ v ks, e = .returned v ∧ Names L ks ∧ Below w.heap.size w w' ∧ Sl w' (fun b => w.heap.size ≤ b) 1 strc v ks := by
  have c2 := h.c2
  have hlen := h.len
  obtain ⟨_, D, hown, hsz, hat, hhas⟩ := h.map
  rw [rowsD_len] at hsz
  have HO := Lib.hid hown
  have HH := Lib.hid hhas
  have H := Lib.hid h
  clear hat hown hhas h
  go_enter Tryz.func45, Tryz.ntmps45
  go_wp2_with fail
  refine (keys_call _ _).mono ?_
  rintro e w1 ⟨rfl, rfl⟩
  go_wp2_with fail
  refine (sorted_call bm _ D Rv w HO.out (by rw [hsz]; unfold maxLen; omega) (by rw [hsz]; omega)).mono ?_
  rintro e w2 ⟨v, ss, rfl, hP, hrow, -, hB⟩
  have HP := Lib.hid hP
  have HR := Lib.hid hrow
  have HB := Lib.hid hB
  clear hP hrow hB
  go_wp2_with fail
  go_ret
  obtain ⟨k1, k2⟩ := keys_sorted lawS Tryz.underlying9 HO.out HP.out
  refine ⟨v, _, rfl, ⟨k1, fun s => ?_⟩, ((Below.refl _ w).alloc (Nat.le_refl _) _).trans (HB.out.mono (by simp)), ?_⟩
  · have hh := HH.out s
    rw [show strLit s = .string s.data.toList from rfl] at hh
    rw [k2, hh]
    constructor
    · intro hg
      obtain ⟨u, hu⟩ := Option.isSome_iff_exists.1 hg
      obtain ⟨r, hr, e⟩ := List.mem_map.1 (getL_mem hu)
      exact ⟨r.2, H.out.mem hr, by injection e⟩
    · rintro ⟨f, hf, rfl⟩
      obtain ⟨b, hb⟩ := H.out.row hf
      rw [getL_of_mem H.out.map.1 (show (f.name, ptr b) ∈ rowsD R from List.mem_map.2 ⟨(b, f), hb, rfl⟩)]
      rfl
  · have := HR.out
    have hlen : ss.length = ((ss.mergeSort leB).map bsOf).length := by simp
    rw [hlen, show (ss.mergeSort (fun x y => decide (x ≤ y))).map encStr = ((ss.mergeSort leB).map bsOf).flatMap strc by rw [List.flatMap_map]; simp [strc, bsOf, ← List.map_eq_flatMap]] at this
    have hs := Sl.of_own (enc := strc) (fun _ => rfl) this
    exact hs.mono fun q hq hv => by have := (this.lt q hv).1; simp at this; omega
theorem list_any (w : World) (p : Nat) (d : Dk) (F : Nat → Prop) (h : DskAt w p d F) :
    Calls Tryz.prog 45 #[.pointer (some ⟨p, 0, none⟩)] w fun e w' => ∃ v ks, e = .returned v ∧ Names d.L ks ∧ Below w.heap.size w w' ∧ Sl w' (fun b => w.heap.size ≤ b) 1 strc v ks := by
  obtain ⟨bm, R, h⟩ := h
  exact list_in w p _ _ _ F bm R h.toDskR h.ok.len
end Go.Proofs.YtoegdpcfhmjnaaaGreatDoor
