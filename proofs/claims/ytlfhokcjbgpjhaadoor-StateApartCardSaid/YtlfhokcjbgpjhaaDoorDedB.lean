/- Dedup: a table's keys in rising order; Sessions, Seqs. -/
import Derived.Test.YtlfhokcjbgpjhaaDoorDedA
import Derived.Test.YtlfhokcjbgpjhaaDoorLay
import Derived.Test.YtlfhokcjbgpjhaaDoorBlI
namespace Go.Proofs.YtlfhokcjbgpjhaaDoor.Ded
open Go.RowKit Go.Bl Go.Maps Go.Sort Go.Shelf

theorem sortsI (m : Nat) : AnyZI.SortsIn Tryd.prog Tryd.sorted35_ren Fence.wide m :=
  ⟨fun blk off cap ss W hH hblk hsz => callsIn_wide.2 (AnyM.slices_Sort_int Tryd.sort47 blk off cap ss W hH hblk hsz),
   fun p cap W => callsIn_wide.2 (AnyM.slices_Sort_int_none Tryd.sort47 p cap W)⟩

theorem known_iff {L : List En} (h : OkL L) {x y : Int} : (lookL L x y).2 = 1 ↔ highL L x - 8 < y ∧ ∃ o, findL L x y = some o := by
  constructor
  · intro hk
    by_cases ho : y < 1 ∨ y ≤ highL L x - 8
    · rw [lookL_old ho] at hk; simp at hk
    · cases hf : findL L x y with
      | none => rw [lookL_fresh ho hf] at hk; simp at hk
      | some o => exact ⟨by omega, o, rfl⟩
  · rintro ⟨h1, o, h2⟩
    obtain ⟨e, he, _⟩ := Option.map_eq_some_iff.1 h2
    have hm := List.mem_of_find?_eq_some he
    have hp := List.find?_some he
    simp only [Bool.and_eq_true, decide_eq_true_eq] at hp
    have := h.seq e hm
    rw [lookL_known (by omega) h2]

theorem keysO_call (mb : Option Nat) (W : World) : Calls Tryd.prog 36 #[.map mb] W fun e w' => e = .returned (.func (.func 48) #[] #[.pointer (some ⟨W.heap.size, 0, none⟩)]) ∧ w' = W.alloc (.cells #[.map mb] 74) :=
  callsIn_wide.1 (AnyZI.keys_in Tryd.keys36 Fence.wide 5 trivial rfl mb W)
set_option maxHeartbeats 1000000 in
theorem sortedO_call {H : Type} (b nn : Nat) (D0 : DataW H) (R : Value → Option (DataW H × List MemPlace)) (w : World) (hown : w.ownsMap Tryd.prog 3 R b nn D0) (hmax : Maps.size D0 ≤ maxLen) (hbytes : Maps.size D0 * 8 ≤ 140737488355328) :
    Calls Tryd.prog 35 #[.func (.func 48) #[] #[.pointer (some ⟨w.heap.size, 0, none⟩)]] (w.alloc (.cells #[.map (some b)] 74)) fun e w' => ∃ (v : Value) (ss : List Int), e = .returned v ∧ ss.Perm (intKeys D0) ∧
      w'.ownsRow (w.alloc (.cells #[.map (some b)] 74)).heap.size 3 1 v ss.length ((ss.mergeSort (fun x y => decide (x ≤ y))).map encZ) ∧ (v = .slice none 0 0 ↔ ss = []) ∧ Below (w.alloc (.cells #[.map (some b)] 74)).heap.size (w.alloc (.cells #[.map (some b)] 74)) w' := by
  have hbl := hown.lt
  have hseq : SeqGives Fence.wide 2 Tryd.prog 48 #[.pointer (some ⟨w.heap.size, 0, none⟩)] encZ (fun ss => ss.Perm (intKeys D0)) (Maps.size D0) (w.alloc (.cells #[.map (some b)] 74)) :=
    AnyZI.keys_gives (ρ := Tryd.keys36_ren) { Tryd.keys36 with } Fence.wide _ trivial rfl (by omega) w.heap.size b nn D0 _ (by simp) (by simp) (by
      obtain ⟨es, clock, hb, Ft, hs, hD⟩ := hown
      exact ⟨es, clock, (Below.heap_alloc _ _ b hbl).trans hb, Ft, hs, hD⟩)
  exact callsIn_wide.1 (AnyZI.sorted_in Tryd.sorted35 Fence.wide 5 trivial trivial trivial trivial rfl (by omega) (sortsI _) (enters_of Tryd.func47 (by kernel_rfl) rfl) 48 #[.pointer (some ⟨w.heap.size, 0, none⟩)] trivial (enters_of Tryd.func48 (by kernel_rfl) rfl) _ _ hmax hbytes _ hseq)
/-- 'slices.Sorted(maps.Keys(m))': the keys in rising order. -/
theorem sortedO_rows (b : Nat) (A : List (Int × Value)) (w : World) (hm : MapL w Tryd.prog 3 intLit b A) (hlen : A.length ≤ 1073741824) :
    Calls Tryd.prog 35 #[.func (.func 48) #[] #[.pointer (some ⟨w.heap.size, 0, none⟩)]] (w.alloc (.cells #[.map (some b)] 74)) fun e w' => ∃ v ks, e = .returned v ∧ ks.Pairwise (· < ·) ∧ (∀ x, x ∈ ks ↔ ∃ r ∈ A, r.1 = x) ∧ ks.length = A.length ∧
      Sl w' (fun q => w.heap.size ≤ q) 1 intc v ks ∧ Below w.heap.size w w' := by
  obtain ⟨hnd, D, hown, hsz, hat, hhas⟩ := hm
  refine (sortedO_call b A.length D Rv w hown (by rw [hsz]; unfold maxLen; omega) (by rw [hsz]; omega)).mono ?_
  rintro e w' ⟨v, ss, rfl, hP, hrow, -, hB⟩
  obtain ⟨hr, hmem⟩ := sorted_keysI_rise lawI Tryd.underlying3 hown hP
  have hks : ∀ x, x ∈ ss.mergeSort (fun x y => decide (x ≤ y)) ↔ ∃ r ∈ A, r.1 = x := fun x => by
    rw [hmem, show Lit.int .i64 x = intLit x from rfl, hhas]
    constructor
    · intro h
      obtain ⟨v, hv⟩ := Option.isSome_iff_exists.1 h
      exact ⟨_, getL_mem hv, rfl⟩
    · rintro ⟨r, hr, e⟩
      cases hg : getL A x with
      | none => exact absurd e (getL_none.1 hg r hr)
      | some v => rfl
  have hl : ss.length = (ss.mergeSort (fun x y => decide (x ≤ y))).length := by rw [List.length_mergeSort]
  rw [hl, map_intc] at hrow
  refine ⟨v, _, rfl, hr, hks, ?_, (Sl.of_own (enc := intc) (fun _ => rfl) hrow).mono fun q hq hv => ?_, ((Below.refl _ w).alloc (Nat.le_refl _) _).trans (hB.mono (by simp))⟩
  · have h2 : (ss.mergeSort (fun x y => decide (x ≤ y))).Perm (A.map Prod.fst) := (List.perm_ext_iff_of_nodup (hr.imp fun {a b} h e => by omega) hnd).2 fun x => by rw [hks, List.mem_map]
    rw [h2.length_eq, List.length_map]
  · have := (hrow.lt q hv).1
    simp at this
    omega

end Go.Proofs.YtlfhokcjbgpjhaaDoor.Ded
