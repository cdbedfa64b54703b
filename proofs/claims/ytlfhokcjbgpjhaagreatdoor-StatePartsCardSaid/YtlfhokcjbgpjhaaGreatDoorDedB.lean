/- Dedup: a table's keys in rising order; Sessions, Seqs. -/
import Derived.Test.YtlfhokcjbgpjhaaGreatDoorDedA
import Derived.Test.YtlfhokcjbgpjhaaGreatDoorLay
import Derived.Test.YtlfhokcjbgpjhaaGreatDoorBlI
namespace Go.Proofs.YtlfhokcjbgpjhaaGreatDoor.Ded
open Go.RowKit Go.Bl Go.Maps Go.Sort Go.Shelf

theorem sortsI (m : Nat) : AnyZI.SortsIn Tryz.prog Tryz.sorted72_ren Fence.wide m :=
  ⟨fun blk off cap ss W hH hblk hsz => callsIn_wide.2 (AnyM.slices_Sort_int Tryz.sort90 blk off cap ss W hH hblk hsz),
   fun p cap W => callsIn_wide.2 (AnyM.slices_Sort_int_none Tryz.sort90 p cap W)⟩

theorem known_iff {L : List En} (h : OkL L) {x y : Int} : (lookL L x y).2 = 1 ↔ highL L x - 8 < y ∧ ∃ o, findL L x y = some o := by
  constructor
  · intro hk
    by_cases ho : y < 1 ∨ y ≤ highL L x - 8
    · rw [lookL_old ho] at hk; simp at hk
    · cases hf : findL L x y with
      | none => rw [lookL_fresh ho hf] at hk; simp at hk
      | some o => exact ⟨by omega, o, rfl⟩
  · rintro ⟨h1, o, h2⟩
    obtain ⟨e, he, _⟩ := Option.map_eq_some_iff.1 h2
    have hm := List.mem_of_find?_eq_some he
    have hp := List.find?_some he
    simp only [Bool.and_eq_true, decide_eq_true_eq] at hp
    have := h.seq e hm
    rw [lookL_known (by omega) h2]

theorem keysS_call (mb : Option Nat) (W : World) : Calls Tryz.prog 85 #[.map mb] W fun e w' => e = .returned (.func (.func 99) #[] #[.pointer (some ⟨W.heap.size, 0, none⟩)]) ∧ w' = W.alloc (.cells #[.map mb] 116) :=
  callsIn_wide.1 (AnyZI.keys_in Tryz.keys85 Fence.wide 5 trivial rfl mb W)
set_option maxHeartbeats 1000000 in
theorem sortedS_call {H : Type} (b nn : Nat) (D0 : DataW H) (R : Value → Option (DataW H × List MemPlace)) (w : World) (hown : w.ownsMap Tryz.prog 3 R b nn D0) (hmax : Maps.size D0 ≤ maxLen) (hbytes : Maps.size D0 * 8 ≤ 140737488355328) :
    Calls Tryz.prog 72 #[.func (.func 99) #[] #[.pointer (some ⟨w.heap.size, 0, none⟩)]] (w.alloc (.cells #[.map (some b)] 116)) fun e w' => ∃ (v : Value) (ss : List Int), e = .returned v ∧ ss.Perm (intKeys D0) ∧
      w'.ownsRow (w.alloc (.cells #[.map (some b)] 116)).heap.size 3 1 v ss.length ((ss.mergeSort (fun x y => decide (x ≤ y))).map encZ) ∧ (v = .slice none 0 0 ↔ ss = []) ∧ Below (w.alloc (.cells #[.map (some b)] 116)).heap.size (w.alloc (.cells #[.map (some b)] 116)) w' := by
  have hbl := hown.lt
  have hseq : SeqGives Fence.wide 2 Tryz.prog 99 #[.pointer (some ⟨w.heap.size, 0, none⟩)] encZ (fun ss => ss.Perm (intKeys D0)) (Maps.size D0) (w.alloc (.cells #[.map (some b)] 116)) :=
    AnyZI.keys_gives (ρ := Tryz.keys85_ren) { Tryz.keys85 with } Fence.wide _ trivial rfl (by omega) w.heap.size b nn D0 _ (by simp) (by simp) (by
      obtain ⟨es, clock, hb, Ft, hs, hD⟩ := hown
      exact ⟨es, clock, (Below.heap_alloc _ _ b hbl).trans hb, Ft, hs, hD⟩)
  exact callsIn_wide.1 (AnyZI.sorted_in Tryz.sorted72 Fence.wide 5 trivial trivial trivial trivial rfl (by omega) (sortsI _) (enters_of Tryz.func90 (by kernel_rfl) rfl) 99 #[.pointer (some ⟨w.heap.size, 0, none⟩)] trivial (enters_of Tryz.func99 (by kernel_rfl) rfl) _ _ hmax hbytes _ hseq)
/-- 'slices.Sorted(maps.Keys(m))': the keys in rising order. -/
theorem sortedS_rows (b : Nat) (A : List (Int × Value)) (w : World) (hm : MapL w Tryz.prog 3 intLit b A) (hlen : A.length ≤ 1073741824) :
    Calls Tryz.prog 72 #[.func (.func 99) #[] #[.pointer (some ⟨w.heap.size, 0, none⟩)]] (w.alloc (.cells #[.map (some b)] 116)) fun e w' => ∃ v ks, e = .returned v ∧ ks.Pairwise (· < ·) ∧ (∀ x, x ∈ ks ↔ ∃ r ∈ A, r.1 = x) ∧ ks.length = A.length ∧
      Sl w' (fun q => w.heap.size ≤ q) 1 intc v ks ∧ Below w.heap.size w w' := by
  obtain ⟨hnd, D, hown, hsz, hat, hhas⟩ := hm
  refine (sortedS_call b A.length D Rv w hown (by rw [hsz]; unfold maxLen; omega) (by rw [hsz]; omega)).mono ?_
  rintro e w' ⟨v, ss, rfl, hP, hrow, -, hB⟩
  obtain ⟨hr, hmem⟩ := sorted_keysI_rise lawI Tryz.underlying3 hown hP
  have hks : ∀ x, x ∈ ss.mergeSort (fun x y => decide (x ≤ y)) ↔ ∃ r ∈ A, r.1 = x := fun x => by
    rw [hmem, show Lit.int .i64 x = intLit x from rfl, hhas]
    constructor
    · intro h
      obtain ⟨v, hv⟩ := Option.isSome_iff_exists.1 h
      exact ⟨_, getL_mem hv, rfl⟩
    · rintro ⟨r, hr, e⟩
      cases hg : getL A x with
      | none => exact absurd e (getL_none.1 hg r hr)
      | some v => rfl
  have hl : ss.length = (ss.mergeSort (fun x y => decide (x ≤ y))).length := by rw [List.length_mergeSort]
  rw [hl, map_intc] at hrow
  refine ⟨v, _, rfl, hr, hks, ?_, (Sl.of_own (enc := intc) (fun _ => rfl) hrow).mono fun q hq hv => ?_, ((Below.refl _ w).alloc (Nat.le_refl _) _).trans (hB.mono (by simp))⟩
  · have h2 : (ss.mergeSort (fun x y => decide (x ≤ y))).Perm (A.map Prod.fst) := (List.perm_ext_iff_of_nodup (hr.imp fun {a b} h e => by omega) hnd).2 fun x => by rw [hks, List.mem_map]
    rw [h2.length_eq, List.length_map]
  · have := (hrow.lt q hv).1
    simp at this
    omega

theorem keysO_call (mb : Option Nat) (W : World) : Calls Tryz.prog 73 #[.map mb] W fun e w' => e = .returned (.func (.func 91) #[] #[.pointer (some ⟨W.heap.size, 0, none⟩)]) ∧ w' = W.alloc (.cells #[.map mb] 119) :=
  callsIn_wide.1 (AnyZI.keys_in Tryz.keys73 Fence.wide 5 trivial rfl mb W)
set_option maxHeartbeats 1000000 in
theorem sortedO_call {H : Type} (b nn : Nat) (D0 : DataW H) (R : Value → Option (DataW H × List MemPlace)) (w : World) (hown : w.ownsMap Tryz.prog 3 R b nn D0) (hmax : Maps.size D0 ≤ maxLen) (hbytes : Maps.size D0 * 8 ≤ 140737488355328) :
    Calls Tryz.prog 72 #[.func (.func 91) #[] #[.pointer (some ⟨w.heap.size, 0, none⟩)]] (w.alloc (.cells #[.map (some b)] 119)) fun e w' => ∃ (v : Value) (ss : List Int), e = .returned v ∧ ss.Perm (intKeys D0) ∧
      w'.ownsRow (w.alloc (.cells #[.map (some b)] 119)).heap.size 3 1 v ss.length ((ss.mergeSort (fun x y => decide (x ≤ y))).map encZ) ∧ (v = .slice none 0 0 ↔ ss = []) ∧ Below (w.alloc (.cells #[.map (some b)] 119)).heap.size (w.alloc (.cells #[.map (some b)] 119)) w' := by
  have hbl := hown.lt
  have hseq : SeqGives Fence.wide 2 Tryz.prog 91 #[.pointer (some ⟨w.heap.size, 0, none⟩)] encZ (fun ss => ss.Perm (intKeys D0)) (Maps.size D0) (w.alloc (.cells #[.map (some b)] 119)) :=
    AnyZI.keys_gives (ρ := Tryz.keys73_ren) { Tryz.keys73 with } Fence.wide _ trivial rfl (by omega) w.heap.size b nn D0 _ (by simp) (by simp) (by
      obtain ⟨es, clock, hb, Ft, hs, hD⟩ := hown
      exact ⟨es, clock, (Below.heap_alloc _ _ b hbl).trans hb, Ft, hs, hD⟩)
  exact callsIn_wide.1 (AnyZI.sorted_in Tryz.sorted72 Fence.wide 5 trivial trivial trivial trivial rfl (by omega) (sortsI _) (enters_of Tryz.func90 (by kernel_rfl) rfl) 91 #[.pointer (some ⟨w.heap.size, 0, none⟩)] trivial (enters_of Tryz.func91 (by kernel_rfl) rfl) _ _ hmax hbytes _ hseq)
/-- 'slices.Sorted(maps.Keys(m))': the keys in rising order. -/
theorem sortedO_rows (b : Nat) (A : List (Int × Value)) (w : World) (hm : MapL w Tryz.prog 3 intLit b A) (hlen : A.length ≤ 1073741824) :
    Calls Tryz.prog 72 #[.func (.func 91) #[] #[.pointer (some ⟨w.heap.size, 0, none⟩)]] (w.alloc (.cells #[.map (some b)] 119)) fun e w' => ∃ v ks, e = .returned v ∧ ks.Pairwise (· < ·) ∧ (∀ x, x ∈ ks ↔ ∃ r ∈ A, r.1 = x) ∧ ks.length = A.length ∧
      Sl w' (fun q => w.heap.size ≤ q) 1 intc v ks ∧ Below w.heap.size w w' := by
  obtain ⟨hnd, D, hown, hsz, hat, hhas⟩ := hm
  refine (sortedO_call b A.length D Rv w hown (by rw [hsz]; unfold maxLen; omega) (by rw [hsz]; omega)).mono ?_
  rintro e w' ⟨v, ss, rfl, hP, hrow, -, hB⟩
  obtain ⟨hr, hmem⟩ := sorted_keysI_rise lawI Tryz.underlying3 hown hP
  have hks : ∀ x, x ∈ ss.mergeSort (fun x y => decide (x ≤ y)) ↔ ∃ r ∈ A, r.1 = x := fun x => by
    rw [hmem, show Lit.int .i64 x = intLit x from rfl, hhas]
    constructor
    · intro h
      obtain ⟨v, hv⟩ := Option.isSome_iff_exists.1 h
      exact ⟨_, getL_mem hv, rfl⟩
    · rintro ⟨r, hr, e⟩
      cases hg : getL A x with
      | none => exact absurd e (getL_none.1 hg r hr)
      | some v => rfl
  have hl : ss.length = (ss.mergeSort (fun x y => decide (x ≤ y))).length := by rw [List.length_mergeSort]
  rw [hl, map_intc] at hrow
  refine ⟨v, _, rfl, hr, hks, ?_, (Sl.of_own (enc := intc) (fun _ => rfl) hrow).mono fun q hq hv => ?_, ((Below.refl _ w).alloc (Nat.le_refl _) _).trans (hB.mono (by simp))⟩
  · have h2 : (ss.mergeSort (fun x y => decide (x ≤ y))).Perm (A.map Prod.fst) := (List.perm_ext_iff_of_nodup (hr.imp fun {a b} h e => by omega) hnd).2 fun x => by rw [hks, List.mem_map]
    rw [h2.length_eq, List.length_map]
  · have := (hrow.lt q hv).1
    simp at this
    omega

set_option maxHeartbeats 1000000 in
theorem sess_any (w : World) (p : Nat) (L : List En) (F G : Nat → Prop) (h : TabAt w p L F G) (hL : L.length ≤ 1073741824) :
    Calls Tryz.prog 68 #[.pointer (some ⟨p, 0, none⟩)] w fun e w' => ∃ v ks, e = .returned v ∧ ks.Pairwise (· < ·) ∧ (∀ x, x ∈ ks ↔ ∃ e ∈ L, e.ses = x) ∧ ks.length ≤ L.length ∧ Sl w' (fun q => w.heap.size ≤ q) 1 intc v ks ∧ Below w.heap.size w w' := by
  obtain ⟨bm, R, h, hR, hhas⟩ := h
  have c0 := h.c0
  have hp := h.lt p h.fp
  have hsort := sortedS_rows bm (rowsS R) w h.map (by simp [rowsS]; omega)
  have HS := Lib.hid hsort
  have H := Lib.hid h
  have HH := Lib.hid hhas
  clear h hsort hhas
  go_enter Tryz.func68, Tryz.ntmps68
  go_wp2_with fail
  refine (keysS_call _ _).mono ?_
  rintro e w1 ⟨rfl, rfl⟩
  go_wp2_with fail
  refine HS.out.mono ?_
  rintro e w1 ⟨v1, ks, rfl, hr, hk, hln, hS1, hB1⟩
  go_wp2_with fail
  go_ret
  refine ⟨_, ks, rfl, hr, fun x => ?_, by rw [hln]; simp [rowsS]; exact hR, hS1, hB1⟩
  rw [hk]
  constructor
  · rintro ⟨q, hq, rfl⟩
    obtain ⟨r, hr, rfl⟩ := List.mem_map.1 hq
    exact HH.out r hr
  · rintro ⟨e, he, rfl⟩
    obtain ⟨r, hr, hn⟩ := H.out.mem e he
    exact ⟨_, List.mem_map.2 ⟨r, hr, rfl⟩, hn⟩

set_option maxHeartbeats 1000000 in
theorem seqs_any (w : World) (p : Nat) (L : List En) (F G : Nat → Prop) (h : TabAt w p L F G) (hL : L.length ≤ 1073741824) (x : Int) (hx : i64 x) :
    Calls Tryz.prog 69 #[.pointer (some ⟨p, 0, none⟩), .int .i64 x] w fun e w' => ∃ v ks, e = .returned v ∧ ks.Pairwise (· < ·) ∧ (∀ y, y ∈ ks ↔ (lookL L x y).2 = 1) ∧ ks.length ≤ L.length ∧ Sl w' (fun q => w.heap.size ≤ q) 1 intc v ks ∧ Below w.heap.size w w' := by
  obtain ⟨bm, R, h, hR, hhas⟩ := h
  have c0 := h.c0
  have hp := h.lt p h.fp
  by_cases hrow : ∃ r ∈ R, r.n = x
  · obtain ⟨r, hr, rfl⟩ := hrow
    have hl := h.lookS hr hx
    have s := h.ses r hr
    have s1 := s.c1
    have hbl := h.lt _ (h.gf _ (h.gb r hr).1)
    have hsort := sortedO_rows r.mo (rowsO r.O) w s.map (by have := s.olen; simp [rowsO]; omega)
    have HS := Lib.hid hsort
    have S := Lib.hid s
    have OK := Lib.hid h.ok
    clear h hsort hhas s
    go_enter Tryz.func69, Tryz.ntmps69
    go_wp2_with fail
    refine (keysO_call _ _).mono ?_
    rintro e w1 ⟨rfl, rfl⟩
    go_wp2_with fail
    refine HS.out.mono ?_
    rintro e w1 ⟨v1, ks, rfl, hr, hk, hln, hS1, hB1⟩
    go_wp2_with fail
    go_ret
    refine ⟨_, ks, rfl, hr, fun y => ?_, by rw [hln]; simp [rowsO]; exact S.out.olen, hS1, hB1⟩
    rw [hk, known_iff OK.out]
    constructor
    · rintro ⟨q, hq, rfl⟩
      obtain ⟨q, hq2, rfl⟩ := List.mem_map.1 hq
      obtain ⟨h1, o, h2, _⟩ := S.out.out q hq2
      exact ⟨h1, o, h2⟩
    · rintro ⟨h1, o, h2⟩
      obtain ⟨q, hq, rfl⟩ := S.out.all y o h1 h2
      exact ⟨_, List.mem_map.2 ⟨q, hq, rfl⟩, rfl⟩
  · have hn : ∀ r ∈ R, r.n ≠ x := fun r hr e => hrow ⟨r, hr, e⟩
    have hno := findL_none (h.no_ses hn)
    have hl := h.lookN hn hx
    have OK := Lib.hid h.ok
    clear h hhas hn hrow
    go_enter Tryz.func69, Tryz.ntmps69
    go_wp2_with fail
    go_ret
    refine ⟨_, [], rfl, List.Pairwise.nil, fun y => ?_, by simp, Sl.nil_ _ _ _ _, Below.refl _ _⟩
    rw [known_iff OK.out, hno]
    simp
end Go.Proofs.YtlfhokcjbgpjhaaGreatDoor.Ded
