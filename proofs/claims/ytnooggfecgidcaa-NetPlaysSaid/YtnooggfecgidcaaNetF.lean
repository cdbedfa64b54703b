/- The net: All: the packets on their way, by their numbers. -/
import Derived.Test.YtnooggfecgidcaaNetC
import Derived.Test.YtnooggfecgidcaaLay
import Derived.Test.YtnooggfecgidcaaBlI
namespace Go.Proofs.Ytnooggfecgidcaa
open Go.RowKit Go.Bl Go.Maps Go.Sort Go.Shelf

theorem sortsI (m : Nat) : AnyZI.SortsIn Try.prog Try.sorted24_ren Fence.wide m :=
  ⟨fun blk off cap ss W hH hblk hsz => callsIn_wide.2 (AnyM.slices_Sort_int Try.sort28 blk off cap ss W hH hblk hsz),
   fun p cap W => callsIn_wide.2 (AnyM.slices_Sort_int_none Try.sort28 p cap W)⟩

theorem keysI_call (mb : Option Nat) (W : World) : Calls Try.prog 25 #[.map mb] W fun e w' => e = .returned (.func (.func 29) #[] #[.pointer (some ⟨W.heap.size, 0, none⟩)]) ∧ w' = W.alloc (.cells #[.map mb] 58) :=
  callsIn_wide.1 (AnyZI.keys_in Try.keys25 Fence.wide 5 trivial rfl mb W)

set_option maxHeartbeats 1000000 in
theorem sortedI_call {H : Type} (b nn : Nat) (D0 : DataW H) (R : Value → Option (DataW H × List MemPlace)) (w : World) (hown : w.ownsMap Try.prog 3 R b nn D0) (hmax : Maps.size D0 ≤ maxLen) (hbytes : Maps.size D0 * 8 ≤ 140737488355328) :
    Calls Try.prog 24 #[.func (.func 29) #[] #[.pointer (some ⟨w.heap.size, 0, none⟩)]] (w.alloc (.cells #[.map (some b)] 58)) fun e w' => ∃ (v : Value) (ss : List Int), e = .returned v ∧ ss.Perm (intKeys D0) ∧
      w'.ownsRow (w.alloc (.cells #[.map (some b)] 58)).heap.size 3 1 v ss.length ((ss.mergeSort (fun x y => decide (x ≤ y))).map encZ) ∧ (v = .slice none 0 0 ↔ ss = []) ∧ Below (w.alloc (.cells #[.map (some b)] 58)).heap.size (w.alloc (.cells #[.map (some b)] 58)) w' := by
  have hbl := hown.lt
  have hseq : SeqGives Fence.wide 2 Try.prog 29 #[.pointer (some ⟨w.heap.size, 0, none⟩)] encZ (fun ss => ss.Perm (intKeys D0)) (Maps.size D0) (w.alloc (.cells #[.map (some b)] 58)) :=
    AnyZI.keys_gives (ρ := Try.keys25_ren) { Try.keys25 with } Fence.wide _ trivial rfl (by omega) w.heap.size b nn D0 _ (by simp) (by simp) (by
      obtain ⟨es, clock, hb, Ft, hs, hD⟩ := hown
      exact ⟨es, clock, (Below.heap_alloc _ _ b hbl).trans hb, Ft, hs, hD⟩)
  exact callsIn_wide.1 (AnyZI.sorted_in Try.sorted24 Fence.wide 5 trivial trivial trivial trivial rfl (by omega) (sortsI _) (enters_of Try.func28 (by kernel_rfl) rfl) 29 #[.pointer (some ⟨w.heap.size, 0, none⟩)] trivial (enters_of Try.func29 (by kernel_rfl) rfl) _ _ hmax hbytes _ hseq)

/-- 'slices.Sorted(maps.Keys(m))' of a map of rows whose keys are known in rising order. -/
theorem sortedI_rows (b : Nat) (A : List (Int × Value)) (w : World) (hm : MapL w Try.prog 3 intLit b A) (hlen : A.length ≤ 1073741824) (ks : List Int) (hr : ks.Pairwise (· < ·)) (hks : ∀ x, x ∈ ks ↔ ∃ r ∈ A, r.1 = x) :
    Calls Try.prog 24 #[.func (.func 29) #[] #[.pointer (some ⟨w.heap.size, 0, none⟩)]] (w.alloc (.cells #[.map (some b)] 58)) fun e w' => ∃ v, e = .returned v ∧
      Sl w' (fun q => w.heap.size ≤ q) 1 intc v ks ∧ Below w.heap.size w w' := by
  obtain ⟨_, D, hown, hsz, hat, hhas⟩ := hm
  refine (sortedI_call b A.length D Rv w hown (by rw [hsz]; unfold maxLen; omega) (by rw [hsz]; omega)).mono ?_
  rintro e w' ⟨v, ss, rfl, hP, hrow, -, hB⟩
  have hs : ss.mergeSort (fun x y => decide (x ≤ y)) = ks := sorted_keysI lawI Try.underlying3 hown hP hr (fun x => by
    rw [hks, show Lit.int .i64 x = intLit x from rfl, hhas]
    constructor
    · rintro ⟨r, hr, e⟩
      cases hg : getL A x with
      | none => exact absurd e (getL_none.1 hg r hr)
      | some v => rfl
    · intro h
      obtain ⟨v, hv⟩ := Option.isSome_iff_exists.1 h
      exact ⟨_, getL_mem hv, rfl⟩)
  have hl : ss.length = ks.length := by rw [← hs, List.length_mergeSort]
  rw [hs, hl, map_intc] at hrow
  refine ⟨v, rfl, (Sl.of_own (enc := intc) (fun _ => rfl) hrow).mono fun q hq hv => ?_, ((Below.refl _ w).alloc (Nat.le_refl _) _).trans (hB.mono (by simp))⟩
  have := (hrow.lt q hv).1
  simp at this
  omega

theorem infoPk : (Try.prog.info? 32).map (fun i => (i.zero, i.size, i.bytes)) = some (some (.agg #[.int .i64 0, .int .i64 0, .int .i64 0, .string ByteArray.empty]), 4, 40) := by kernel_rfl

set_option maxHeartbeats 1000000 in
theorem all_any (w : World) (p : Nat) (s : Nt) (F : Nat → Prop) (h : NetAt w p s F) (hb1 : s.last ≤ 1000000000000) :
    Calls Try.prog 15 #[.pointer (some ⟨p, 0, none⟩)] w fun e w' => ∃ v, e = .returned v ∧ Below w.heap.size w w' ∧ Sl w' (fun b => w.heap.size ≤ b) 4 pkc v s.L := by
  obtain ⟨bm, R, h⟩ := h
  have c3 := h.c3
  have hp := h.lt p h.fp
  have hlen := h.len
  have hln : s.L.length ≤ 1048576 := by have := h.ok.len; have := h.ok.room2; omega
  have hks : ∀ x, x ∈ s.L.map Pk.no ↔ ∃ r ∈ rowsN R, r.1 = x := by
    intro x
    rw [← h.rL]
    simp only [rowsN, List.map_map, List.mem_map, Function.comp, Prod.exists]
    constructor
    · rintro ⟨a, b, h1, h2⟩
      exact ⟨b.no, ptr a, ⟨a, b, h1, rfl⟩, h2⟩
    · rintro ⟨_, _, ⟨a, b, h1, h3⟩, h2⟩
      injection h3 with h3 h4
      exact ⟨a, b, h1, h3.trans h2⟩
  have hsort := sortedI_rows bm (rowsN R) w h.map (by rw [rowsN_len, hlen]; omega) (s.L.map Pk.no) (List.pairwise_map.2 h.ok.rise) hks
  have HS := Lib.hid hsort
  have H := Lib.hid h
  clear hks hsort h hlen
  obtain ⟨i0, hi0, hz0, hz1, hz2⟩ := info_parts infoPk
  go_enter Try.func15, Try.ntmps15
  go_wp2_with fail
  refine (keysI_call _ _).mono ?_
  rintro e w1 ⟨rfl, rfl⟩
  go_wp2_with fail
  refine HS.out.mono ?_
  rintro e w1 ⟨v1, rfl, hS1, hB1⟩
  obtain ⟨A1, c1, rfl, hd1, hd2⟩ := hS1.shape_ (n := s.L.length) (by simp)
  unfold maxLen at hd2
  have HS1 := Lib.hid hS1
  have HB1 := Lib.hid hB1
  clear hS1 hB1 c3
  go_wp2_with fail
  go_loopw [3, 13] (fun v i wr => ∃ k : Nat, k ≤ s.L.length ∧ i = .int .i64 k ∧ wr.ownsRow w1.heap.size 32 4 v k ((s.L.take k).flatMap pkc) ∧ Below w1.heap.size w1 wr ∧ Below w.heap.size w wr) (fun _ i _ => s.L.length - (Go.RowKit.intOf i).toNat)
  case atStart => exact ⟨0, Nat.zero_le _, rfl, World.ownsRow_nil _ _ _ _, Below.refl _ _, HB1.out⟩
  case round =>
    obtain ⟨k, hk, rfl, hrow, hB, hBw⟩ := hrel
    obtain ⟨a1, cc1, rfl, hc1, hc2⟩ := row_shape hrow
    have Hrow := Lib.hid hrow
    have HB := Lib.hid hB
    have HBW := Lib.hid hBw
    have hsz := hBw.size
    clear hrow hB hBw
    by_cases hlt : k < s.L.length
    · obtain ⟨b, o, rfl, _, hbl, hc⟩ := HS1.out.cell_ (i := k) (by simpa using hlt)
      have e0 := (HB.out.cell (p := ⟨b, _, none⟩) hbl).trans (hc 0 _ rfl)
      simp only [Nat.add_zero, Nat.mul_one, List.getElem_map] at e0
      clear hc
      obtain ⟨bb, hbb⟩ := H.out.row (List.getElem_mem hlt)
      have hIr := H.out.keep (Keeps.of_fresh HBW.out (fun _ => False)) (fun _ _ => id)
      have hnos := H.out.ok.nos _ (List.getElem_mem hlt)
      have hlook := hIr.lookY hbb (x := s.L[k].no) (by unfold i64; omega) rfl
      have c3 := hIr.c3
      have hblk := hIr.rows _ hbb
      have b0 : wr.cell? ⟨bb, 0, none⟩ = some (.int .i64 s.L[k].no) := cell_of_row wr bb 0 _ _ _ hblk
      have b1 : wr.cell? ⟨bb, 1, none⟩ = some (.int .i64 s.L[k].frm) := cell_of_row wr bb 1 _ _ _ hblk
      have b2 : wr.cell? ⟨bb, 2, none⟩ = some (.int .i64 s.L[k].to) := cell_of_row wr bb 2 _ _ _ hblk
      have b3 : wr.cell? ⟨bb, 3, none⟩ = some (.string s.L[k].txt) := cell_of_row wr bb 3 _ _ _ hblk
      have hnews := World.news_of_block (cs := #[.int .i64 s.L[k].no, .int .i64 s.L[k].frm, .int .i64 s.L[k].to, .string s.L[k].txt]) (t := 32) (fr := (0, 0)) (heap_alloc_new wr _)
      have Hnews := Lib.hid hnews
      have hbbl := hIr.lt bb (hIr.fr _ hbb)
      clear hnews hIr hblk hnos
      go_wp2_with (at_builtin; refine wpList_append_own _ rfl _ _ 39 rfl w1.heap.size 32 i0 _ 4 40 Try.underlying39 hi0 hz0 hz1 hz2 rfl (by decide) _ _ _ rfl (Hrow.out.alloc _) ⟨wr.heap.size, 0, none⟩ 1 1 [.int .i64 s.L[k].no, .int .i64 s.L[k].frm, .int .i64 s.L[k].to, .string s.L[k].txt] rfl rfl Hnews.out (by simp [Value.oneCell']) (by unfold maxLen; omega) (by omega) (by have := HB.out.size; simp; omega) ?_; intro v' w2 hown' hgrow _; have Hown := Lib.hid hown'; clear hown')
      go_roundw
      case rel =>
        refine ⟨k + 1, by omega, by go_num, ?_, ?_, ?_⟩
        · rw [List.take_succ_eq_append_getElem hlt, List.flatMap_append]
          exact Hown.out
        · exact (HB.out.alloc HB.out.size _).grown hgrow (by have := HB.out.size; simp; omega) (fun q hq => (Hrow.out.lt q hq).1)
        · exact (HBW.out.alloc hsz _).grown hgrow (by simp; omega) (fun q hq => Nat.le_trans HB1.out.size (Hrow.out.lt q hq).1)
      case measure => simp [Go.RowKit.intOf]; omega
    · have hkd : k = s.L.length := by omega
      subst hkd
      go_wp2_with fail
      go_ret
      have h := Hrow.out
      rw [List.take_length] at h
      exact ⟨_, rfl, HBW.out, (Sl.of_own (enc := pkc) (fun _ => rfl) h).mono fun q hq hv => Nat.le_trans HB1.out.size (h.lt q hv).1⟩
end Go.Proofs.Ytnooggfecgidcaa
