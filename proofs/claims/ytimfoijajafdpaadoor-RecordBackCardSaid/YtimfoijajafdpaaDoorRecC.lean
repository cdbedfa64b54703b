/- Records: Grow, Concat, Fork. No condition. -/
import Derived.Test.YtimfoijajafdpaaDoorRecB
import Derived.Test.YtimfoijajafdpaaDoorLay
import Derived.Test.YtimfoijajafdpaaDoorLayG
import Derived.Test.YtimfoijajafdpaaDoorBlI
import Derived.Sort.OwnSortedInts
import Derived.Shelf.SortM.Plain
namespace Go.Proofs.YtimfoijajafdpaaDoor
open Go.RowKit Go.Bl Go.Shelf
attribute [local go_sem ↓] Go.wp_at_zero Go.wp_at_succ

theorem grow_any (w : World) (n : Nat) (hn : n ≤ 1000000) :
    Calls Tryd.prog 43 #[.slice none 0 0, .int .i64 n] w fun x w' => ∃ v, x = .returned v ∧ Own w' w.heap.size 37 2 mkc v [] ∧ Below w.heap.size w w' := by
  by_cases h0 : n = 0
  · subst h0
    refine (Any8.slices_Grow_room Tryd.grow43 none 0 0 0 w (by omega) (by omega) (by omega) (by omega)).mono ?_
    rintro x w' ⟨rfl, rfl⟩
    exact ⟨_, rfl, Own.nil_ _ _ _ _ _, Below.refl _ _⟩
  · obtain ⟨z, hi, hzs⟩ := elMk.hi
    obtain ⟨i, hi, h1, h2, h3⟩ := info_parts hi
    have hzc : z.cells.size = 2 := hzs
    refine (Any8.slices_Grow_grow Tryd.grow43 i z hi h1 (by rw [h2]; decide) none 0 0 n [] w (by omega) (by omega) (by rw [h3]; omega) (by omega) (by simp) (fun _ => rfl) (fun a ha => by cases ha)).mono ?_
    rintro x w' ⟨rfl, rfl⟩
    refine ⟨_, rfl, ?_, ?_⟩
    · have hge := grownCap_ge w (0 + n) 0 37
      refine World.ownsRow_made w.drew _ _ (Nat.le_refl _) (grownCap_le_maxLen _ _ _ _ (by unfold maxLen; omega)) ?_
      rw [Array.size_append, Array.size_append, size_zeroCells, size_zeroCells, hzc]
      show ([] : List Value).toArray.size + (0 + n - 0) * 2 + (grownCap w (0 + n) 0 37 - (0 + n)) * 2 = grownCap w (0 + n) 0 37 * 2
      rw [Nat.zero_add] at hge ⊢
      simp
      omega
    · exact (show Below w.heap.size w w.drew from ⟨rfl, rfl, rfl, Nat.le_refl _, fun _ _ => rfl⟩).alloc (Nat.le_refl _) _

def lsc (r : Value × List Mk) : List Value := [r.1]
def allM (ls : List (Value × List Mk)) (k : Nat) : List Mk := (ls.take k).flatMap (·.2)
theorem allM_succ {ls : List (Value × List Mk)} {k : Nat} (h : k < ls.length) : allM ls (k + 1) = allM ls k ++ ls[k].2 := by
  unfold allM
  rw [List.take_succ_eq_append_getElem h, List.flatMap_append]
  simp
theorem allM_le (ls : List (Value × List Mk)) (k : Nat) : (allM ls k).length ≤ (allM ls ls.length).length := by
  unfold allM
  conv => rhs; rw [List.take_length, ← List.take_append_drop k ls, List.flatMap_append, List.length_append]
  omega
theorem allM_zero (ls : List (Value × List Mk)) : allM ls 0 = [] := rfl
theorem allM_step {ls : List (Value × List Mk)} {k s n : Nat} (h : k < ls.length) (hn : (allM ls ls.length).length ≤ n) (hs : (allM ls k).length = s) : s + ls[k].2.length ≤ n ∧ (allM ls (k + 1)).length = s + ls[k].2.length := by
  have h1 := congrArg List.length (allM_succ h)
  rw [List.length_append, hs] at h1
  have h2 := allM_le ls (k + 1)
  exact ⟨by rw [← h1]; exact Nat.le_trans h2 hn, h1⟩
attribute [local irreducible] allM

set_option maxRecDepth 8000 in
set_option maxHeartbeats 1000000 in
theorem concat_any (w : World) (G : Nat → Prop) (v : Value) (ls : List (Value × List Mk)) (h : Sl w G 1 lsc v ls) (hls : ∀ r ∈ ls, Sl w G 2 mkc r.1 r.2) (_hl : ls.length ≤ 1000) (hn : (allM ls ls.length).length ≤ 1000000) :
    Calls Tryd.prog 27 #[v] w fun x w' => ∃ v', x = .returned v' ∧ Own w' w.heap.size 37 2 mkc v' (allM ls ls.length) ∧ Below w.heap.size w w' := by
  obtain ⟨A, c, rfl, hA1, hA2⟩ := h.shape
  unfold maxLen at hA2
  have HS := Lib.hid h
  have HLS := Lib.hid hls
  clear h hls
  go_enter Tryd.func27, Tryd.ntmps27
  go_wp2_with fail
  go_loopw [11, 3, 5] (fun i n _ wr => ∃ k s : Nat, k ≤ ls.length ∧ i = .int .i64 k ∧ n = .int .i64 s ∧ (allM ls k).length = s ∧ w = wr) (fun i _ _ _ => ls.length - (intOf i).toNat)
  case atStart => exact ⟨0, 0, Nat.zero_le _, rfl, rfl, by rw [allM_zero]; rfl, rfl⟩
  case round =>
    obtain ⟨k, s, hk, rfl, rfl, hs, rfl⟩ := hrel
    by_cases hlt : k < ls.length
    · obtain ⟨b, o, rfl, _, _, hxx⟩ := HS.out.cell_ hlt
      have hSR := HLS.out ls[k] (List.getElem_mem hlt)
      have hst := allM_step hlt hn hs
      obtain ⟨e, he⟩ : ∃ e, ls[k].2.length = e := ⟨_, rfl⟩
      rw [he] at hst
      obtain ⟨hst1, hst2⟩ := hst
      obtain ⟨B, d, hv, hd1, hd2⟩ := hSR.shape_ he
      have x0 := hxx 0 _ rfl
      rw [hv] at x0
      simp only [Nat.add_zero, Nat.mul_one] at x0
      have HST := Lib.hid hst2
      clear hxx hv hSR he hs hst2 hd2 hn
      have hneg : ¬ ((s : Int) + (e : Int)) < 0 := Int.not_lt.2 (Int.add_nonneg (Int.natCast_nonneg _) (Int.natCast_nonneg _))
      go_wp2_with fail
      go_roundw
      case rel => exact ⟨k + 1, s + e, hlt, by go_num, by go_num, HST.out, trivial⟩
      case measure => simp [intOf]; omega
    · have hkd : k = ls.length := by omega
      subst hkd
      have hgr := fun wz => grow_any wz s (by rw [← hs]; exact hn)
      have HN := Lib.hid hn
      clear hs
      have HGR := Lib.hid hgr
      clear hgr
      go_wp2_with fail
      refine (HGR.out _).mono ?_
      rintro x w1 ⟨v1, rfl, hO1, hB1⟩
      have HO1 := Lib.hid hO1
      have HB1 := Lib.hid hB1
      clear hO1 hB1
      go_wp2_with fail
      go_loopw [27, 6, 8] (fun i v _ wr => ∃ k : Nat, k ≤ ls.length ∧ i = .int .i64 k ∧ Own wr w.heap.size 37 2 mkc v (allM ls k) ∧ Below w.heap.size w wr) (fun i _ _ _ => ls.length - (intOf i).toNat)
      case atStart => exact ⟨0, Nat.zero_le _, rfl, by rw [allM_zero]; exact HO1.out, HB1.out⟩
      case round =>
        obtain ⟨k, hk, rfl, hO, hB⟩ := hrel
        have HO := Lib.hid hO
        have HB := Lib.hid hB
        clear hO hB
        by_cases hlt : k < ls.length
        · obtain ⟨b, o, rfl, _, _, hxx⟩ := (HS.out.fresh HB.out).cell_ hlt
          have x0 := hxx 0 _ rfl
          simp only [Nat.add_zero, Nat.mul_one] at x0
          have hst := (allM_step hlt HN.out rfl).1
          have HSR := Lib.hid ((HLS.out ls[k] (List.getElem_mem hlt)).fresh HB.out)
          clear hxx
          go_wp2_with (at_builtin; refine elMk.append _ (by rfl) _ _ rfl w.heap.size _ _ rfl HO.out _ _ _ rfl HSR.out (by omega) HB.out.size ?_; intro v' w' hO' hgr hAt)
          go_roundw
          case rel =>
            refine ⟨k + 1, hlt, by go_num, ?_, ?_⟩
            · rw [allM_succ hlt]
              exact hO'
            · exact Below.keep HB.out (Keeps.of_grown hgr) HB.out.size (fun z hz => (HO.out.lt z hz).1)
          case measure => simp [intOf]; omega
        · have hkd : k = ls.length := by omega
          subst hkd
          go_wp2_with fail
          go_ret
          exact ⟨_, rfl, HO.out, HB.out⟩

theorem sl_pair {w : World} {g : Nat} {u v : Value} {e : TypeId} {fr : Nat × Nat} (a b : List Mk) (hg : w.heap[g]? = some (.cells #[u, v] e fr)) : Sl w (fun _ => True) 1 lsc (.slice (some ⟨g, 0, none⟩) 2 2) [(u, a), (v, b)] := by
  refine ⟨_, _, rfl, Nat.le_refl _, by show 2 ≤ maxLen; unfold maxLen; omega, fun _ => ⟨g, 0, rfl, trivial, (Array.getElem?_eq_some_iff.1 hg).1, fun i hi j x hx => ?_⟩⟩
  have hj : j = 0 := by
    have := (List.getElem?_eq_some_iff.1 hx).1
    simp [lsc] at this
    omega
  subst hj
  rcases i with _ | _ | i
  · exact (cell_of_row w g 0 _ e fr hg).trans hx
  · exact (cell_of_row w g 1 _ e fr hg).trans hx
  · simp at hi; omega

theorem intc_one (x : Int) (u : Value) (h : u ∈ intc x) : u.oneCell' = true := by
  simp only [intc, List.mem_cons, List.not_mem_nil, or_false] at h
  rcases h with rfl; rfl
theorem infoInt : (Tryd.prog.info? 3).map (fun i => (i.zero, i.size, i.bytes)) = some (some (.int .i64 0), 1, 8) := by kernel_rfl
theorem elInt : El Tryd.prog 22 3 1 8 intc := ⟨Tryd.underlying22, ⟨_, infoInt, rfl⟩, by decide, by decide, fun _ => rfl, intc_one⟩

theorem sortI_any (w : World) (base : Nat) (v : Value) (ss : List Int) (hown : Own w base 3 1 intc v ss) (hne : ss ≠ []) (hl : ss.length ≤ 1000000) :
    Calls Tryd.prog 28 #[v] w fun x w' => x = .returned (.tuple #[]) ∧ Own w' base 3 1 intc v (ss.mergeSort fun x y => decide (x ≤ y)) ∧ w.grownBy w' v.ownBlock := by
  rcases hown.2 with ⟨rfl, h0⟩ | ⟨g, cap, cur, rfl, hb, hg, h1, h2, h3, h4⟩
  · exact absurd (List.eq_nil_of_length_eq_zero h0) hne
  · rw [Nat.mul_one, ← map_intc] at h4
    refine (AnyM.slices_Sort_int Tryd.sort28 g 0 cap ss w (holds_of_blockI hg h4) (Array.getElem?_eq_some_iff.1 hg).1 (by omega)).mono ?_
    rintro x w' ⟨rfl, n, os, rfl⟩
    refine ⟨rfl, ?_, grownBy_sortedI _⟩
    have := ownsRow_sortedI (base := base) (n := n) (os := os) (ts := ss.mergeSort fun x y => decide (x ≤ y)) (List.length_mergeSort _) hb hg h1 h2 h3
    unfold Own
    rw [List.length_mergeSort, ← map_intc]
    exact this

theorem forkOf_cons (a b : List Mk) (last p : Int) (S : List Int) : forkOf a b last (p :: S) = if forkP a b last p = true then p - 1 else forkOf a b last S := by
  unfold forkOf
  rw [List.find?_cons]
  cases forkP a b last p <;> rfl

set_option maxRecDepth 8000 in
set_option maxHeartbeats 2000000 in
theorem fork_any (w : World) (va vb : Value) (a b : List Mk) (ha : Sl w (fun _ => True) 2 mkc va a) (hb : Sl w (fun _ => True) 2 mkc vb b) (hla : a.length ≤ 1000) (hlb : b.length ≤ 1000) (lastA lastB : Int) (hA : lastA ≤ 4000) :
    Calls Tryd.prog 11 #[va, .int .i64 lastA, vb, .int .i64 lastB] w fun x w' => x = .returned (.int .i64 (forkOf a b (gmax (gmin lastA lastB) 0) ((1 :: (a ++ b).map (·.first)).mergeSort fun x y => decide (x ≤ y)))) ∧ Below w.heap.size w w' := by
  obtain ⟨A, cA, rfl, hA1, hA2⟩ := ha.shape
  obtain ⟨B, cB, rfl, hB1, hB2⟩ := hb.shape
  have hmx := @run_gmax Tryd.prog
  have hmn := @run_gmin Tryd.prog
  have hlast : gmax (gmin lastA lastB) 0 ≤ 4000 := by unfold gmax gmin; omega
  obtain ⟨last, hlE⟩ : ∃ n, gmax (gmin lastA lastB) 0 = n := ⟨_, rfl⟩
  rw [hlE] at hlast ⊢
  obtain ⟨r, hr⟩ : ∃ r, forkOf a b last ((1 :: (a ++ b).map (·.first)).mergeSort fun x y => decide (x ≤ y)) = r := ⟨_, rfl⟩
  rw [hr]
  have HR := Lib.hid hr
  clear hr
  have HSA := Lib.hid ha
  have HSB := Lib.hid hb
  have HL := Lib.hid hlast
  have HLA := Lib.hid hla
  have HLB := Lib.hid hlb
  have hls : (allM [(.slice A a.length cA, a), (.slice B b.length cB, b)] 2) = a ++ b := by simp [allM]
  have HLS := Lib.hid hls
  clear ha hb hA1 hA2 hB1 hB2 hlast hls hla hlb
  go_enter Tryd.func11, Tryd.ntmps11
  go_upto_region 3 with (fail)
  have hW : Below w.heap.size w (w.alloc (.cells #[.int .i64 1] 3)) := (Below.refl _ w).alloc (Nat.le_refl _) _
  have hO : Own (w.alloc (.cells #[.int .i64 1] 3)) w.heap.size 3 1 intc (.slice (some ⟨w.heap.size, 0, none⟩) 1 1) [1] := ⟨by simp [intc], .inr ⟨w.heap.size, 1, #[.int .i64 1], rfl, Nat.le_refl _, heap_alloc_new w _, Nat.le_refl _, by unfold maxLen; omega, rfl, rfl⟩⟩
  have hlt1 : w.heap.size < (w.alloc (.cells #[.int .i64 1] 3)).heap.size := by simp
  generalize w.alloc (.cells #[.int .i64 1] 3) = w1 at hW hO hlt1 ⊢
  have HW := Lib.hid hW
  have HO := Lib.hid hO
  clear hW hO
  have hcc := fun (wz : World) (hz : Below w1.heap.size w1 wz) (g : Nat) (e : TypeId) (fr : Nat × Nat) (hg : wz.heap[g]? = some (Obj.cells #[.slice A a.length cA, .slice B b.length cB] e fr)) => concat_any wz (fun _ => True) _ _ (sl_pair a b hg) (by
    intro r hr
    rcases List.mem_cons.1 hr with rfl | hr
    · exact (HSA.out.fresh HW.out).fresh hz
    · rw [List.mem_singleton.1 hr]
      exact (HSB.out.fresh HW.out).fresh hz) (by simp) (by rw [show [(Value.slice A a.length cA, a), (Value.slice B b.length cB, b)].length = 2 from rfl, HLS.out, List.length_append]; have := HLA.out; have := HLB.out; omega)
  have HCC := Lib.hid hcc
  clear hcc
  go_wp2_with fail
  refine (HCC.out _ ((Below.refl _ w1).alloc (Nat.le_refl _) _) _ _ _ (heap_alloc_new w1 _)).mono ?_
  rintro x w2 ⟨vc, rfl, hOc, hBc⟩
  rw [show [(Value.slice A a.length cA, a), (Value.slice B b.length cB, b)].length = 2 from rfl, HLS.out] at hOc
  have hlc : (a ++ b).length ≤ 2000 := by rw [List.length_append]; have := HLA.out; have := HLB.out; omega
  obtain ⟨C, hC⟩ : ∃ C, a ++ b = C := ⟨_, rfl⟩
  rw [hC] at hOc hlc
  obtain ⟨D, cD, rfl, _, _⟩ := hOc.shape_ rfl
  have hfb : ∀ k, (Value.slice D C.length cD).ownBlock = some k → w1.heap.size ≤ k ∧ k < w2.heap.size := fun k hk => ⟨Nat.le_trans (by simp) (hOc.lt k hk).1, (hOc.lt k hk).2⟩
  have HFB := Lib.hid hfb
  have HSC := Lib.hid (hOc.sl elMk.len)
  have hW2 : Below w1.heap.size w1 w2 := ((Below.refl _ w1).alloc (Nat.le_refl _) _).trans (hBc.mono (by simp))
  have HO2 := Lib.hid (HO.out.fresh hW2)
  have HW2 := Lib.hid (HW.out.trans (hW2.mono HW.out.size))
  have hr := HR.out
  rw [hC] at hr
  have HR := Lib.hid hr
  clear hr
  clear hOc hBc hW2 hfb
  go_wp2_with fail
  go_loopw [26, 10, 12] (fun i v _ wr => ∃ k : Nat, k ≤ C.length ∧ i = .int .i64 k ∧ Own wr w.heap.size 3 1 intc v (1 :: (C.take k).map (·.first)) ∧ (∀ q, v.ownBlock = some q → q < w1.heap.size ∨ w2.heap.size ≤ q) ∧ Sl wr (fun b => (Value.slice D C.length cD).ownBlock = some b) 2 mkc (.slice D C.length cD) C ∧ w2.heap.size ≤ wr.heap.size ∧ Below w.heap.size w wr) (fun i _ _ _ => C.length - (intOf i).toNat)
  case atStart => exact ⟨0, Nat.zero_le _, rfl, HO2.out, fun q hq => .inl (by injection hq with hq; rw [← hq]; exact hlt1), HSC.out, Nat.le_refl _, HW2.out⟩
  case round =>
    obtain ⟨k, hk, rfl, hO, hq, hC4, hsz, hB⟩ := hrel
    have HO := Lib.hid hO
    have HB := Lib.hid hB
    have HQ := Lib.hid hq
    have HC4 := Lib.hid hC4
    clear hO hB hq hC4
    by_cases hlt : k < C.length
    · obtain ⟨b1, o1, rfl, _, _, hxx⟩ := HC4.out.cell_ hlt
      have x0 := hxx 0 _ rfl
      have x1 := hxx 1 _ rfl
      simp only [Nat.add_zero] at x0
      clear hxx
      go_upto_region 6 with (fail)
      have hWb : Below wr.heap.size wr (wr.alloc (.cells #[.int .i64 C[k].epoch, .int .i64 C[k].first] 37)) := (Below.refl _ wr).alloc (Nat.le_refl _) _
      have hblk := heap_alloc_new wr (.cells #[.int .i64 C[k].epoch, .int .i64 C[k].first] 37)
      generalize wr.alloc (.cells #[.int .i64 C[k].epoch, .int .i64 C[k].first] 37) = w4 at hWb hblk ⊢
      have y1 : w4.cell? ⟨wr.heap.size, 1, none⟩ = some (.int .i64 C[k].first) := cell_of_row w4 _ 1 _ _ _ hblk
      have HB1 := Lib.hid (HB.out.trans (hWb.mono HB.out.size))
      have hOw : Own (w4.alloc (.cells #[.int .i64 C[k].first] 3)) w.heap.size 3 1 intc _ (1 :: (C.take k).map (·.first)) := (HO.out.fresh hWb).fresh ((Below.refl _ _).alloc (Nat.le_refl _) _)
      have hone : Sl (w4.alloc (.cells #[.int .i64 C[k].first] 3)) (fun b => b = w4.heap.size) 1 intc (.slice (some ⟨w4.heap.size, 0, none⟩) 1 1) [C[k].first] := Sl.single (heap_alloc_new w4 _) rfl
      have hs4 : wr.heap.size ≤ w4.heap.size := hWb.size
      have hs5 : w.heap.size ≤ w4.heap.size := HB1.out.size
      have HC5 := Lib.hid ((HC4.out.fresh hWb).fresh ((Below.refl _ _).alloc (Nat.le_refl _) (.cells #[.int .i64 C[k].first] 3)))
      have HONE := Lib.hid hone
      have HOW := Lib.hid hOw
      clear hWb hblk x0 x1 hone hOw
      go_wp2_with (at_builtin; refine elInt.append _ (by rfl) _ _ rfl w.heap.size _ _ rfl HOW.out _ _ _ rfl HONE.out (by simp; omega) (by simp; omega) ?_; intro v' w' hO' hgr hAt)
      go_roundw
      case rel =>
        refine ⟨k + 1, hlt, by go_num, ?_, ?_, ?_, ?_, ?_⟩
        · rw [List.take_succ_eq_append_getElem hlt, List.map_append]
          exact hO'
        · intro q hq'
          rcases hAt with h | h
          · exact HQ.out q (h ▸ hq')
          · rw [h] at hq'
            injection hq' with hq'
            rw [World.size_alloc] at hq'
            exact .inr (by omega)
        · refine HC5.out.keep (Keeps.of_grown hgr) (fun z _ hz hz' => ?_)
          have := HFB.out z hz
          have := HQ.out z hz'
          omega
        · have := hgr.size
          rw [World.size_alloc] at this
          omega
        · exact Below.keep (HB1.out.alloc hs5 _) (Keeps.of_grown hgr) (by simp; omega) (fun z hz => (HOW.out.lt z hz).1)
      case measure => simp [intOf]; omega
    · have hkd : k = C.length := by omega
      subst hkd
      have hO := HO.out
      rw [List.take_length] at hO
      have hll : (1 :: C.map (·.first)).length = C.length + 1 := by simp
      obtain ⟨S0, hS0⟩ : ∃ S0, 1 :: C.map (·.first) = S0 := ⟨_, rfl⟩
      have hne0 : S0 ≠ [] := by rw [← hS0]; simp
      rw [hS0] at hO hll
      have hr := HR.out
      rw [hS0] at hr
      have HOF := Lib.hid hO
      have HR0 := Lib.hid hr
      clear hO hr
      go_wp2_with fail
      refine (sortI_any _ _ _ S0 HOF.out hne0 (by omega)).mono ?_
      rintro x w5 ⟨rfl, hOs, hgs⟩
      have hB5 := Below.keep HB.out (Keeps.of_grown hgs) HB.out.size (fun z hz => (HOF.out.lt z hz).1)
      have hls : (S0.mergeSort fun x y => decide (x ≤ y)).length = C.length + 1 := by rw [List.length_mergeSort, hll]
      obtain ⟨S, hS⟩ : ∃ S, (S0.mergeSort fun x y => decide (x ≤ y)) = S := ⟨_, rfl⟩
      have hr := HR0.out
      rw [hS] at hOs hls hr
      obtain ⟨E, cE, rfl, _, _⟩ := hOs.shape_ rfl
      have HSS := Lib.hid (hOs.sl elInt.len)
      have HB5 := Lib.hid hB5
      have HR := Lib.hid hr
      clear hOs hgs hB5 hr
      go_wp2_with fail
      go_loopw [40, 14, 15] (fun i _ _ wr => ∃ k : Nat, k ≤ S.length ∧ i = .int .i64 k ∧ forkOf a b last (S.drop k) = r ∧ Below w5.heap.size w5 wr) (fun i _ _ _ => S.length - (intOf i).toNat)
      case atStart => exact ⟨0, Nat.zero_le _, rfl, HR.out, Below.refl _ _⟩
      case round =>
        obtain ⟨k, hk, rfl, hf, hB⟩ := hrel
        have HF := Lib.hid hf
        have HB' := Lib.hid hB
        clear hf hB
        by_cases hlt : k < S.length
        · obtain ⟨b1, o1, rfl, _, _, hxx⟩ := (HSS.out.fresh HB'.out).cell_ hlt
          have x0 := hxx 0 _ rfl
          simp only [Nat.add_zero, Nat.mul_one] at x0
          clear hxx
          have hfd := HF.out
          rw [List.drop_eq_getElem_cons hlt, forkOf_cons] at hfd
          have HFD := Lib.hid hfd
          clear hfd
          generalize S[k] = p at *
          have HBw := Lib.hid (HB5.out.trans (HB'.out.mono HB5.out.size))
          have hat := fun (wz : World) (hz : Below wr.heap.size wr wz) => at_any wz (fun _ => True) _ a ((HSA.out.fresh HBw.out).fresh hz) (by have := HLA.out; omega) p
          have hbt := fun (wz : World) (hz : Below wr.heap.size wr wz) => at_any wz (fun _ => True) _ b ((HSB.out.fresh HBw.out).fresh hz) (by have := HLB.out; omega) p
          have HAT := Lib.hid hat
          have HBT := Lib.hid hbt
          clear hat hbt
          go_wp2_with fail
          refine (HAT.out _ (Below.refl _ _)).mono ?_
          rintro x w6 ⟨rfl, hB6⟩
          have HB6 := Lib.hid hB6
          clear hB6 x0
          by_cases h1 : 1 ≤ p
          · have d1 : decide (p ≥ 1) = true := decide_eq_true h1
            by_cases h2 : p ≤ last
            · have d2 : decide (p ≤ last) = true := decide_eq_true h2
              have hw1 : wrap64 (p - 1) = p - 1 := by have := HL.out; unfold wrap64; omega
              by_cases h3 : atM a p = 0
              · have d3 : (atM a p == 0) = true := beq_iff_eq.2 h3
                go_wp2_with fail
                go_ret
                have hfd := HFD.out
                rw [if_pos (by simp [forkP, h1, h2, h3])] at hfd
                exact ⟨by rw [← hfd, hw1]; rfl, HBw.out.trans ((HB6.out).mono HBw.out.size)⟩
              · have d3 : (atM a p == 0) = false := beq_eq_false_iff_ne.2 h3
                go_wp2_with fail
                refine (HBT.out _ HB6.out).mono ?_
                rintro x w7 ⟨rfl, hB7⟩
                have HB7 := Lib.hid (HB6.out.trans (hB7.mono HB6.out.size))
                clear hB7
                by_cases h4 : atM a p = atM b p
                · have d4 : (atM a p != atM b p) = false := by rw [bne_eq_false_iff_eq]; exact h4
                  go_wp2_with fail
                  go_roundw
                  case rel =>
                    have hfd := HFD.out
                    rw [if_neg (by simp [forkP, ← h4, h3])] at hfd
                    exact ⟨k + 1, hlt, by go_num, hfd, HB'.out.trans (HB7.out.mono HB'.out.size)⟩
                  case measure => simp [intOf]; omega
                · have d4 : (atM a p != atM b p) = true := bne_iff_ne.2 h4
                  go_wp2_with fail
                  go_ret
                  have hfd := HFD.out
                  rw [if_pos (by simp [forkP, h1, h2, h3, h4])] at hfd
                  exact ⟨by rw [← hfd, hw1]; rfl, HBw.out.trans ((HB7.out).mono HBw.out.size)⟩
            · have d2 : decide (p ≤ last) = false := decide_eq_false h2
              go_wp2_with fail
              go_roundw
              case rel =>
                have hfd := HFD.out
                rw [if_neg (by simp [forkP]; omega)] at hfd
                exact ⟨k + 1, hlt, by go_num, hfd, HB'.out.trans (HB6.out.mono HB'.out.size)⟩
              case measure => simp [intOf]; omega
          · have d1 : decide (p ≥ 1) = false := decide_eq_false h1
            go_wp2_with fail
            go_roundw
            case rel =>
              have hfd := HFD.out
              rw [if_neg (by simp [forkP]; omega)] at hfd
              exact ⟨k + 1, hlt, by go_num, hfd, HB'.out.trans (HB6.out.mono HB'.out.size)⟩
            case measure => simp [intOf]; omega
        · have hkd : k = S.length := by omega
          subst hkd
          go_wp2_with fail
          go_ret
          have := HF.out
          rw [List.drop_length] at this
          exact ⟨by rw [← this]; rfl, HB5.out.trans (HB'.out.mono HB5.out.size)⟩
end Go.Proofs.YtimfoijajafdpaaDoor
