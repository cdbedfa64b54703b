/- The index: Range. -/
import Derived.Test.YtlfhokcjbgpjhaaGreatDoorIdxA
import Derived.Test.YtlfhokcjbgpjhaaGreatDoorBlB
namespace Go.Proofs.YtlfhokcjbgpjhaaGreatDoor.Idx
open Go.RowKit Go.Bl

theorem sizeKept (w : World) : (sizeOf 138).run Tryz.prog w = .ok 3 w := by kernel_rfl
theorem infoEv : (Tryz.prog.info? 66).map (fun i => (i.zero, i.size, i.bytes)) = some (some (.agg #[.string ByteArray.empty, .string ByteArray.empty]), 2, 32) := by kernel_rfl

set_option maxHeartbeats 400000 in
theorem range_any (w : World) (p : Nat) (L : List One) (F : Nat → Prop) (h : IdxAt w p L F) (s : ByteArray) (hs : s.size ≤ maxLen) (fr most : Int) (hb : L.length ≤ 1073741824) :
    Calls Tryz.prog 65 #[.pointer (some ⟨p, 0, none⟩), .string s, .int .i64 fr, .int .i64 most] w fun e w' => ∃ v, e = .returned v ∧ Below w.heap.size w w' ∧
      Sl w' (fun b => w.heap.size ≤ b) 2 evc v ((((ofS L s).drop (max fr 1 - 1).toNat).take most.toNat).map Kp.e) := by
  obtain ⟨bm, V, n, h⟩ := h
  have c0 := h.c0
  have hl := h.look s hs
  have hS := h.sl s
  have hle := ofS_le L s
  generalize ofS L s = l at hS hle ⊢
  obtain ⟨A, c, hv, h1, h2⟩ := hS.shape
  rw [hv] at hl hS
  have hF1 : 1 ≤ gmin (gmax fr 1) ((l.length : Int) + 1) := by simp only [gmin_def, gmax_def]; omega
  have hF2 : gmin (gmax fr 1) ((l.length : Int) + 1) ≤ (l.length : Int) + 1 := by simp only [gmin_def]; omega
  have hcut := run_cut_low (P := Tryz.prog) Tryz.underlying135 sizeKept A l.length c (gmin (gmax fr 1) ((l.length : Int) + 1) - 1) (by omega) (by omega)
  have hD := hS.drop_ (i := (gmin (gmax fr 1) ((l.length : Int) + 1) - 1).toNat) (by omega)
  have hdrop : l.drop (gmin (gmax fr 1) ((l.length : Int) + 1) - 1).toNat = l.drop (max fr 1 - 1).toNat := by
    by_cases hx : max fr 1 ≤ l.length + 1
    · simp only [gmin_def, gmax_def]; rw [Int.min_eq_left hx]
    · rw [List.drop_eq_nil_of_le (by simp only [gmin_def, gmax_def]; omega), List.drop_eq_nil_of_le (by omega)]
  rw [hdrop] at hD
  have hlen : ((l.length - (gmin (gmax fr 1) ((l.length : Int) + 1) - 1).toNat : Nat)) = (l.drop (max fr 1 - 1).toNat).length := hD.len_
  have hdl : (l.drop (max fr 1 - 1).toNat).length ≤ l.length := by rw [List.length_drop]; omega
  generalize l.drop (max fr 1 - 1).toNat = d at hD hlen hdl ⊢
  rw [hlen] at hcut hD
  generalize cutA A c (gmin (gmax fr 1) ((l.length : Int) + 1) - 1).toNat 3 = A' at hcut hD
  generalize c - (gmin (gmax fr 1) ((l.length : Int) + 1) - 1).toNat = c' at hcut hD
  have HD := Lib.hid hD
  have hmx := @run_gmax Tryz.prog
  have hmn := @run_gmin Tryz.prog
  clear hdrop hlen hv h hs hD hS
  unfold maxLen at h2
  go_enter Tryz.func65, Tryz.ntmps65
  go_wp2_with fail
  clear hmx hmn hcut hl c0
  obtain ⟨i0, hi0, hz0, hz1, hz2⟩ := info_parts infoEv
  go_loopw [10, 30] (fun v i wr => ∃ k : Nat, k ≤ d.length ∧ (k : Int) ≤ max most 0 ∧ i = .int .i64 k ∧ wr.ownsRow w.heap.size 66 2 v k (((d.take k).map Kp.e).flatMap evc) ∧ Below w.heap.size w wr) (fun _ i _ => d.length - (intOf i).toNat)
  case atStart => exact ⟨0, Nat.zero_le _, by omega, rfl, World.ownsRow_nil _ _ _ _, Below.refl _ _⟩
  case round =>
    obtain ⟨k, hk, hm, rfl, hrow, hB⟩ := hrel
    obtain ⟨a1, c1, rfl, hc1, hc2⟩ := row_shape hrow
    have Hrow := Lib.hid hrow
    clear hrow
    have hsz := hB.size
    by_cases hlt : k < d.length
    · obtain ⟨b, o, rfl, _, hbl, hc⟩ := HD.out.cell_ hlt
      have e0 := (hB.cell (p := ⟨b, _, none⟩) hbl).trans (hc 0 _ rfl)
      have e1 := (hB.cell (p := ⟨b, _, none⟩) hbl).trans (hc 1 _ rfl)
      have e2 := (hB.cell (p := ⟨b, _, none⟩) hbl).trans (hc 2 _ rfl)
      simp only [Nat.add_zero] at e0
      clear hc
      by_cases hmo : most ≤ (k : Int)
      · go_wp2_with fail
        go_ret
        have hB' := hB.alloc hsz (.cells #[.int .i64 d[k].pos, .string d[k].e.kind, .string d[k].e.data] 138)
        have hkm : most.toNat = k := by omega
        have h := (Hrow.out.alloc (.cells #[.int .i64 d[k].pos, .string d[k].e.kind, .string d[k].e.data] 138))
        have hl : ((d.take k).map Kp.e).length = k := by simp; omega
        rw [hkm]
        refine ⟨_, rfl, hB', ?_⟩
        have := Sl.of_own (enc := evc) (l := (d.take k).map Kp.e) (fun _ => rfl) (by rw [hl]; exact h)
        exact this.mono fun q hq hv => (h.lt q hv).1
      · have hnews : ∀ (j : Nat) (u : Value), ([.string d[k].e.kind, .string d[k].e.data] : List Value)[j]? = some u → ((wr.alloc (.cells #[.int .i64 d[k].pos, .string d[k].e.kind, .string d[k].e.data] 138)).alloc (.cells #[.string d[k].e.kind, .string d[k].e.data] 66)).cell? ((⟨wr.heap.size + 1, 0, none⟩ : Addr).add j) = some u := by
          have := World.news_of_block (cs := #[.string d[k].e.kind, .string d[k].e.data]) (t := 66) (fr := (0, 0)) (heap_alloc_new (wr.alloc (.cells #[.int .i64 d[k].pos, .string d[k].e.kind, .string d[k].e.data] 138)) _)
          simpa using this
        have Hnews := Lib.hid hnews
        clear hnews
        go_wp2_with (at_builtin; refine wpList_append_own _ rfl _ _ 38 rfl w.heap.size 66 i0 _ 2 32 Tryz.underlying38 hi0 hz0 hz1 hz2 rfl (by decide) _ _ _ rfl ((Hrow.out.alloc _).alloc _) ⟨wr.heap.size + 1, 0, none⟩ 1 1 [.string d[k].e.kind, .string d[k].e.data] rfl rfl Hnews.out (by simp [Value.oneCell']) (by unfold maxLen; omega) (by omega) (by simp; omega) ?_; intro v' w1 hown' hgrow _; have Hown := Lib.hid hown'; clear hown')
        go_roundw
        case rel =>
          refine ⟨k + 1, by omega, by omega, by go_num, ?_, ?_⟩
          · have := Hown.out
            rw [List.take_succ_eq_append_getElem hlt, List.map_append, List.flatMap_append]
            exact this
          · exact ((hB.alloc hsz _).alloc (by simp; omega) _).grown hgrow (by simp; omega) (fun q hq => (Hrow.out.lt q hq).1)
        case measure => simp [intOf]; omega
    · have hkd : k = d.length := by omega
      subst hkd
      go_wp2_with fail
      go_ret
      have h := Hrow.out
      have hl : (d.map Kp.e).length = d.length := by simp
      rw [List.take_of_length_le (Nat.le_refl _)] at h
      rw [List.take_of_length_le (by omega)]
      refine ⟨_, rfl, hB, ?_⟩
      have := Sl.of_own (enc := evc) (l := d.map Kp.e) (fun _ => rfl) (by rw [hl]; exact h)
      exact this.mono fun q hq hv => (h.lt q hv).1
end Go.Proofs.YtlfhokcjbgpjhaaGreatDoor.Idx
