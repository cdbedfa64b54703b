/- Dedup: Put. -/
import Derived.Test.YthdcnknjjbdefaaGreatDoorDedC
import Derived.Deep.CutBlock
import Derived.Deep.CutRange
import Derived.Deep.DeepCutAuto
namespace Go.Proofs.YthdcnknjjbdefaaGreatDoor.Ded
open Go.RowKit Go.Bl
attribute [local go_sem ↓] Go.wp_at_zero Go.wp_at_succ

def PutRel (w9 : World) (mo : Nat) (hi : Int) (ks : List Int) (O : List (Int × Nat)) (i : Value) (wr : World) : Prop :=
  ∃ k : Nat, k ≤ ks.length ∧ i = .int .i64 k ∧ Keeps (fun z => z = mo) w9 wr ∧ MapL wr Tryz.prog 3 intLit mo (rowsO (goneO (ks.take k) hi O))


set_option maxHeartbeats 2000000 in
theorem put_any (w : World) (p : Nat) (L : List En) (F G : Nat → Prop) (h : TabAt w p L F G) (x y : Int) (hx : i64 x) (hy : i64 y) (o : Oc) (hL : L.length ≤ 1000000) :
    Calls Tryz.prog 66 #[.pointer (some ⟨p, 0, none⟩), .int .i64 x, .int .i64 y, .agg #[.int .i64 o.code, .int .i64 o.pos, .int .i64 o.first, .int .i64 o.ver]] w fun e w' => e = .returned (.int .i64 (putL L x y o).2) ∧ Keeps G w w' ∧
      ∃ G', (∀ k, G' k → G k ∨ w.heap.size ≤ k) ∧ TabAt w' p (putL L x y o).1 (fun k => F k ∨ (w.heap.size ≤ k ∧ k < w'.heap.size)) G' := by
  have hkeep : ∀ w', Below w.heap.size w w' → Keeps G w w' ∧ ∃ G', (∀ k, G' k → G k ∨ w.heap.size ≤ k) ∧ TabAt w' p L (fun k => F k ∨ (w.heap.size ≤ k ∧ k < w'.heap.size)) G' := fun w' hB => by
    obtain ⟨bm, R, h1, h2⟩ := h.fresh hB
    exact ⟨Keeps.of_fresh hB G, G, fun k hk => .inl hk, bm, R, h1.mono (fun k hk => .inl hk) (fun k hk => by rcases hk with e | e; exact h1.lt k e; exact e.2), h2⟩
  have HKeep := Lib.hid hkeep
  clear hkeep
  by_cases hbad : x < 1 ∨ y < 1
  · rw [show putL L x y o = (L, 1) from if_pos hbad]
    by_cases hx1 : x < 1
    · clear h
      go_enter Tryz.func66, Tryz.ntmps66
      go_wp2_with fail
      go_ret
      exact ⟨rfl, HKeep.out _ ((Below.refl _ w).alloc (Nat.le_refl _) _)⟩
    · have hy1 : y < 1 := by omega
      clear h
      go_enter Tryz.func66, Tryz.ntmps66
      go_wp2_with fail
      go_ret
      exact ⟨rfl, HKeep.out _ ((Below.refl _ w).alloc (Nat.le_refl _) _)⟩
  · have hx1 : ¬ x < 1 := by omega
    have hy1 : ¬ y < 1 := by omega
    have hput : putL L x y o = if (lookL L x y).2 = 1 then (L, 7) else if (lookL L x y).2 = 2 then (L, 12) else (L ++ [⟨x, y, o⟩], 0) := if_neg hbad
    have hcs := lookL_cases L x y
    have hBo : Below w.heap.size w (w.alloc (.cells #[.int .i64 o.code, .int .i64 o.pos, .int .i64 o.first, .int .i64 o.ver] 34)) := (Below.refl _ w).alloc (Nat.le_refl _) _
    have hlook := look_any _ p L F G (h.fresh hBo) x y hx hy
    obtain ⟨lo, ln, hln⟩ : ∃ lo ln, lookL L x y = (lo, ln) := ⟨_, _, rfl⟩
    rw [hln] at hput hcs hlook
    unfold ocv at hlook
    have HLk := Lib.hid hlook
    have H := Lib.hid h
    have HBo := Lib.hid hBo
    have hbo := heap_alloc_new w (.cells #[.int .i64 o.code, .int .i64 o.pos, .int .i64 o.first, .int .i64 o.ver] 34)
    have HBO0 := Lib.hid hbo
    rcases hcs with ⟨hl, _, hnw, hfn⟩ | hl | hl
    · obtain rfl : ln = 0 := hl
      rw [if_neg (by simp), if_neg (by simp)] at hput
      rw [hput]
      clear hlook h hBo hbo hput hbad
      go_enter Tryz.func66, Tryz.ntmps66
      go_wp2_with fail
      refine HLk.out.mono ?_
      rintro e w2 ⟨rfl, hB2⟩
      have HB2 := Lib.hid (HBo.out.trans (hB2.mono (by simp)))
      have hbo2 := (Keeps.of_fresh hB2 (fun _ => False)).grownTo HBO0.out id
      have HBO2 := Lib.hid hbo2
      clear hB2 hbo2
      obtain ⟨bm, R, h, hR, hhas⟩ := H.out
      have hlF := h.lt
      have HLF := Lib.hid hlF
      go_upto_region 9 with (fail)
      have hB3 : Below w.heap.size w (w2.alloc (.cells #[.int .i64 lo.code, .int .i64 lo.pos, .int .i64 lo.first, .int .i64 lo.ver] 34)) := HB2.out.alloc HB2.out.size _
      have hbo3 := ((Keeps.refl (fun _ => False) w2).alloc (.cells #[.int .i64 lo.code, .int .i64 lo.pos, .int .i64 lo.first, .int .i64 lo.ver] 34)).grownTo HBO2.out id
      generalize w2.alloc (.cells #[.int .i64 lo.code, .int .i64 lo.pos, .int .i64 lo.first, .int .i64 lo.ver] 34) = w3 at hB3 hbo3 ⊢
      have h3 := (h.keep (Keeps.of_fresh hB3 fun _ => False) (fun _ _ => id))
      have c0 := h3.c0
      have hp3 := h3.lt p h3.fp
      have hbo3l : w.heap.size < w3.heap.size := (Array.getElem?_eq_some_iff.1 hbo3).1
      have HB3 := Lib.hid hB3
      have HBO3 := Lib.hid hbo3
      clear HLk HBo HBO0 HB2 HBO2 h HKeep hB3 hbo3 hlF
      by_cases hrow : ∃ r ∈ R, r.n = x
      · obtain ⟨r, hr, rfl⟩ := hrow
        have hl3 := h3.lookS hr hx
        have h6 := h3.mono (F' := fun k => F k ∨ (w.heap.size ≤ k ∧ k < w3.heap.size)) (fun k hk => .inl hk) (fun k hk => by rcases hk with e | e; exact h3.lt k e; exact e.2)
        have hsz6 := HB3.out.size
        have hFbo : F w.heap.size ∨ (w.heap.size ≤ w.heap.size ∧ w.heap.size < w3.heap.size) := .inr ⟨Nat.le_refl _, hbo3l⟩
        have hGbo : ¬ G w.heap.size := fun e => Nat.lt_irrefl _ (HLF.out _ (h3.gf _ e))
        have HKW := Lib.hid (Keeps.of_fresh HB3.out G)
        have hG6 : ∀ k, G k → G k ∨ w.heap.size ≤ k := fun k hk => .inl hk
        have hR6 : R.length ≤ L.length + 1 := by omega
        have hH7 : Hid (∀ s ∈ R, s.n ≠ r.n → ∃ e ∈ L, e.ses = s.n) := Lib.hid (fun s hs _ => hhas s hs)
        have HBO := HBO3
        obtain ⟨w6, hw6⟩ : ∃ w6, w6 = w3 := ⟨_, rfl⟩
        subst hw6
        clear h3 hbo3l HBO3
        have s := h6.ses r hr
        have s0 := s.c0
        have s1 := s.c1
        have hrl := h6.lt _ (h6.gf _ (h6.gb r hr).1)
        have hml := s.map.lt
        have hne : r.b ≠ r.mo := fun e => s.map.not_cells (e ▸ s.blk)
        have hno : ∀ q ∈ r.O, q.1 ≠ y := fun q hq e => by
          obtain ⟨_, o2, h2, _⟩ := s.out q hq
          rw [e, hfn] at h2
          cases h2
        obtain ⟨w7, hrun7, hmap7, hgr7, hsz7, hdr7⟩ := s.map.store lawI intLit_inj Tryz.underlying136 (by have := s.olen; simp only [rowsO, List.length_map]; unfold maxLen; omega) (x := y) (keyI hy) (getO_none hno) (.pointer (some ⟨w.heap.size, 0, none⟩))
        have hg7 : Keeps (fun z => z = r.mo) w6 w7 := (Keeps.of_grown hgr7).mono (fun k _ e => (by simpa using e.symm))
        have hblk7 := hg7.grownTo s.blk hne
        have s0' : w7.cell? ⟨r.b, 0, none⟩ = some (.int .i64 (highL L r.n)) := cell_of_row w7 r.b 0 _ _ _ hblk7
        have s1' : w7.cell? ⟨r.b, 1, none⟩ = some (.map (some r.mo)) := cell_of_row w7 r.b 1 _ _ _ hblk7
        have f0' : w7.frozen? ⟨r.b, 0, none⟩ = false := frozen_block hblk7 0
        obtain ⟨hi, hhi⟩ : ∃ hi, gmax (highL L r.n) y = hi := ⟨_, rfl⟩
        have hmx := @run_gmax Tryz.prog
        have hk8 : Keeps (fun z => z = r.b ∨ z = r.mo) w6 (w7.setCell ⟨r.b, 0, none⟩ (.int .i64 hi)) := (hg7.mono (fun _ _ e => .inr e)).setCell (p := ⟨r.b, 0, none⟩) (fun _ => .inl rfl) _
        have hblk8 := setCell_block (o := 0) hblk7 (.int .i64 hi)
        have hmap8 := hmap7.keep (Keeps.one w7 r.b 0 (.int .i64 hi)) (Ne.symm hne)
        have hH6 := Lib.hid h6
        have hS := Lib.hid s
        have HN := Lib.hid hno
        clear s h6 hblk7 hmap7 hgr7 hg7 hno hdr7
        go_wp2_with fail
        generalize w7.setCell ⟨r.b, 0, none⟩ (.int .i64 hi) = w8 at hk8 hblk8 hmap8 ⊢
        clear s0' s1' f0' hrun7 s0 s1
        have hA : rowsO r.O ++ [(y, Value.pointer (some ⟨w.heap.size, 0, none⟩))] = rowsO (r.O ++ [(y, w.heap.size)]) := by simp [rowsO, ptr]
        rw [hA] at hmap8
        have hsort := sortedO_rows r.mo _ w8 hmap8 (by have := hS.out.olen; simp [rowsO]; omega)
        have HSo := Lib.hid hsort
        have HM8 := Lib.hid hmap8
        have HB8 := Lib.hid hblk8
        have HK8 := Lib.hid hk8
        clear hsort hmap8 hA hblk8
        have t0 : w8.cell? ⟨r.b, 0, none⟩ = some (.int .i64 hi) := cell_of_row w8 r.b 0 _ _ _ HB8.out
        have t1 : w8.cell? ⟨r.b, 1, none⟩ = some (.map (some r.mo)) := cell_of_row w8 r.b 1 _ _ _ HB8.out
        have hrl8 : r.b < w8.heap.size := Nat.lt_of_lt_of_le hrl hk8.size
        clear hk8
        refine (keysO_call _ _).mono ?_
        rintro e w9 ⟨rfl, rfl⟩
        go_wp2_with fail
        refine HSo.out.mono ?_
        rintro e w9 ⟨v1, ks, rfl, hrise, hkm, hkl, hS1, hB9⟩
        obtain ⟨A1, c1, rfl, hc1, hc2⟩ := hS1.shape
        unfold maxLen at hc2
        have HS1 := Lib.hid hS1
        have HB9 := Lib.hid hB9
        have hml8 := HM8.out.lt
        clear hS1 hB9
        have hwrap : IntKind.i64.wrap (hi - 8) = hi - 8 := IntWalk.i64_in _ (by have := highL_in hH6.out.ok r.n; rw [← hhi, gmax_def]; unfold i64 at hy; omega)
        have hks : ∀ z, z ∈ ks ↔ ∃ q ∈ r.O ++ [(y, w.heap.size)], q.1 = z := fun z => by
          rw [hkm]
          constructor
          · rintro ⟨q, hq, rfl⟩
            obtain ⟨q, hq2, rfl⟩ := List.mem_map.1 hq
            exact ⟨q, hq2, rfl⟩
          · rintro ⟨q, hq, rfl⟩
            exact ⟨_, List.mem_map.2 ⟨q, hq, rfl⟩, rfl⟩
        have hkn : ks.length ≤ 2000000 := by have := hS.out.olen; rw [hkl]; simp [rowsO]; omega
        have HKS := Lib.hid hks
        clear hkm hkl hks hrise HSo
        go_wp2_with fail
        go_loopw [70] (fun i wr => PutRel w9 r.mo hi ks (r.O ++ [(y, w.heap.size)]) i wr) (fun i _ => ks.length - (Go.RowKit.intOf i).toNat)
        case atStart =>
          exact ⟨0, Nat.zero_le _, rfl, Keeps.refl _ _, by rw [List.take_zero, goneO_nil]; exact HM8.out.keep (G := fun _ => False) (Keeps.of_fresh HB9.out _) id⟩
        case round =>
          obtain ⟨k, hk, rfl, hKr, hMr⟩ := hrel
          have u0 : wr.cell? ⟨r.b, 0, none⟩ = some (.int .i64 hi) := (hKr.cell (a := ⟨r.b, 0, none⟩) (Nat.lt_of_lt_of_le hrl8 HB9.out.size) hne).trans ((HB9.out.cell (p := ⟨r.b, 0, none⟩) hrl8).trans t0)
          have u1 : wr.cell? ⟨r.b, 1, none⟩ = some (.map (some r.mo)) := (hKr.cell (a := ⟨r.b, 1, none⟩) (Nat.lt_of_lt_of_le hrl8 HB9.out.size) hne).trans ((HB9.out.cell (p := ⟨r.b, 1, none⟩) hrl8).trans t1)
          have HKr := Lib.hid hKr
          have HMr := Lib.hid hMr
          clear hKr hMr
          by_cases hlt : k < ks.length
          · obtain ⟨bk, ok, rfl, hFk, hbk, hck⟩ := HS1.out.cell_ hlt
            have v0 := (HKr.out.cell (a := ⟨bk, _, none⟩) hbk (fun e => by have e : bk = r.mo := e; omega)).trans (hck 0 _ rfl)
            simp only [Nat.add_zero, Nat.mul_one] at v0
            clear hck
            by_cases hdel : ks[k] ≤ hi - 8
            · have hki : i64 ks[k] := by
                have := (HKS.out ks[k]).1 (List.getElem_mem hlt)
                obtain ⟨q, hq, e⟩ := this
                rw [← e]
                rcases List.mem_append.1 hq with hq | hq
                · obtain ⟨_, o2, h2, _⟩ := hS.out.out q hq
                  obtain ⟨en, he, _⟩ := Option.map_eq_some_iff.1 h2
                  have h3 := List.find?_some he
                  have h4 := hH6.out.ok.seq en (List.mem_of_find?_eq_some he)
                  simp only [Bool.and_eq_true, decide_eq_true_eq] at h3
                  unfold i64; omega
                · obtain rfl := List.mem_singleton.1 hq; exact hy
              obtain ⟨w10, hrun, hmap, hgr, hsz, hdr⟩ := HMr.out.delete lawI intLit_inj Tryz.underlying136 (x := ks[k]) (keyI hki) 0
              have hg := Keeps.of_grown hgr
              have HG := Lib.hid hg
              have HMP := Lib.hid hmap
              clear hg hmap hgr
              go_wp2_with fail
              go_roundw
              case rel =>
                refine ⟨k + 1, hlt, by go_num, HKr.out.trans (HG.out.mono (fun z _ e => by simpa using e.symm)), ?_⟩
                have hm := HMP.out
                rw [rowsO_del, goneO_del _ _ _ _ hdel, ← List.take_succ_eq_append_getElem hlt] at hm
                exact hm
              case measure => simp [Go.RowKit.intOf]; omega
            · go_wp2_with fail
              go_roundw
              case rel =>
                refine ⟨k + 1, hlt, by go_num, HKr.out, ?_⟩
                rw [List.take_succ_eq_append_getElem hlt, ← goneO_skip _ _ _ _ hdel]
                exact HMr.out
              case measure => simp [Go.RowKit.intOf]; omega
          · have hkd : k = ks.length := by omega
            subst hkd
            go_wp2_with fail
            go_ret
            have hm := HMr.out
            rw [List.take_length] at hm
            have hKall : Keeps (fun z => z = r.b ∨ z = r.mo) w6 wr := (HK8.out.trans (Keeps.of_fresh HB9.out _)).andThen HKr.out (fun z _ e => .inr e)
            have hfin := put_done (F' := fun k => F k ∨ (w.heap.size ≤ k ∧ k < wr.heap.size)) hH6.out hr HBO.out hFbo hGbo (by unfold i64 at hx; omega) (by unfold i64 at hy; omega) hnw hfn (by rw [← hhi, gmax_def]) hKall
              (HKr.out.grownTo ((Keeps.of_fresh HB9.out (fun _ => False)).grownTo HB8.out id) hne) HKS.out hm
              (fun z hz => by rcases hz with e | e; exact .inl e; exact .inr ⟨e.1, Nat.lt_of_lt_of_le e.2 hKall.size⟩)
              (fun z hz => by rcases hz with e | e; exact Nat.lt_of_lt_of_le (HLF.out z e) (Nat.le_trans hsz6 hKall.size); exact e.2)
            refine ⟨rfl, HKW.out.andThen hKall (fun z hz e => ?_), _, hG6, bm, _, hfin, ?_, ?_⟩
            · rcases e with e | e
              · exact (hG6 _ (e ▸ (hH6.out.gb r hr).1)).resolve_right (by omega)
              · exact (hG6 _ (e ▸ (hH6.out.gb r hr).2)).resolve_right (by omega)
            · rw [List.length_map]; simpa using hR6
            · intro s' hs'
              obtain ⟨s, hs, rfl⟩ := List.mem_map.1 hs'
              have hsn : (if s.b = r.b then ({ s with O := goneO ks hi (r.O ++ [(y, w.heap.size)]) } : SRow) else s).n = s.n := by split <;> rfl
              rw [hsn]
              by_cases hsr : s.n = r.n
              · exact ⟨_, List.mem_append_right _ (List.mem_singleton.2 rfl), hsr.symm⟩
              · obtain ⟨en, he, e2⟩ := hH7.out s hs hsr
                exact ⟨en, List.mem_append_left _ he, e2⟩
      · have hn : ∀ r ∈ R, r.n ≠ x := fun r hr e => hrow ⟨r, hr, e⟩
        have hl3 := h3.lookN hn hx
        have hmm := @run_makeMap Tryz.prog
        have hbmne : bm ≠ w3.heap.size + 1 := fun e => by have := h3.map.lt; omega
        have hbmne2 : bm ≠ w3.heap.size := fun e => by have := h3.map.lt; omega
        have hkA : Keeps (fun z => z = bm) w3 ((w3.alloc (.map #[] 0)).alloc (.cells #[.int .i64 0, .map (some w3.heap.size)] 138)) := ((Keeps.refl _ w3).alloc _).alloc _
        have hmapA := h3.map.keep (G := fun _ => False) (((Keeps.refl _ w3).alloc (.map #[] 0)).alloc (.cells #[.int .i64 0, .map (some w3.heap.size)] 138)) id
        have hmadeA : MapL ((w3.alloc (.map #[] 0)).alloc (.cells #[.int .i64 0, .map (some w3.heap.size)] 138)) Tryz.prog 3 intLit w3.heap.size [] := (MapL.made w3 Tryz.prog 3 intLit).keep (G := fun _ => False) ((Keeps.refl _ _).alloc _) id
        have hblkA : ((w3.alloc (.map #[] 0)).alloc (.cells #[.int .i64 0, .map (some w3.heap.size)] 138)).heap[w3.heap.size + 1]? = some (.cells #[.int .i64 0, .map (some w3.heap.size)] 138 (0, 0)) := by
          have := heap_alloc_new (w3.alloc (.map #[] 0)) (.cells #[.int .i64 0, .map (some w3.heap.size)] 138)
          rwa [World.size_alloc] at this
        obtain ⟨w6, hrun6, hmap6, hgr6, hszA, hdr6⟩ := hmapA.store lawI intLit_inj Tryz.underlying128 (by simp only [rowsS, List.length_map]; unfold maxLen; omega) (x := x) (keyI hx) (getS_none hn) (.pointer (some ⟨w3.heap.size + 1, 0, none⟩))
        have hg6 : Keeps (fun z => z = bm) _ w6 := (Keeps.of_grown hgr6).mono (fun k _ e => (by simpa using e.symm))
        have hblk6 := hg6.grownTo hblkA (Ne.symm hbmne)
        have hmade6 := hmadeA.keep hg6 (Ne.symm hbmne2)
        have hsz6A : w3.heap.size + 2 = w6.heap.size := by rw [hszA]; simp
        have hk6 := hkA.trans hg6
        have h6 := put_new (F' := fun k => F k ∨ (w.heap.size ≤ k ∧ k < w6.heap.size)) (h3.mono (F' := fun k => F k ∨ (w.heap.size ≤ k ∧ k < w3.heap.size)) (fun k hk => .inl hk) (fun k hk => by rcases hk with e | e; exact h3.lt k e; exact e.2)) hn (b := w3.heap.size + 1) (mo := w3.heap.size) (Nat.le_refl _) (Nat.le_succ _) (by omega) hk6 hmap6 hblk6 hmade6
          (fun k => by
            have h1 := HB3.out.size
            constructor
            · rintro (e | e)
              · exact .inl (.inl e)
              · by_cases hk : k < w3.heap.size
                · exact .inl (.inr ⟨e.1, hk⟩)
                · exact .inr ⟨by omega, e.2⟩
            · rintro ((e | e) | e)
              · exact .inl e
              · exact .inr ⟨e.1, by omega⟩
              · exact .inr ⟨by omega, e.2⟩)
        have HBO := Lib.hid (hk6.grownTo HBO3.out (fun e => Nat.lt_irrefl _ (HLF.out _ (by have := h3.gf _ h3.gm; rw [← e] at this; exact this))))
        have hbmW : G bm := h3.gm
        have hGlt : ∀ k, G k → k < w.heap.size := fun k hk => HLF.out _ (h3.gf _ hk)
        have HGlt := Lib.hid hGlt
        have HK6 := Lib.hid hk6
        have H6 := Lib.hid h6
        clear hkA hmapA hmadeA hblkA hmap6 hgr6 hg6 hblk6 hmade6 h3 hGlt hk6 h6 hszA hdr6
        go_upto_region 13 with (fail)
        obtain ⟨b, hb⟩ : ∃ b, w3.heap.size + 1 = b := ⟨_, rfl⟩
        rw [hb]
        have h6 := H6.out
        rw [hb] at h6
        obtain ⟨r, hreq⟩ : ∃ r : SRow, r = ⟨x, b, w3.heap.size, []⟩ := ⟨_, rfl⟩
        rw [← hreq] at h6
        have hrx : x = r.n := by rw [hreq]
        have hrb : b = r.b := by rw [hreq]
        have hrm : w3.heap.size = r.mo := by rw [hreq]
        clear hreq H6
        subst hrx
        subst hrb
        rw [hrm] at h6
        have hr : r ∈ R ++ [r] := List.mem_append_right _ (List.mem_singleton.2 rfl)
        have hsz3 := HB3.out.size
        have hsz6 : w.heap.size ≤ w6.heap.size := by omega
        have hFbo : F w.heap.size ∨ (w.heap.size ≤ w.heap.size ∧ w.heap.size < w6.heap.size) := .inr ⟨Nat.le_refl _, by omega⟩
        have hGbo : ¬ (G w.heap.size ∨ w.heap.size = r.b ∨ w.heap.size = r.mo) := fun e => by
          rcases e with e | e | e
          · exact Nat.lt_irrefl _ (HGlt.out _ e)
          · omega
          · omega
        have HKW := Lib.hid ((Keeps.of_fresh HB3.out G).andThen HK6.out (fun z _ e => e ▸ hbmW))
        have hG6 : ∀ k, (G k ∨ k = r.b ∨ k = r.mo) → G k ∨ w.heap.size ≤ k := fun k hk => by
          rcases hk with e | e | e
          · exact .inl e
          · exact .inr (by omega)
          · exact .inr (by omega)
        have hR6 : (R ++ [r]).length ≤ L.length + 1 := by simp; omega
        have hH7 : Hid (∀ s ∈ R ++ [r], s.n ≠ r.n → ∃ e ∈ L, e.ses = s.n) := Lib.hid (fun s hs hne => by
          rcases List.mem_append.1 hs with hs | hs
          · exact hhas s hs
          · exact absurd (by rw [List.mem_singleton.1 hs]) hne)
        clear hb hsz6A hrun6 hl3 hmm HBO3 hn hrow
        have s := h6.ses r hr
        have s0 := s.c0
        have s1 := s.c1
        have hrl := h6.lt _ (h6.gf _ (h6.gb r hr).1)
        have hml := s.map.lt
        have hne : r.b ≠ r.mo := fun e => s.map.not_cells (e ▸ s.blk)
        have hno : ∀ q ∈ r.O, q.1 ≠ y := fun q hq e => by
          obtain ⟨_, o2, h2, _⟩ := s.out q hq
          rw [e, hfn] at h2
          cases h2
        obtain ⟨w7, hrun7, hmap7, hgr7, hsz7, hdr7⟩ := s.map.store lawI intLit_inj Tryz.underlying136 (by have := s.olen; simp only [rowsO, List.length_map]; unfold maxLen; omega) (x := y) (keyI hy) (getO_none hno) (.pointer (some ⟨w.heap.size, 0, none⟩))
        have hg7 : Keeps (fun z => z = r.mo) w6 w7 := (Keeps.of_grown hgr7).mono (fun k _ e => (by simpa using e.symm))
        have hblk7 := hg7.grownTo s.blk hne
        have s0' : w7.cell? ⟨r.b, 0, none⟩ = some (.int .i64 (highL L r.n)) := cell_of_row w7 r.b 0 _ _ _ hblk7
        have s1' : w7.cell? ⟨r.b, 1, none⟩ = some (.map (some r.mo)) := cell_of_row w7 r.b 1 _ _ _ hblk7
        have f0' : w7.frozen? ⟨r.b, 0, none⟩ = false := frozen_block hblk7 0
        obtain ⟨hi, hhi⟩ : ∃ hi, gmax (highL L r.n) y = hi := ⟨_, rfl⟩
        have hmx := @run_gmax Tryz.prog
        have hk8 : Keeps (fun z => z = r.b ∨ z = r.mo) w6 (w7.setCell ⟨r.b, 0, none⟩ (.int .i64 hi)) := (hg7.mono (fun _ _ e => .inr e)).setCell (p := ⟨r.b, 0, none⟩) (fun _ => .inl rfl) _
        have hblk8 := setCell_block (o := 0) hblk7 (.int .i64 hi)
        have hmap8 := hmap7.keep (Keeps.one w7 r.b 0 (.int .i64 hi)) (Ne.symm hne)
        have hH6 := Lib.hid h6
        have hS := Lib.hid s
        have HN := Lib.hid hno
        clear s h6 hblk7 hmap7 hgr7 hg7 hno hdr7
        go_wp2_with fail
        generalize w7.setCell ⟨r.b, 0, none⟩ (.int .i64 hi) = w8 at hk8 hblk8 hmap8 ⊢
        clear s0' s1' f0' hrun7 s0 s1
        have hA : rowsO r.O ++ [(y, Value.pointer (some ⟨w.heap.size, 0, none⟩))] = rowsO (r.O ++ [(y, w.heap.size)]) := by simp [rowsO, ptr]
        rw [hA] at hmap8
        have hsort := sortedO_rows r.mo _ w8 hmap8 (by have := hS.out.olen; simp [rowsO]; omega)
        have HSo := Lib.hid hsort
        have HM8 := Lib.hid hmap8
        have HB8 := Lib.hid hblk8
        have HK8 := Lib.hid hk8
        clear hsort hmap8 hA hblk8
        have t0 : w8.cell? ⟨r.b, 0, none⟩ = some (.int .i64 hi) := cell_of_row w8 r.b 0 _ _ _ HB8.out
        have t1 : w8.cell? ⟨r.b, 1, none⟩ = some (.map (some r.mo)) := cell_of_row w8 r.b 1 _ _ _ HB8.out
        have hrl8 : r.b < w8.heap.size := Nat.lt_of_lt_of_le hrl hk8.size
        clear hk8
        refine (keysO_call _ _).mono ?_
        rintro e w9 ⟨rfl, rfl⟩
        go_wp2_with fail
        refine HSo.out.mono ?_
        rintro e w9 ⟨v1, ks, rfl, hrise, hkm, hkl, hS1, hB9⟩
        obtain ⟨A1, c1, rfl, hc1, hc2⟩ := hS1.shape
        unfold maxLen at hc2
        have HS1 := Lib.hid hS1
        have HB9 := Lib.hid hB9
        have hml8 := HM8.out.lt
        clear hS1 hB9
        have hwrap : IntKind.i64.wrap (hi - 8) = hi - 8 := IntWalk.i64_in _ (by have := highL_in hH6.out.ok r.n; rw [← hhi, gmax_def]; unfold i64 at hy; omega)
        have hks : ∀ z, z ∈ ks ↔ ∃ q ∈ r.O ++ [(y, w.heap.size)], q.1 = z := fun z => by
          rw [hkm]
          constructor
          · rintro ⟨q, hq, rfl⟩
            obtain ⟨q, hq2, rfl⟩ := List.mem_map.1 hq
            exact ⟨q, hq2, rfl⟩
          · rintro ⟨q, hq, rfl⟩
            exact ⟨_, List.mem_map.2 ⟨q, hq, rfl⟩, rfl⟩
        have hkn : ks.length ≤ 2000000 := by have := hS.out.olen; rw [hkl]; simp [rowsO]; omega
        have HKS := Lib.hid hks
        clear hkm hkl hks hrise HSo
        go_wp2_with fail
        go_loopw [70] (fun i wr => PutRel w9 r.mo hi ks (r.O ++ [(y, w.heap.size)]) i wr) (fun i _ => ks.length - (Go.RowKit.intOf i).toNat)
        case atStart =>
          exact ⟨0, Nat.zero_le _, rfl, Keeps.refl _ _, by rw [List.take_zero, goneO_nil]; exact HM8.out.keep (G := fun _ => False) (Keeps.of_fresh HB9.out _) id⟩
        case round =>
          obtain ⟨k, hk, rfl, hKr, hMr⟩ := hrel
          have u0 : wr.cell? ⟨r.b, 0, none⟩ = some (.int .i64 hi) := (hKr.cell (a := ⟨r.b, 0, none⟩) (Nat.lt_of_lt_of_le hrl8 HB9.out.size) hne).trans ((HB9.out.cell (p := ⟨r.b, 0, none⟩) hrl8).trans t0)
          have u1 : wr.cell? ⟨r.b, 1, none⟩ = some (.map (some r.mo)) := (hKr.cell (a := ⟨r.b, 1, none⟩) (Nat.lt_of_lt_of_le hrl8 HB9.out.size) hne).trans ((HB9.out.cell (p := ⟨r.b, 1, none⟩) hrl8).trans t1)
          have HKr := Lib.hid hKr
          have HMr := Lib.hid hMr
          clear hKr hMr
          by_cases hlt : k < ks.length
          · obtain ⟨bk, ok, rfl, hFk, hbk, hck⟩ := HS1.out.cell_ hlt
            have v0 := (HKr.out.cell (a := ⟨bk, _, none⟩) hbk (fun e => by have e : bk = r.mo := e; omega)).trans (hck 0 _ rfl)
            simp only [Nat.add_zero, Nat.mul_one] at v0
            clear hck
            by_cases hdel : ks[k] ≤ hi - 8
            · have hki : i64 ks[k] := by
                have := (HKS.out ks[k]).1 (List.getElem_mem hlt)
                obtain ⟨q, hq, e⟩ := this
                rw [← e]
                rcases List.mem_append.1 hq with hq | hq
                · obtain ⟨_, o2, h2, _⟩ := hS.out.out q hq
                  obtain ⟨en, he, _⟩ := Option.map_eq_some_iff.1 h2
                  have h3 := List.find?_some he
                  have h4 := hH6.out.ok.seq en (List.mem_of_find?_eq_some he)
                  simp only [Bool.and_eq_true, decide_eq_true_eq] at h3
                  unfold i64; omega
                · obtain rfl := List.mem_singleton.1 hq; exact hy
              obtain ⟨w10, hrun, hmap, hgr, hsz, hdr⟩ := HMr.out.delete lawI intLit_inj Tryz.underlying136 (x := ks[k]) (keyI hki) 0
              have hg := Keeps.of_grown hgr
              have HG := Lib.hid hg
              have HMP := Lib.hid hmap
              clear hg hmap hgr
              go_wp2_with fail
              go_roundw
              case rel =>
                refine ⟨k + 1, hlt, by go_num, HKr.out.trans (HG.out.mono (fun z _ e => by simpa using e.symm)), ?_⟩
                have hm := HMP.out
                rw [rowsO_del, goneO_del _ _ _ _ hdel, ← List.take_succ_eq_append_getElem hlt] at hm
                exact hm
              case measure => simp [Go.RowKit.intOf]; omega
            · go_wp2_with fail
              go_roundw
              case rel =>
                refine ⟨k + 1, hlt, by go_num, HKr.out, ?_⟩
                rw [List.take_succ_eq_append_getElem hlt, ← goneO_skip _ _ _ _ hdel]
                exact HMr.out
              case measure => simp [Go.RowKit.intOf]; omega
          · have hkd : k = ks.length := by omega
            subst hkd
            go_wp2_with fail
            go_ret
            have hm := HMr.out
            rw [List.take_length] at hm
            have hKall : Keeps (fun z => z = r.b ∨ z = r.mo) w6 wr := (HK8.out.trans (Keeps.of_fresh HB9.out _)).andThen HKr.out (fun z _ e => .inr e)
            have hfin := put_done (F' := fun k => F k ∨ (w.heap.size ≤ k ∧ k < wr.heap.size)) hH6.out hr HBO.out hFbo hGbo (by unfold i64 at hx; omega) (by unfold i64 at hy; omega) hnw hfn (by rw [← hhi, gmax_def]) hKall
              (HKr.out.grownTo ((Keeps.of_fresh HB9.out (fun _ => False)).grownTo HB8.out id) hne) HKS.out hm
              (fun z hz => by rcases hz with e | e; exact .inl e; exact .inr ⟨e.1, Nat.lt_of_lt_of_le e.2 hKall.size⟩)
              (fun z hz => by rcases hz with e | e; exact Nat.lt_of_lt_of_le (HLF.out z e) (Nat.le_trans hsz6 hKall.size); exact e.2)
            refine ⟨rfl, HKW.out.andThen hKall (fun z hz e => ?_), _, hG6, bm, _, hfin, ?_, ?_⟩
            · rcases e with e | e
              · exact (hG6 _ (e ▸ (hH6.out.gb r hr).1)).resolve_right (by omega)
              · exact (hG6 _ (e ▸ (hH6.out.gb r hr).2)).resolve_right (by omega)
            · rw [List.length_map]; simpa using hR6
            · intro s' hs'
              obtain ⟨s, hs, rfl⟩ := List.mem_map.1 hs'
              have hsn : (if s.b = r.b then ({ s with O := goneO ks hi (r.O ++ [(y, w.heap.size)]) } : SRow) else s).n = s.n := by split <;> rfl
              rw [hsn]
              by_cases hsr : s.n = r.n
              · exact ⟨_, List.mem_append_right _ (List.mem_singleton.2 rfl), hsr.symm⟩
              · obtain ⟨en, he, e2⟩ := hH7.out s hs hsr
                exact ⟨en, List.mem_append_left _ he, e2⟩
    · obtain rfl : ln = 1 := hl
      rw [if_pos rfl] at hput
      rw [hput]
      clear hlook h hBo hbo hput hbad
      go_enter Tryz.func66, Tryz.ntmps66
      go_wp2_with fail
      refine HLk.out.mono ?_
      rintro e w2 ⟨rfl, hB2⟩
      have HB2 := Lib.hid (HBo.out.trans (hB2.mono (by simp)))
      have hbo2 := (Keeps.of_fresh hB2 (fun _ => False)).grownTo HBO0.out id
      have HBO2 := Lib.hid hbo2
      clear hB2 hbo2
      go_wp2_with fail
      go_ret
      exact ⟨rfl, HKeep.out _ (HB2.out.alloc HB2.out.size _)⟩
    · obtain rfl : ln = 2 := hl
      rw [if_neg (by simp), if_pos rfl] at hput
      rw [hput]
      clear hlook h hBo hbo hput hbad
      go_enter Tryz.func66, Tryz.ntmps66
      go_wp2_with fail
      refine HLk.out.mono ?_
      rintro e w2 ⟨rfl, hB2⟩
      have HB2 := Lib.hid (HBo.out.trans (hB2.mono (by simp)))
      have hbo2 := (Keeps.of_fresh hB2 (fun _ => False)).grownTo HBO0.out id
      have HBO2 := Lib.hid hbo2
      clear hB2 hbo2
      go_wp2_with fail
      go_ret
      exact ⟨rfl, HKeep.out _ (HB2.out.alloc HB2.out.size _)⟩
end Go.Proofs.YthdcnknjjbdefaaGreatDoor.Ded
