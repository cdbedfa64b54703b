/- The index: Clone: a copy that shares nothing. -/
import Derived.Test.YtlfhokcjbgpjhaaGreatDoorIdxC
import Derived.Test.YtlfhokcjbgpjhaaGreatDoorBlN
import Derived.Test.YtlfhokcjbgpjhaaGreatDoorBlL
import Derived.Test.YtlfhokcjbgpjhaaGreatDoorBlP
import Derived.Deep.CutBlock
import Derived.Deep.DeepCutAuto
import Derived.Test.YtlfhokcjbgpjhaaGreatDoorLayC
import Derived.Deep.RegionHeld3
import Derived.Deep.DrawnRows
namespace Go.Proofs.YtlfhokcjbgpjhaaGreatDoor.Idx
open Go.RowKit Go.Bl Go.Shelf
attribute [local go_sem ↓] Go.wp_at_zero Go.wp_at_succ

theorem kpc_one (x : Kp) (u : Value) (h : u ∈ kpc x) : u.oneCell' = true := by
  simp only [kpc, List.mem_cons, List.not_mem_nil, or_false] at h
  rcases h with rfl | rfl | rfl <;> rfl
theorem elKept : El Tryz.prog 135 138 3 40 kpc := ⟨Tryz.underlying135, ⟨_, infoKept, rfl⟩, by decide, by decide, fun _ => rfl, kpc_one⟩

theorem keyStr {key : Value} {kl : Lit} (h : keyOf Tryz.prog 9 key = some kl) : ∃ x : ByteArray, key = .string x ∧ kl = strLit x := by
  have hk : Tryz.prog.underlying 9 = some .string := Tryz.underlying9
  cases key <;> simp [keyOf, hk, mapKey] at h
  exact ⟨_, rfl, h.2.symm⟩

/-- What has been copied of an index; 'left' are the streams still to come: cnt of them. -/
structure CopyV (w wr : World) (L : List One) (ev : Int) (bm n : Nat) (V : ByteArray → Value) (left : ByteArray → Bool) (cnt n' : Nat) (V' : ByteArray → Value) : Prop where
  rng : RangeV wr Tryz.prog 9 strLit bm (w.heap.size + 2) n (fun s => if ofS L s = [] then none else some (V s)) left cnt
  map : MapV wr Tryz.prog 9 strLit w.heap.size n' (fun s => if ofS L s = [] ∨ left s = true then none else some (V' s))
  sum : n' + cnt ≤ n
  cb : wr.heap[w.heap.size + 1]? = some (.cells #[.map (some w.heap.size), .int .i64 ev] 134 (0, 0))
  rows : ∀ s, ¬ (ofS L s = [] ∨ left s = true) → Own wr (w.heap.size + 3) 138 3 kpc (V' s) (ofS L s)
  nil : ∀ s, (ofS L s = [] ∨ left s = true) → V' s = .slice none 0 0
  apart : ∀ s t b, (V' s).ownBlock = some b → (V' t).ownBlock = some b → s = t
  blw : Below w.heap.size w wr

theorem copyV_end {w wr : World} {p : Nat} {L : List One} {F : Nat → Prop} {bm n : Nat} {V V' : ByteArray → Value} {left : ByteArray → Bool} {cnt n' : Nat} (h : IdxIn w p L L.length F bm V n) (hc : CopyV w wr L L.length bm n V left cnt n' V') (hl : ∀ s, left s = false) :
    IdxAt wr (w.heap.size + 1) L (fun k => w.heap.size ≤ k ∧ k < wr.heap.size) := by
  have hcb := (Array.getElem?_eq_some_iff.1 hc.cb).1
  have hs := hc.sum
  have hle := h.le
  refine ⟨w.heap.size, V', n', hc.cb, hc.map.congr rfl (fun s => by simp [hl]), by omega, fun s => ?_, fun s e => hc.nil s (.inl e), hc.apart, ⟨by omega, hcb⟩, ⟨Nat.le_refl _, hc.map.lt⟩, fun s b hb => ?_, fun k hk => hk.2⟩
  · by_cases e : ofS L s = []
    · rw [hc.nil s (.inl e), e]
      exact World.ownsRow_nil _ _ _ _
    · exact (hc.rows s (by simp [e, hl])).lower (Nat.zero_le _)
  · by_cases e : ofS L s = []
    · rw [hc.nil s (.inl e)] at hb
      simp [Value.ownBlock] at hb
    · have := (hc.rows s (by simp [e, hl])).lt b hb
      exact ⟨by omega, this.2⟩

/-- One stream more. -/
theorem CopyV.step {w wr w3 w4 w5 : World} {L : List One} {ev : Int} {bm n : Nat} {V V' : ByteArray → Value} {left left' : ByteArray → Bool} {cnt cnt' n' : Nat} (h : CopyV w wr L ev bm n V left cnt n' V') (hbm : bm < w.heap.size) {s : ByteArray} {v : Value}
    (hls : left s = true) (hne : ofS L s ≠ []) (hleft : ∀ t, left' t = true ↔ left t = true ∧ t ≠ s) (hr : RangeV w3 Tryz.prog 9 strLit bm (w.heap.size + 2) n (fun s => if ofS L s = [] then none else some (V s)) left' cnt') (hcnt : cnt' < cnt)
    (hk3 : Keeps (fun z => z = w.heap.size + 2) wr w3) (hs3 : w3.heap.size = wr.heap.size) (hB4 : Below w3.heap.size w3 w4) (hv : Own w4 w3.heap.size 138 3 kpc v (ofS L s))
    (hk5 : Keeps (fun z => z = w.heap.size) w4 w5) (hmap : MapV w5 Tryz.prog 9 strLit w.heap.size (n' + 1) (fun t => if t = s then some v else if ofS L t = [] ∨ left t = true then none else some (V' t))) :
    CopyV w w5 L ev bm n V left' cnt' (n' + 1) (fun t => if t = s then v else V' t) := by
  have hit := h.rng.lt
  have hl' : left' s = false := by
    cases e : left' s with
    | false => rfl
    | true => exact absurd ((hleft s).1 e).2 (by simp)
  have hl2 : ∀ t, t ≠ s → (left' t = true ↔ left t = true) := fun t ht => by rw [hleft]; simp [ht]
  have hk34 : Keeps (fun z => z = w.heap.size + 2) wr w4 := hk3.fresh hB4
  have hkA : Keeps (fun z => z = w.heap.size + 2 ∨ z = w.heap.size) wr w5 := (hk34.mono fun _ _ e => .inl e).andThen hk5 (fun _ _ e => .inr e)
  have hk35 : Keeps (fun z => z = w.heap.size) w3 w5 := (Keeps.of_fresh hB4 _).trans hk5
  have hsz := h.map.lt
  refine ⟨hr.keep hk35 (by omega) (by omega), hmap.congr rfl (fun t => ?_), by have := h.sum; omega, hkA.grownTo h.cb (by omega), fun t ht => ?_, fun t ht => ?_, fun a b k ha hb => ?_, h.blw.trans (hkA.below h.blw.size (fun z e => by omega))⟩
  · by_cases e : t = s
    · subst e
      simp [hne, hl']
    · rw [if_neg e, if_neg e]
      simp only [hl2 t e]
  · by_cases e : t = s
    · subst e
      rw [if_pos rfl]
      exact (hv.keep hk5 (fun b hb e => by have := (hv.lt b hb).1; omega)).lower (by omega)
    · rw [if_neg e]
      have h1 := h.rows t (by rw [← hl2 t e]; exact ht)
      exact h1.keep hkA (fun b hb e => by have := (h1.lt b hb).1; omega)
  · by_cases e : t = s
    · subst e
      rcases ht with ht | ht
      · exact absurd ht hne
      · rw [hl'] at ht; cases ht
    · rw [if_neg e]
      exact h.nil t (by rw [← hl2 t e]; exact ht)
  · have hold : ∀ t, t ≠ s → (V' t).ownBlock = some k → k < wr.heap.size := fun t _ hk => by
      by_cases e : ofS L t = [] ∨ left t = true
      · rw [h.nil t e] at hk; simp [Value.ownBlock] at hk
      · exact ((h.rows t e).lt k hk).2
    by_cases ea : a = s <;> by_cases eb : b = s
    · exact ea.trans eb.symm
    · simp only [if_pos ea] at ha
      simp only [if_neg eb] at hb
      have := hold b eb hb
      have := (hv.lt k ha).1
      omega
    · simp only [if_neg ea] at ha
      simp only [if_pos eb] at hb
      have := hold a ea ha
      have := (hv.lt k hb).1
      omega
    · simp only [if_neg ea] at ha
      simp only [if_neg eb] at hb
      exact h.apart a b k ha hb

theorem sclone_any (w : World) (F : Nat → Prop) (v : Value) (l : List Kp) (h : Sl w F 3 kpc v l) (hl : l ≠ []) (hn : l.length ≤ 1073741824) :
    Calls Tryz.prog 76 #[v] w fun e w' => ∃ v', e = .returned v' ∧ Own w' w.heap.size 138 3 kpc v' l ∧ Below w.heap.size w w' := by
  obtain ⟨A, c, rfl, hc1, hc2, hcl⟩ := h
  have hpos : 0 < l.length := List.length_pos_iff.2 hl
  obtain ⟨b, o, rfl, _, _, hcell⟩ := hcl hpos
  obtain ⟨i0, hi, h1, h2, h3⟩ := info_parts infoKept
  have hlen := flatMap_len kpc 3 (fun _ => rfl) l
  refine (AnyE.slices_Clone Tryz.sclone76 i0 _ 3 40 hi h1 h2 h3 rfl (by decide) sizeKept b o l.length c (l.flatMap kpc) w hlen (by unfold maxLen; omega) (by omega) ?_ ?_).mono ?_
  · intro j u hu
    have hj : j < l.length * 3 := by rw [← hlen]; exact (List.getElem?_eq_some_iff.1 hu).1
    have hd : j / 3 < l.length := by omega
    have h := flatMap_at kpc 3 (fun _ => rfl) l (j / 3) hd (j % 3) (by omega)
    rw [show j / 3 * 3 + j % 3 = j by omega, hu] at h
    have := hcell (j / 3) hd (j % 3) u h.symm
    rw [show o + j / 3 * 3 + j % 3 = o + j by omega] at this
    exact this
  · intro u hu
    obtain ⟨x, _, hx⟩ := List.mem_flatMap.1 hu
    exact kpc_one x u hx
  · rintro e w' ⟨v', rfl, h4, _, h5⟩
    exact ⟨v', rfl, h4, h5⟩

set_option maxHeartbeats 400000 in
theorem new_world (w : World) : Calls Tryz.prog 48 #[] w fun e w' => e = .returned (.pointer (some ⟨w.heap.size + 1, 0, none⟩)) ∧ w' = (w.alloc (.map #[] 0)).alloc (.cells #[.map (some w.heap.size), .int .i64 0] 134) := by
  have hmm := @run_makeMap Tryz.prog
  go_enter Tryz.func48, Tryz.ntmps48
  go_wp2
  go_ret
  exact ⟨rfl, rfl⟩

set_option maxRecDepth 4000 in
set_option maxHeartbeats 2000000 in
theorem clone_any (w : World) (p : Nat) (L : List One) (F : Nat → Prop) (h : IdxAt w p L F) (hL : L.length ≤ 1000000) :
    Calls Tryz.prog 50 #[.pointer (some ⟨p, 0, none⟩)] w fun e w' => e = .returned (.pointer (some ⟨w.heap.size + 1, 0, none⟩)) ∧ Below w.heap.size w w' ∧
      IdxAt w' (w.heap.size + 1) L (fun k => w.heap.size ≤ k ∧ k < w'.heap.size) := by
  obtain ⟨bm, V, n, h⟩ := h
  have hp := h.lt p h.fp
  have hbm := h.map.lt
  have hle := h.le
  have hlt := h.lt
  have H := Lib.hid h
  clear h
  go_enter Tryz.func50, Tryz.ntmps50
  go_wp2_with fail
  refine (new_world w).mono ?_
  rintro e w1 ⟨rfl, hw1⟩
  have hB1 : Below w.heap.size w w1 := by rw [hw1]; exact ((Below.refl _ w).alloc (Nat.le_refl _) _).alloc (by simp) _
  have hz1 : w1.heap.size = w.heap.size + 2 := by rw [hw1]; simp
  have hcb : w1.heap[w.heap.size + 1]? = some (.cells #[.map (some w.heap.size), .int .i64 0] 134 (0, 0)) := by
    have := heap_alloc_new (w.alloc (.map #[] 0)) (.cells #[.map (some w.heap.size), .int .i64 0] 134)
    rw [World.size_alloc, ← hw1] at this
    exact this
  have hmade : MapV w1 Tryz.prog 9 strLit w.heap.size 0 (fun _ => none) := by
    rw [hw1]
    exact (MapV.made w Tryz.prog 9 strLit).keep (G := fun _ => False) ((Keeps.refl _ _).alloc _) id
  have h1 := H.out.keep (Keeps.of_fresh hB1 fun _ => False) (fun _ _ => id)
  have c1 := h1.c1
  have d1 : w1.cell? ⟨w.heap.size + 1, 1, none⟩ = some (.int .i64 0) := cell_of_row w1 _ 1 _ _ _ hcb
  have f1 : w1.frozen? ⟨w.heap.size + 1, 1, none⟩ = false := frozen_block hcb 1
  have H1 := Lib.hid h1
  have HCB := Lib.hid hcb
  have HMD := Lib.hid hmade
  have HB1 := Lib.hid hB1
  clear hw1 hcb hmade hB1 h1
  go_upto_region 3 with (fail)
  have hk2 := Keeps.one w1 (w.heap.size + 1) 1 (.int .i64 L.length)
  have hcb2 := setCell_block (o := 1) HCB.out (.int .i64 (L.length : Int))
  have hs2 := size_setCell w1 ⟨w.heap.size + 1, 1, none⟩ (.int .i64 L.length)
  generalize w1.setCell ⟨w.heap.size + 1, 1, none⟩ (.int .i64 L.length) = w2 at hk2 hcb2 hs2 ⊢
  have h2 := H1.out.keep hk2 (fun k hk e => by have := hlt k hk; omega)
  have c0 := h2.c0
  have hmp := h2.map
  have HCB2 := Lib.hid hcb2
  have HMD2 := Lib.hid (HMD.out.keep hk2 (show ¬ w.heap.size = w.heap.size + 1 by omega))
  have HB2 := Lib.hid (HB1.out.trans (hk2.below HB1.out.size (fun z e => by omega)))
  clear hk2 hcb2 c1 d1 f1 h2
  go_wp2_with (first
    | (at_range; refine wpList_rangeV w2 rfl _ 132 rfl 9 135 law Tryz.underlying132 strLit bm n _ rfl hmp ?_; intro w3 hrg hk3 hs3)
    | go_in)
  go_frame
  have hz2 : w2.heap.size = w.heap.size + 2 := by omega
  rw [hz2] at hrg hs3 ⊢
  have HRG := Lib.hid hrg
  have HK3 := Lib.hid hk3
  clear hrg hk3 hmp c0
  go_loopw [4, 5] (fun _n _s wr => ∃ left cnt n' V', CopyV w wr L L.length bm n V left cnt n' V') (fun _ _ wr => wr.rangeLeft bm (w.heap.size + 2))
  case atStart =>
    refine ⟨_, n, 0, fun _ => .slice none 0 0, HRG.out, (HMD2.out.keep HK3.out id).congr rfl (fun s => ?_), by omega, HK3.out.grownTo HCB2.out id, fun s hs => absurd ?_ hs, fun _ _ => rfl, fun s t b h => by simp [Value.ownBlock] at h, HB2.out.trans (HK3.out.below HB2.out.size (fun _ h => h.elim))⟩
    · by_cases e : ofS L s = [] <;> simp [e]
    · by_cases e : ofS L s = [] <;> simp [e]
  case round =>
    obtain ⟨left, cnt, n', V', hc⟩ := hrel
    have HC := Lib.hid hc
    have hrg := hc.rng
    clear hc
    go_wp2_with (first
      | (at_next; refine wpList_nextV _ rfl _ rfl 9 law strLit Value.string (fun key kl hk => by obtain ⟨x, e1, e2⟩ := keyStr hk; exact ⟨x, e1, e2⟩)
          (fun x kl hk => by obtain ⟨y, e1, e2⟩ := keyStr hk; injection e1 with e1; rw [e2, ← e1]) strLit_inj (fun x => by simp [strLit, Lit.sameKey]) bm (w.heap.size + 2) n cnt _ _ rfl hrg ?_ ?_)
      | go_in)
    · intro hrem
      go_wp2_with fail
      go_ret
      exact ⟨rfl, HC.out.blw, copyV_end H.out HC.out hrem⟩
    · intro x v w3 cnt' left' hkey hlx hne hvx hleft hrg3 hlt3 hk3 hs3 hen
      subst hvx
      have hiz := HC.out.rng.lt
      have hB3 : Below w.heap.size w w3 := HC.out.blw.trans (hk3.below HC.out.blw.size (fun z e => by omega))
      have h3 := H.out.keep (Keeps.of_fresh hB3 fun _ => False) (fun _ _ => id)
      have hsl := h3.sl x
      have hlx2 := ofS_le L x
      obtain ⟨A, c, hv, _, _⟩ := hsl.shape
      have hsc := fun wz (hz : Keeps (fun _ => False) w3 wz) => sclone_any wz F (V x) (ofS L x) (hsl.keep hz (fun _ _ _ h => h)) hne (by omega)
      rw [hv] at hen hsc
      have HSC := Lib.hid hsc
      have HKEY := Lib.hid hkey
      have hcb3 := hk3.grownTo HC.out.cb (by omega)
      have s2 : w3.cell? ⟨w.heap.size + 1, 0, none⟩ = some (.map (some w.heap.size)) := cell_of_row w3 _ 0 _ _ _ hcb3
      have hmap3 := HC.out.map.keep hk3 (by omega)
      have HM3 := Lib.hid hmap3
      have HRG3 := Lib.hid hrg3
      have HK3' := Lib.hid hk3
      have HLT := Lib.hid hlt3
      have HLEFT := Lib.hid hleft
      have HLX := Lib.hid hlx
      have HNE := Lib.hid hne
      have hz3 : w.heap.size + 2 < w3.heap.size := by omega
      have hn' : n' < maxLen := by have := HC.out.sum; unfold maxLen; omega
      have HZ3 := Lib.hid hs3
      clear hs3 hrg hk3 hcb3 hmap3 hB3 hrg3 hv h3 hsl hsc hkey hlt3 hleft hlx hne hlx2
      go_wp2_with fail
      go_region_held3 (fun z => z.cell? ⟨w.heap.size + 1, 0, none⟩ = some (.map (some w.heap.size)))
        (first | assumption | go_keep)
        (first
          | (go_at_call 76
             refine (HSC.out _ (Keeps.refl _ w3).drew).mono ?_
             rintro e w4 ⟨v4, rfl, hO4, hB4⟩
             have hB4' : Below w3.heap.size w3 w4 := (show Below w3.heap.size w3 w3.drew from ⟨rfl, rfl, rfl, Nat.le_refl _, fun _ _ => rfl⟩).trans hB4
             have y2 := (hB4'.cell (p := ⟨w.heap.size + 1, 0, none⟩) (by show w.heap.size + 1 < _; omega)).trans s2
             obtain ⟨A4, c4, rfl, _, _⟩ := hO4.shape_ rfl
             have HO4 := Lib.hid hO4
             have HB4 := Lib.hid hB4'
             clear hB4 hB4' hO4)
          | (obtain ⟨w5, hrun, hmap5, hgr5, hsz5, hdr5⟩ := (HM3.out.keep (G := fun _ => False) (Keeps.of_fresh HB4.out _) id).store law strLit_inj Tryz.underlying132 hn' (x := x) HKEY.out (.slice A4 (ofS L x).length c4)
             have hk5 : Keeps (fun z => z = w.heap.size) w4 w5 := (Keeps.refl _ w4).grown hgr5 (fun z hz _ => by simpa using hz.symm)
             have q2 := (hk5.cell (a := ⟨w.heap.size + 1, 0, none⟩) (show w.heap.size + 1 < _ by have := HB4.out.size; omega) (show ¬ w.heap.size + 1 = _ by omega)).trans y2
             rw [hrun]
             go_simp))
      all_goals go_wp2_with fail
      have hg0 : (if ofS L x = [] ∨ left x = true then none else some (V' x)) = none := by simp [HLX.out]
      have hmap6 := hmap5.congr (n' := n' + 1) (g' := fun t => if t = x then some (.slice A4 (ofS L x).length c4) else if ofS L t = [] ∨ left t = true then none else some (V' t)) (by simp [HLX.out]) (fun _ => rfl)
      have hk35 : Keeps (fun z => z = w.heap.size) w3 w5 := (Keeps.of_fresh HB4.out _).trans hk5
      have hrg5 := HRG3.out.keep hk35 (by omega) (by omega)
      have hst := HC.out.step hbm HLX.out HNE.out HLEFT.out HRG3.out HLT.out HK3'.out HZ3.out HB4.out HO4.out hk5 hmap6
      go_roundw
      case rel => exact ⟨_, _, _, _, hst⟩
      case measure => rw [hrg5.left_eq, HC.out.rng.left_eq]; exact HLT.out
end Go.Proofs.YtlfhokcjbgpjhaaGreatDoor.Idx
