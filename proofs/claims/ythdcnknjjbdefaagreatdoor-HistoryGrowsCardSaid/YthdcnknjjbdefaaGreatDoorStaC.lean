/- The state: Applied, Version, Pos, Read, Streams, Look, Clone. Under the stated premises on sizes. -/
import Derived.Test.YthdcnknjjbdefaaGreatDoorIdxC
import Derived.Test.YthdcnknjjbdefaaGreatDoorBlN
import Derived.Test.YthdcnknjjbdefaaGreatDoorBlL
import Derived.Test.YthdcnknjjbdefaaGreatDoorBlP
import Derived.Deep.CutBlock
import Derived.Deep.DeepCutAuto
import Derived.Test.YthdcnknjjbdefaaGreatDoorLayC
import Derived.Deep.RegionHeld3
import Derived.Deep.DrawnRows
import Derived.Test.YthdcnknjjbdefaaGreatDoorDedC
import Derived.Test.YthdcnknjjbdefaaGreatDoorBlM
import Derived.Test.YthdcnknjjbdefaaGreatDoorStaA
import Derived.Test.YthdcnknjjbdefaaGreatDoorIdxB
/- The index: Clone: a copy that shares nothing. -/
namespace Go.Proofs.YthdcnknjjbdefaaGreatDoor.Idx
open Go.RowKit Go.Bl Go.Shelf
attribute [local go_sem ↓] Go.wp_at_zero Go.wp_at_succ

theorem kpc_one (x : Kp) (u : Value) (h : u ∈ kpc x) : u.oneCell' = true := by
  simp only [kpc, List.mem_cons, List.not_mem_nil, or_false] at h
  rcases h with rfl | rfl | rfl <;> rfl
theorem elKept : El Tryz.prog 131 134 3 40 kpc := ⟨Tryz.underlying131, ⟨_, infoKept, rfl⟩, by decide, by decide, fun _ => rfl, kpc_one⟩

theorem keyStr {key : Value} {kl : Lit} (h : keyOf Tryz.prog 9 key = some kl) : ∃ x : ByteArray, key = .string x ∧ kl = strLit x := by
  have hk : Tryz.prog.underlying 9 = some .string := Tryz.underlying9
  cases key <;> simp [keyOf, hk, mapKey] at h
  exact ⟨_, rfl, h.2.symm⟩

/-- What has been copied of an index; 'left' are the streams still to come: cnt of them. -/
structure CopyV (w wr : World) (L : List One) (ev : Int) (bm n : Nat) (V : ByteArray → Value) (left : ByteArray → Bool) (cnt n' : Nat) (V' : ByteArray → Value) : Prop where
  rng : RangeV wr Tryz.prog 9 strLit bm (w.heap.size + 2) n (fun s => if ofS L s = [] then none else some (V s)) left cnt
  map : MapV wr Tryz.prog 9 strLit w.heap.size n' (fun s => if ofS L s = [] ∨ left s = true then none else some (V' s))
  sum : n' + cnt ≤ n
  cb : wr.heap[w.heap.size + 1]? = some (.cells #[.map (some w.heap.size), .int .i64 ev] 127 (0, 0))
  rows : ∀ s, ¬ (ofS L s = [] ∨ left s = true) → Own wr (w.heap.size + 3) 134 3 kpc (V' s) (ofS L s)
  nil : ∀ s, (ofS L s = [] ∨ left s = true) → V' s = .slice none 0 0
  apart : ∀ s t b, (V' s).ownBlock = some b → (V' t).ownBlock = some b → s = t
  blw : Below w.heap.size w wr

theorem copyV_end {w wr : World} {p : Nat} {L : List One} {F : Nat → Prop} {bm n : Nat} {V V' : ByteArray → Value} {left : ByteArray → Bool} {cnt n' : Nat} (h : IdxIn w p L L.length F bm V n) (hc : CopyV w wr L L.length bm n V left cnt n' V') (hl : ∀ s, left s = false) :
    IdxAt wr (w.heap.size + 1) L (fun k => w.heap.size ≤ k ∧ k < wr.heap.size) := by
  have hcb := (Array.getElem?_eq_some_iff.1 hc.cb).1
  have hs := hc.sum
  have hle := h.le
  refine ⟨w.heap.size, V', n', hc.cb, hc.map.congr rfl (fun s => by simp [hl]), by omega, fun s => ?_, fun s e => hc.nil s (.inl e), hc.apart, ⟨by omega, hcb⟩, ⟨Nat.le_refl _, hc.map.lt⟩, fun s b hb => ?_, fun k hk => hk.2⟩
  · by_cases e : ofS L s = []
    · rw [hc.nil s (.inl e), e]
      exact World.ownsRow_nil _ _ _ _
    · exact (hc.rows s (by simp [e, hl])).lower (Nat.zero_le _)
  · by_cases e : ofS L s = []
    · rw [hc.nil s (.inl e)] at hb
      simp [Value.ownBlock] at hb
    · have := (hc.rows s (by simp [e, hl])).lt b hb
      exact ⟨by omega, this.2⟩

/-- One stream more. -/
theorem CopyV.step {w wr w3 w4 w5 : World} {L : List One} {ev : Int} {bm n : Nat} {V V' : ByteArray → Value} {left left' : ByteArray → Bool} {cnt cnt' n' : Nat} (h : CopyV w wr L ev bm n V left cnt n' V') (hbm : bm < w.heap.size) {s : ByteArray} {v : Value}
    (hls : left s = true) (hne : ofS L s ≠ []) (hleft : ∀ t, left' t = true ↔ left t = true ∧ t ≠ s) (hr : RangeV w3 Tryz.prog 9 strLit bm (w.heap.size + 2) n (fun s => if ofS L s = [] then none else some (V s)) left' cnt') (hcnt : cnt' < cnt)
    (hk3 : Keeps (fun z => z = w.heap.size + 2) wr w3) (hs3 : w3.heap.size = wr.heap.size) (hB4 : Below w3.heap.size w3 w4) (hv : Own w4 w3.heap.size 134 3 kpc v (ofS L s))
    (hk5 : Keeps (fun z => z = w.heap.size) w4 w5) (hmap : MapV w5 Tryz.prog 9 strLit w.heap.size (n' + 1) (fun t => if t = s then some v else if ofS L t = [] ∨ left t = true then none else some (V' t))) :
    CopyV w w5 L ev bm n V left' cnt' (n' + 1) (fun t => if t = s then v else V' t) := by
  have hit := h.rng.lt
  have hl' : left' s = false := by
    cases e : left' s with
    | false => rfl
    | true => exact absurd ((hleft s).1 e).2 (by simp)
  have hl2 : ∀ t, t ≠ s → (left' t = true ↔ left t = true) := fun t ht => by rw [hleft]; simp [ht]
  have hk34 : Keeps (fun z => z = w.heap.size + 2) wr w4 := hk3.fresh hB4
  have hkA : Keeps (fun z => z = w.heap.size + 2 ∨ z = w.heap.size) wr w5 := (hk34.mono fun _ _ e => .inl e).andThen hk5 (fun _ _ e => .inr e)
  have hk35 : Keeps (fun z => z = w.heap.size) w3 w5 := (Keeps.of_fresh hB4 _).trans hk5
  have hsz := h.map.lt
  refine ⟨hr.keep hk35 (by omega) (by omega), hmap.congr rfl (fun t => ?_), by have := h.sum; omega, hkA.grownTo h.cb (by omega), fun t ht => ?_, fun t ht => ?_, fun a b k ha hb => ?_, h.blw.trans (hkA.below h.blw.size (fun z e => by omega))⟩
  · by_cases e : t = s
    · subst e
      simp [hne, hl']
    · rw [if_neg e, if_neg e]
      simp only [hl2 t e]
  · by_cases e : t = s
    · subst e
      rw [if_pos rfl]
      exact (hv.keep hk5 (fun b hb e => by have := (hv.lt b hb).1; omega)).lower (by omega)
    · rw [if_neg e]
      have h1 := h.rows t (by rw [← hl2 t e]; exact ht)
      exact h1.keep hkA (fun b hb e => by have := (h1.lt b hb).1; omega)
  · by_cases e : t = s
    · subst e
      rcases ht with ht | ht
      · exact absurd ht hne
      · rw [hl'] at ht; cases ht
    · rw [if_neg e]
      exact h.nil t (by rw [← hl2 t e]; exact ht)
  · have hold : ∀ t, t ≠ s → (V' t).ownBlock = some k → k < wr.heap.size := fun t _ hk => by
      by_cases e : ofS L t = [] ∨ left t = true
      · rw [h.nil t e] at hk; simp [Value.ownBlock] at hk
      · exact ((h.rows t e).lt k hk).2
    by_cases ea : a = s <;> by_cases eb : b = s
    · exact ea.trans eb.symm
    · simp only [if_pos ea] at ha
      simp only [if_neg eb] at hb
      have := hold b eb hb
      have := (hv.lt k ha).1
      omega
    · simp only [if_neg ea] at ha
      simp only [if_pos eb] at hb
      have := hold a ea ha
      have := (hv.lt k hb).1
      omega
    · simp only [if_neg ea] at ha
      simp only [if_neg eb] at hb
      exact h.apart a b k ha hb

theorem sclone_any (w : World) (F : Nat → Prop) (v : Value) (l : List Kp) (h : Sl w F 3 kpc v l) (hl : l ≠ []) (hn : l.length ≤ 1073741824) :
    Calls Tryz.prog 72 #[v] w fun e w' => ∃ v', e = .returned v' ∧ Own w' w.heap.size 134 3 kpc v' l ∧ Below w.heap.size w w' := by
  obtain ⟨A, c, rfl, hc1, hc2, hcl⟩ := h
  have hpos : 0 < l.length := List.length_pos_iff.2 hl
  obtain ⟨b, o, rfl, _, _, hcell⟩ := hcl hpos
  obtain ⟨i0, hi, h1, h2, h3⟩ := info_parts infoKept
  have hlen := flatMap_len kpc 3 (fun _ => rfl) l
  refine (AnyE.slices_Clone Tryz.sclone72 i0 _ 3 40 hi h1 h2 h3 rfl (by decide) sizeKept b o l.length c (l.flatMap kpc) w hlen (by unfold maxLen; omega) (by omega) ?_ ?_).mono ?_
  · intro j u hu
    have hj : j < l.length * 3 := by rw [← hlen]; exact (List.getElem?_eq_some_iff.1 hu).1
    have hd : j / 3 < l.length := by omega
    have h := flatMap_at kpc 3 (fun _ => rfl) l (j / 3) hd (j % 3) (by omega)
    rw [show j / 3 * 3 + j % 3 = j by omega, hu] at h
    have := hcell (j / 3) hd (j % 3) u h.symm
    rw [show o + j / 3 * 3 + j % 3 = o + j by omega] at this
    exact this
  · intro u hu
    obtain ⟨x, _, hx⟩ := List.mem_flatMap.1 hu
    exact kpc_one x u hx
  · rintro e w' ⟨v', rfl, h4, _, h5⟩
    exact ⟨v', rfl, h4, h5⟩

set_option maxHeartbeats 400000 in
theorem new_world (w : World) : Calls Tryz.prog 59 #[] w fun e w' => e = .returned (.pointer (some ⟨w.heap.size + 1, 0, none⟩)) ∧ w' = (w.alloc (.map #[] 0)).alloc (.cells #[.map (some w.heap.size), .int .i64 0] 127) := by
  have hmm := @run_makeMap Tryz.prog
  go_enter Tryz.func59, Tryz.ntmps59
  go_wp2
  go_ret
  exact ⟨rfl, rfl⟩

set_option maxRecDepth 4000 in
set_option maxHeartbeats 2000000 in
theorem clone_any (w : World) (p : Nat) (L : List One) (F : Nat → Prop) (h : IdxAt w p L F) (hL : L.length ≤ 1000000) :
    Calls Tryz.prog 61 #[.pointer (some ⟨p, 0, none⟩)] w fun e w' => e = .returned (.pointer (some ⟨w.heap.size + 1, 0, none⟩)) ∧ Below w.heap.size w w' ∧
      IdxAt w' (w.heap.size + 1) L (fun k => w.heap.size ≤ k ∧ k < w'.heap.size) := by
  obtain ⟨bm, V, n, h⟩ := h
  have hp := h.lt p h.fp
  have hbm := h.map.lt
  have hle := h.le
  have hlt := h.lt
  have H := Lib.hid h
  clear h
  go_enter Tryz.func61, Tryz.ntmps61
  go_wp2_with fail
  refine (new_world w).mono ?_
  rintro e w1 ⟨rfl, hw1⟩
  have hB1 : Below w.heap.size w w1 := by rw [hw1]; exact ((Below.refl _ w).alloc (Nat.le_refl _) _).alloc (by simp) _
  have hz1 : w1.heap.size = w.heap.size + 2 := by rw [hw1]; simp
  have hcb : w1.heap[w.heap.size + 1]? = some (.cells #[.map (some w.heap.size), .int .i64 0] 127 (0, 0)) := by
    have := heap_alloc_new (w.alloc (.map #[] 0)) (.cells #[.map (some w.heap.size), .int .i64 0] 127)
    rw [World.size_alloc, ← hw1] at this
    exact this
  have hmade : MapV w1 Tryz.prog 9 strLit w.heap.size 0 (fun _ => none) := by
    rw [hw1]
    exact (MapV.made w Tryz.prog 9 strLit).keep (G := fun _ => False) ((Keeps.refl _ _).alloc _) id
  have h1 := H.out.keep (Keeps.of_fresh hB1 fun _ => False) (fun _ _ => id)
  have c1 := h1.c1
  have d1 : w1.cell? ⟨w.heap.size + 1, 1, none⟩ = some (.int .i64 0) := cell_of_row w1 _ 1 _ _ _ hcb
  have f1 : w1.frozen? ⟨w.heap.size + 1, 1, none⟩ = false := frozen_block hcb 1
  have H1 := Lib.hid h1
  have HCB := Lib.hid hcb
  have HMD := Lib.hid hmade
  have HB1 := Lib.hid hB1
  clear hw1 hcb hmade hB1 h1
  go_upto_region 3 with (fail)
  have hk2 := Keeps.one w1 (w.heap.size + 1) 1 (.int .i64 L.length)
  have hcb2 := setCell_block (o := 1) HCB.out (.int .i64 (L.length : Int))
  have hs2 := size_setCell w1 ⟨w.heap.size + 1, 1, none⟩ (.int .i64 L.length)
  generalize w1.setCell ⟨w.heap.size + 1, 1, none⟩ (.int .i64 L.length) = w2 at hk2 hcb2 hs2 ⊢
  have h2 := H1.out.keep hk2 (fun k hk e => by have := hlt k hk; omega)
  have c0 := h2.c0
  have hmp := h2.map
  have HCB2 := Lib.hid hcb2
  have HMD2 := Lib.hid (HMD.out.keep hk2 (show ¬ w.heap.size = w.heap.size + 1 by omega))
  have HB2 := Lib.hid (HB1.out.trans (hk2.below HB1.out.size (fun z e => by omega)))
  clear hk2 hcb2 c1 d1 f1 h2
  go_wp2_with (first
    | (at_range; refine wpList_rangeV w2 rfl _ 125 rfl 9 131 law Tryz.underlying125 strLit bm n _ rfl hmp ?_; intro w3 hrg hk3 hs3)
    | go_in)
  go_frame
  have hz2 : w2.heap.size = w.heap.size + 2 := by omega
  rw [hz2] at hrg hs3 ⊢
  have HRG := Lib.hid hrg
  have HK3 := Lib.hid hk3
  clear hrg hk3 hmp c0
  go_loopw [4, 5] (fun _n _s wr => ∃ left cnt n' V', CopyV w wr L L.length bm n V left cnt n' V') (fun _ _ wr => wr.rangeLeft bm (w.heap.size + 2))
  case atStart =>
    refine ⟨_, n, 0, fun _ => .slice none 0 0, HRG.out, (HMD2.out.keep HK3.out id).congr rfl (fun s => ?_), by omega, HK3.out.grownTo HCB2.out id, fun s hs => absurd ?_ hs, fun _ _ => rfl, fun s t b h => by simp [Value.ownBlock] at h, HB2.out.trans (HK3.out.below HB2.out.size (fun _ h => h.elim))⟩
    · by_cases e : ofS L s = [] <;> simp [e]
    · by_cases e : ofS L s = [] <;> simp [e]
  case round =>
    obtain ⟨left, cnt, n', V', hc⟩ := hrel
    have HC := Lib.hid hc
    have hrg := hc.rng
    clear hc
    go_wp2_with (first
      | (at_next; refine wpList_nextV _ rfl _ rfl 9 law strLit Value.string (fun key kl hk => by obtain ⟨x, e1, e2⟩ := keyStr hk; exact ⟨x, e1, e2⟩)
          (fun x kl hk => by obtain ⟨y, e1, e2⟩ := keyStr hk; injection e1 with e1; rw [e2, ← e1]) strLit_inj (fun x => by simp [strLit, Lit.sameKey]) bm (w.heap.size + 2) n cnt _ _ rfl hrg ?_ ?_)
      | go_in)
    · intro hrem
      go_wp2_with fail
      go_ret
      exact ⟨rfl, HC.out.blw, copyV_end H.out HC.out hrem⟩
    · intro x v w3 cnt' left' hkey hlx hne hvx hleft hrg3 hlt3 hk3 hs3 hen
      subst hvx
      have hiz := HC.out.rng.lt
      have hB3 : Below w.heap.size w w3 := HC.out.blw.trans (hk3.below HC.out.blw.size (fun z e => by omega))
      have h3 := H.out.keep (Keeps.of_fresh hB3 fun _ => False) (fun _ _ => id)
      have hsl := h3.sl x
      have hlx2 := ofS_le L x
      obtain ⟨A, c, hv, _, _⟩ := hsl.shape
      have hsc := fun wz (hz : Keeps (fun _ => False) w3 wz) => sclone_any wz F (V x) (ofS L x) (hsl.keep hz (fun _ _ _ h => h)) hne (by omega)
      rw [hv] at hen hsc
      have HSC := Lib.hid hsc
      have HKEY := Lib.hid hkey
      have hcb3 := hk3.grownTo HC.out.cb (by omega)
      have s2 : w3.cell? ⟨w.heap.size + 1, 0, none⟩ = some (.map (some w.heap.size)) := cell_of_row w3 _ 0 _ _ _ hcb3
      have hmap3 := HC.out.map.keep hk3 (by omega)
      have HM3 := Lib.hid hmap3
      have HRG3 := Lib.hid hrg3
      have HK3' := Lib.hid hk3
      have HLT := Lib.hid hlt3
      have HLEFT := Lib.hid hleft
      have HLX := Lib.hid hlx
      have HNE := Lib.hid hne
      have hz3 : w.heap.size + 2 < w3.heap.size := by omega
      have hn' : n' < maxLen := by have := HC.out.sum; unfold maxLen; omega
      have HZ3 := Lib.hid hs3
      clear hs3 hrg hk3 hcb3 hmap3 hB3 hrg3 hv h3 hsl hsc hkey hlt3 hleft hlx hne hlx2
      go_wp2_with fail
      go_region_held3 (fun z => z.cell? ⟨w.heap.size + 1, 0, none⟩ = some (.map (some w.heap.size)))
        (first | assumption | go_keep)
        (first
          | (go_at_call 72
             refine (HSC.out _ (Keeps.refl _ w3).drew).mono ?_
             rintro e w4 ⟨v4, rfl, hO4, hB4⟩
             have hB4' : Below w3.heap.size w3 w4 := (show Below w3.heap.size w3 w3.drew from ⟨rfl, rfl, rfl, Nat.le_refl _, fun _ _ => rfl⟩).trans hB4
             have y2 := (hB4'.cell (p := ⟨w.heap.size + 1, 0, none⟩) (by show w.heap.size + 1 < _; omega)).trans s2
             obtain ⟨A4, c4, rfl, _, _⟩ := hO4.shape_ rfl
             have HO4 := Lib.hid hO4
             have HB4 := Lib.hid hB4'
             clear hB4 hB4' hO4)
          | (obtain ⟨w5, hrun, hmap5, hgr5, hsz5, hdr5⟩ := (HM3.out.keep (G := fun _ => False) (Keeps.of_fresh HB4.out _) id).store law strLit_inj Tryz.underlying125 hn' (x := x) HKEY.out (.slice A4 (ofS L x).length c4)
             have hk5 : Keeps (fun z => z = w.heap.size) w4 w5 := (Keeps.refl _ w4).grown hgr5 (fun z hz _ => by simpa using hz.symm)
             have q2 := (hk5.cell (a := ⟨w.heap.size + 1, 0, none⟩) (show w.heap.size + 1 < _ by have := HB4.out.size; omega) (show ¬ w.heap.size + 1 = _ by omega)).trans y2
             rw [hrun]
             go_simp))
      all_goals go_wp2_with fail
      have hg0 : (if ofS L x = [] ∨ left x = true then none else some (V' x)) = none := by simp [HLX.out]
      have hmap6 := hmap5.congr (n' := n' + 1) (g' := fun t => if t = x then some (.slice A4 (ofS L x).length c4) else if ofS L t = [] ∨ left t = true then none else some (V' t)) (by simp [HLX.out]) (fun _ => rfl)
      have hk35 : Keeps (fun z => z = w.heap.size) w3 w5 := (Keeps.of_fresh HB4.out _).trans hk5
      have hrg5 := HRG3.out.keep hk35 (by omega) (by omega)
      have hst := HC.out.step hbm HLX.out HNE.out HLEFT.out HRG3.out HLT.out HK3'.out HZ3.out HB4.out HO4.out hk5 hmap6
      go_roundw
      case rel => exact ⟨_, _, _, _, hst⟩
      case measure => rw [hrg5.left_eq, HC.out.rng.left_eq]; exact HLT.out
end Go.Proofs.YthdcnknjjbdefaaGreatDoor.Idx

/- Dedup: Clone: a copy that shares nothing that is written. -/
namespace Go.Proofs.YthdcnknjjbdefaaGreatDoor.Ded
open Go.RowKit Go.Bl Go.Shelf
attribute [local go_sem ↓] Go.wp_at_zero Go.wp_at_succ

theorem mapClone_call (w : World) (b : Nat) (A : List (Int × Value)) (h : MapL w Tryz.prog 3 intLit b A) :
    Calls Tryz.prog 73 #[.map (some b)] w fun e w' => e = .returned (.map (some w.heap.size)) ∧ MapL w' Tryz.prog 3 intLit w.heap.size A ∧ Below w.heap.size w w' := by
  obtain ⟨hnd, D, hown, h2⟩ := h
  exact (AnyW.maps_Clone_owns Tryz.clone73 3 Rv b A.length D w hown).mono fun e w' ⟨he, h3, _, hB⟩ => ⟨he, ⟨hnd, D, h3, h2⟩, hB⟩

theorem rowsS_del (S : List SRow) (x : Int) : (rowsS S).filter (fun q => decide (q.1 ≠ x)) = rowsS (S.filter fun r => decide (r.n ≠ x)) := by
  simp only [rowsS, List.filter_map]; rfl

/-- What has been copied: R' of a table's rows; S is still to come. -/
structure CopyIn (w wr : World) (L : List En) (F G : Nat → Prop) (bm : Nat) (R S R' : List SRow) : Prop where
  rng : RangeL wr Tryz.prog 3 intLit bm (w.heap.size + 2) (rowsS R) (rowsS S)
  map : MapL wr Tryz.prog 3 intLit w.heap.size (rowsS R')
  cb : wr.heap[w.heap.size + 1]? = some (.cells #[.map (some w.heap.size)] 130 (0, 0))
  sub : ∀ r ∈ S, r ∈ R
  ses : ∀ r ∈ R', SesIn wr L r
  fr : ∀ r ∈ R', w.heap.size + 2 < r.b ∧ r.b < wr.heap.size ∧ w.heap.size + 2 < r.mo ∧ r.mo < wr.heap.size
  fo : ∀ r ∈ R', ∀ q ∈ r.O, F q.2 ∧ ¬ G q.2
  done : ∀ r ∈ R, r ∈ S ∨ ∃ r' ∈ R', r'.n = r.n
  new : ∀ r' ∈ R', ∀ r ∈ S, r.n ≠ r'.n
  has : ∀ r' ∈ R', ∃ e ∈ L, e.ses = r'.n
  dist : (R'.map SRow.b).Nodup
  dism : (R'.map SRow.mo).Nodup
  len : R'.length + S.length ≤ R.length
  nds : (S.map SRow.n).Nodup
  blw : Below w.heap.size w wr

theorem copy_end {w wr : World} {p : Nat} {L : List En} {F G : Nat → Prop} {bm : Nat} {R R' : List SRow} (h : TabIn w p L F G bm R) (hR : R.length ≤ L.length) (hc : CopyIn w wr L F G bm R [] R') :
    TabAt wr (w.heap.size + 1) L (fun k => (F k ∧ ¬ G k) ∨ (w.heap.size ≤ k ∧ k < wr.heap.size)) (fun k => w.heap.size ≤ k ∧ k < wr.heap.size ∧ k ≠ w.heap.size + 1) := by
  have hl := hc.map.lt
  have hcb := (Array.getElem?_eq_some_iff.1 hc.cb).1
  have hlen := hc.len
  refine ⟨w.heap.size, R', ⟨hc.cb, hc.map, hc.ses, fun e he => ?_, hc.dist, ?_, .inr ⟨Nat.le_succ _, hcb⟩, fun h => h.2.2 rfl, ⟨Nat.le_refl _, hl, by omega⟩, fun r hr => ?_, fun r hr q hq => ?_, fun k hk => .inr ⟨hk.1, hk.2.1⟩, fun k hk => ?_, h.ok⟩,
    by simp at hlen; omega, hc.has⟩
  · obtain ⟨r, hr, hq⟩ := h.mem e he
    rcases hc.done r hr with hs | ⟨r', hr', e2⟩
    · cases hs
    · exact ⟨r', hr', e2.trans hq⟩
  · refine List.nodup_cons.2 ⟨fun hm => ?_, hc.dism⟩
    obtain ⟨r, hr, e⟩ := List.mem_map.1 hm
    have := (hc.fr r hr).2.2.1
    omega
  · obtain ⟨h1, h2, h3, h4⟩ := hc.fr r hr
    exact ⟨⟨by omega, h2, by omega⟩, ⟨by omega, h4, by omega⟩⟩
  · have h1 := hc.fo r hr q hq
    refine ⟨.inl h1, fun h2 => ?_⟩
    have := h.lt _ h1.1
    omega
  · rcases hk with hk | hk
    · exact Nat.lt_of_lt_of_le (h.lt k hk.1) hc.blw.size
    · exact hk.2

set_option maxHeartbeats 400000 in
theorem new_world (w : World) : Calls Tryz.prog 60 #[] w fun e w' => e = .returned (.pointer (some ⟨w.heap.size + 1, 0, none⟩)) ∧ w' = (w.alloc (.map #[] 0)).alloc (.cells #[.map (some w.heap.size)] 130) := by
  have hmm := @run_makeMap Tryz.prog
  go_enter Tryz.func60, Tryz.ntmps60
  go_wp2
  go_ret
  exact ⟨rfl, rfl⟩

set_option maxRecDepth 4000 in
set_option maxHeartbeats 2000000 in
theorem clone_any (w : World) (p : Nat) (L : List En) (F G : Nat → Prop) (h : TabAt w p L F G) (hL : L.length ≤ 1000000) :
    Calls Tryz.prog 62 #[.pointer (some ⟨p, 0, none⟩)] w fun e w' => e = .returned (.pointer (some ⟨w.heap.size + 1, 0, none⟩)) ∧ Below w.heap.size w w' ∧
      TabAt w' (w.heap.size + 1) L (fun k => (F k ∧ ¬ G k) ∨ (w.heap.size ≤ k ∧ k < w'.heap.size)) (fun k => w.heap.size ≤ k ∧ k < w'.heap.size ∧ k ≠ w.heap.size + 1) := by
  obtain ⟨bm, R, h, hR, hhas⟩ := h
  have hp := h.lt p h.fp
  have hbm := h.map.lt
  have H := Lib.hid h
  have HH := Lib.hid hhas
  clear h hhas
  go_enter Tryz.func62, Tryz.ntmps62
  go_wp2_with fail
  refine (new_world w).mono ?_
  rintro e w1 ⟨rfl, hw1⟩
  have hB1 : Below w.heap.size w w1 := by rw [hw1]; exact ((Below.refl _ w).alloc (Nat.le_refl _) _).alloc (by simp) _
  have hz1 : w1.heap.size = w.heap.size + 2 := by rw [hw1]; simp
  have hcb : w1.heap[w.heap.size + 1]? = some (.cells #[.map (some w.heap.size)] 130 (0, 0)) := by
    have := heap_alloc_new (w.alloc (.map #[] 0)) (.cells #[.map (some w.heap.size)] 130)
    rw [World.size_alloc, ← hw1] at this
    exact this
  have hmade : MapL w1 Tryz.prog 3 intLit w.heap.size (rowsS []) := by
    rw [hw1]
    exact (MapL.made w Tryz.prog 3 intLit).keep (G := fun _ => False) ((Keeps.refl _ _).alloc _) id
  have H1 := Lib.hid (H.out.keep (Keeps.of_fresh hB1 fun _ => False) (fun _ _ => id))
  have c0 := H1.out.c0
  have hmp := H1.out.map
  have HCB := Lib.hid hcb
  have HMD := Lib.hid hmade
  have HB1 := Lib.hid hB1
  clear hw1 hcb hmade hB1
  go_wp2_with (first
    | (at_range; refine wpList_rangeL w1 rfl _ 128 rfl 3 135 lawI Tryz.underlying128 intLit bm _ rfl hmp ?_; intro w2 hrg hk2 hs2)
    | go_in)
  go_frame
  rw [hz1] at hrg hs2 ⊢
  have HRG := Lib.hid hrg
  have HK2 := Lib.hid hk2
  clear hrg hk2 hmp c0
  go_loopw [4, 5] (fun _n _s wr => ∃ S R', CopyIn w wr L F G bm R S R') (fun _ _ wr => wr.rangeLeft bm (w.heap.size + 2))
  case atStart =>
    refine ⟨R, [], HRG.out, HMD.out.keep HK2.out id, HK2.out.grownTo HCB.out id, fun r hr => hr, by simp, by simp, by simp, fun r hr => .inl hr, by simp, by simp, by simp, by simp, by simp, ?_, HB1.out.trans (HK2.out.below HB1.out.size (fun _ h => h.elim))⟩
    have := H.out.map.1
    simpa [rowsS, Function.comp_def] using this
  case round =>
    obtain ⟨S, R', hc⟩ := hrel
    have HC := Lib.hid hc
    have hrg := hc.rng
    clear hc
    go_wp2_with (first
      | (at_next; refine wpList_nextL _ rfl _ rfl 3 lawI intLit (Value.int .i64) (fun key kl hk => by obtain ⟨x, e1, e2, _⟩ := Maps.keyOf_int_inv Tryz.underlying3 hk; exact ⟨x, e1, e2⟩)
          (fun x kl hk => by obtain ⟨y, e1, e2, _⟩ := Maps.keyOf_int_inv Tryz.underlying3 hk; injection e1 with _ e1; rw [e2, ← e1]; rfl) intLit_inj (fun x => by simp [intLit, Lit.sameKey]) bm (w.heap.size + 2) _ _ rfl hrg ?_ ?_)
      | go_in)
    · intro hrem
      have hS : S = [] := by simpa [rowsS] using hrem
      subst hS
      go_wp2_with fail
      go_ret
      exact ⟨rfl, HC.out.blw, copy_end H.out hR HC.out⟩
    · intro x v w3 hmem hrg3 hk3 hs3 hlt3 hen
      obtain ⟨r, hr, hrq⟩ := List.mem_map.1 hmem
      obtain ⟨rfl, rfl⟩ : r.n = x ∧ ptr r.b = v := by
        have := Prod.mk.inj hrq
        exact this
      have hrR := HC.out.sub r hr
      have hiz := HC.out.rng.lt
      have hB3 : Below w.heap.size w w3 := HC.out.blw.trans (hk3.below HC.out.blw.size (fun z e => by omega))
      have hses3 := (H.out.ses r hrR).keep (Keeps.of_fresh hB3 fun _ => False) id id (fun _ _ => id)
      have s0 := hses3.c0
      have s1 := hses3.c1
      have hcb3 := hk3.grownTo HC.out.cb (by omega)
      have s2 : w3.cell? ⟨w.heap.size + 1, 0, none⟩ = some (.map (some w.heap.size)) := cell_of_row w3 _ 0 _ _ _ hcb3
      have hix : i64 r.n := by
        obtain ⟨e, he, hq⟩ := HH.out r hrR
        have := H.out.ok.ses e he
        unfold i64; omega
      have hmap3 := HC.out.map.keep hk3 (by omega)
      have hrb := H.out.lt _ (H.out.gf _ (H.out.gb r hrR).1)
      have HS3 := Lib.hid hses3
      have HCB3 := Lib.hid hcb3
      have HM3 := Lib.hid hmap3
      have HB3 := Lib.hid hB3
      have HRG3 := Lib.hid hrg3
      have HK3 := Lib.hid hk3
      have hz3 : w.heap.size + 2 < w3.heap.size := by omega
      have hlen : R'.length < 1000000 := by
        have := HC.out.len
        have := List.length_pos_of_mem hr
        omega
      have hnone : getL (rowsS R') r.n = none := getS_none (fun r' hr' e => HC.out.new r' hr' r hr e.symm)
      have HNO := Lib.hid hnone
      have HZ3 := Lib.hid hs3
      clear hs3 hmem hrq hrg hk3 hses3 hcb3 hmap3 hB3 hrg3 hnone
      unfold ptr at hen ⊢
      go_wp2_with fail
      go_region_held3 (fun z => z.cell? ⟨r.b, 0, none⟩ = some (.int .i64 (highL L r.n)) ∧ z.cell? ⟨r.b, 1, none⟩ = some (.map (some r.mo)) ∧ z.cell? ⟨w.heap.size + 1, 0, none⟩ = some (.map (some w.heap.size)))
        (first | exact ⟨by assumption, by assumption, by assumption⟩ | go_keep)
        (first
          | (go_at_call 73
             refine (mapClone_call _ r.mo (rowsO r.O) (HS3.out.map.keep (G := fun _ => False) (Keeps.refl _ w3).drew id)).mono ?_
             rintro e w4 ⟨rfl, hm4, hB4⟩
             have hB4' : Below w3.heap.size w3 w4 := (show Below w3.heap.size w3 w3.drew from ⟨rfl, rfl, rfl, Nat.le_refl _, fun _ _ => rfl⟩).trans hB4
             have y0 := (hB4'.cell (p := ⟨r.b, 0, none⟩) (by show r.b < _; omega)).trans s0
             have y1 := (hB4'.cell (p := ⟨r.b, 1, none⟩) (by show r.b < _; omega)).trans s1
             have y2 := (hB4'.cell (p := ⟨w.heap.size + 1, 0, none⟩) (by show w.heap.size + 1 < _; omega)).trans s2
             have hlt4 : w3.heap.size < w4.heap.size := hm4.lt
             have HM4 := Lib.hid hm4
             have HB4 := Lib.hid hB4'
             clear hm4 hB4 hB4')
          | (obtain ⟨w5, hrun, hmap5, hgr5, hsz5, hdr5⟩ := (HM3.out.keep (G := fun _ => False) ((Keeps.of_fresh HB4.out _).alloc (.cells #[.int .i64 (highL L r.n), .map (some w3.heap.size)] 138)) id).store lawI intLit_inj Tryz.underlying128 (by simp only [rowsS, List.length_map]; unfold maxLen; omega) (x := r.n) (keyI hix) HNO.out (.pointer (some ⟨w4.heap.size, 0, none⟩))
             have hk4 : Keeps (fun z => z = w.heap.size) w4 w5 := ((Keeps.refl _ w4).alloc _).grown hgr5 (fun z hz _ => by simpa using hz.symm)
             have q0 := (hk4.cell (a := ⟨r.b, 0, none⟩) (show r.b < _ by omega) (show ¬ r.b = _ by omega)).trans y0
             have q1 := (hk4.cell (a := ⟨r.b, 1, none⟩) (show r.b < _ by omega) (show ¬ r.b = _ by omega)).trans y1
             have q2 := (hk4.cell (a := ⟨w.heap.size + 1, 0, none⟩) (show w.heap.size + 1 < _ by omega) (show ¬ w.heap.size + 1 = _ by omega)).trans y2
             clear hk4
             rw [hrun]
             go_simp))
      all_goals go_wp2_with fail
      have hk5 : Keeps (fun z => z = w.heap.size) w3 w5 := (((Keeps.of_fresh HB4.out _).alloc _).grown hgr5 (fun z hz _ => by simpa using hz.symm))
      have hkr : Keeps (fun z => z = w.heap.size + 2 ∨ z = w.heap.size) wr w5 := (HK3.out.mono fun z _ e => .inl e).andThen hk5 (fun z _ e => .inr e)
      have hs5 : w5.heap.size = w4.heap.size + 1 := by rw [hsz5]; simp
      have hnew5 : w5.heap[w4.heap.size]? = some (.cells #[.int .i64 (highL L r.n), .map (some w3.heap.size)] 138 (0, 0)) :=
        (Keeps.of_grown hgr5).grownTo (heap_alloc_new w4 _) (fun e => by have e : some w.heap.size = some w4.heap.size := e; simp at e; omega)
      have hm5 : MapL w5 Tryz.prog 3 intLit w3.heap.size (rowsO r.O) := (HM4.out.keep (G := fun _ => False) ((Keeps.refl _ w4).alloc _) id).keep (Keeps.of_grown hgr5) (fun e => by have e : some w.heap.size = some w3.heap.size := e; simp at e; omega)
      obtain ⟨hrg5, hleft5⟩ := HRG3.out.keep hk5 (by omega) (by omega)
      have hlF : ∀ k, F k → k < w.heap.size := fun k hk => H.out.lt k hk
      have hRin := HC.out
      go_roundw
      case rel =>
        refine ⟨S.filter fun s => decide (s.n ≠ r.n), R' ++ [⟨r.n, w4.heap.size, w3.heap.size, r.O⟩], ?_⟩
        refine ⟨by rw [← rowsS_del]; simpa using hrg5, by simpa [rowsS, ptr] using hmap5, hk5.grownTo HCB3.out (by omega), fun s hs => hRin.sub s (List.mem_filter.1 hs).1, ?_, ?_, ?_, ?_, ?_, ?_, ?_, ?_, ?_, ?_, ?_⟩
        · intro s hs
          rcases List.mem_append.1 hs with hs | hs
          · have h1 := hRin.fr s hs
            exact (hRin.ses s hs).keep hkr (fun e => by omega) (fun e => by omega) (fun q hq e => by have := hlF _ (hRin.fo s hs q hq).1; omega)
          · obtain rfl := List.mem_singleton.1 hs
            refine ⟨hnew5, hm5, fun q hq => ?_, HS3.out.all, HS3.out.olen⟩
            obtain ⟨a, o, b, c⟩ := HS3.out.out q hq
            exact ⟨a, o, b, hk5.grownTo c (by have := hlF _ (H.out.fo r hrR q hq).1; omega)⟩
        · intro s hs
          rcases List.mem_append.1 hs with hs | hs
          · have h1 := hRin.fr s hs
            have := hkr.size
            omega
          · obtain rfl := List.mem_singleton.1 hs
            show w.heap.size + 2 < w4.heap.size ∧ w4.heap.size < w5.heap.size ∧ w.heap.size + 2 < w3.heap.size ∧ w3.heap.size < w5.heap.size
            omega
        · intro s hs
          rcases List.mem_append.1 hs with hs | hs
          · exact hRin.fo s hs
          · obtain rfl := List.mem_singleton.1 hs
            exact H.out.fo r hrR
        · intro s hs
          rcases hRin.done s hs with h1 | ⟨r', h1, h2⟩
          · by_cases e : s.n = r.n
            · exact .inr ⟨_, List.mem_append_right _ (List.mem_singleton.2 rfl), e.symm⟩
            · exact .inl (List.mem_filter.2 ⟨h1, by simpa using e⟩)
          · exact .inr ⟨r', List.mem_append_left _ h1, h2⟩
        · intro r' hr' s hs
          obtain ⟨hs1, hs2⟩ := List.mem_filter.1 hs
          rcases List.mem_append.1 hr' with hr' | hr'
          · exact hRin.new r' hr' s hs1
          · obtain rfl := List.mem_singleton.1 hr'
            simpa using hs2
        · intro s hs
          rcases List.mem_append.1 hs with hs | hs
          · exact hRin.has s hs
          · obtain rfl := List.mem_singleton.1 hs
            exact HH.out r hrR
        · rw [List.map_append, List.nodup_append]
          refine ⟨hRin.dist, by simp, fun a ha c hc => ?_⟩
          obtain ⟨s, hs, rfl⟩ := List.mem_map.1 ha
          simp only [List.map_cons, List.map_nil, List.mem_singleton] at hc
          have := (hRin.fr s hs).2.1
          have := HZ3.out
          omega
        · rw [List.map_append, List.nodup_append]
          refine ⟨hRin.dism, by simp, fun a ha c hc => ?_⟩
          obtain ⟨s, hs, rfl⟩ := List.mem_map.1 ha
          simp only [List.map_cons, List.map_nil, List.mem_singleton] at hc
          have := (hRin.fr s hs).2.2.2
          have := HZ3.out
          omega
        · have h1 := hRin.len
          have h2 : (S.filter fun s => decide (s.n ≠ r.n)).length < S.length := by
            have h3 := List.length_filter_le (fun s => decide (s.n ≠ r.n)) S
            rcases Nat.lt_or_ge (S.filter fun s => decide (s.n ≠ r.n)).length S.length with h4 | h4
            · exact h4
            · have h5 := List.length_filter_eq_length_iff.1 (Nat.le_antisymm h3 h4) r hr
              simp at h5
          simp only [List.length_append, List.length_singleton]
          omega
        · exact hRin.nds.sublist (List.Sublist.map _ List.filter_sublist)
        · exact HB3.out.trans (hk5.below HB3.out.size (fun z e => by omega))
      case measure => rw [hleft5]; exact hlt3
end Go.Proofs.YthdcnknjjbdefaaGreatDoor.Ded

namespace Go.Proofs.YthdcnknjjbdefaaGreatDoor
open Go.RowKit Go.Bl
attribute [local go_sem ↓] Go.wp_at_zero Go.wp_at_succ

section
variable (w : World) (p : Nat) (s : St) (F W : Nat → Prop) (h : StAt w p s F W)
include h
theorem sversion_any (n : ByteArray) (hn : n.size ≤ maxLen) : Calls Tryz.prog 69 #[.pointer (some ⟨p, 0, none⟩), .string n] w fun e w' => e = .returned (.int .i64 (Idx.ofS s.L n).length) ∧ w = w' := by
  obtain ⟨px, pt, FX, FT, GT, h⟩ := h
  have c0 := h.c0
  have HI := Lib.hid h.idx
  clear h
  go_enter Tryz.func69, Tryz.ntmps69
  go_wp2_with fail
  refine (Idx.version_any w px s.L FX HI.out n hn).mono ?_
  rintro e w2 ⟨rfl, rfl⟩
  go_wp2_with fail
  go_ret
  exact ⟨rfl, rfl⟩
theorem sread_any (n : ByteArray) (hn : n.size ≤ maxLen) (k : Int) (hL : s.L.length ≤ 1073741824) : Calls Tryz.prog 70 #[.pointer (some ⟨p, 0, none⟩), .string n, .int .i64 k] w fun e w' => ∃ v, e = .returned v ∧ Below w.heap.size w w' ∧
      Sl w' (fun b => w.heap.size ≤ b) 2 evc v ((((Idx.ofS s.L n).drop (max k 1 - 1).toNat).take 16).map Idx.Kp.e) := by
  obtain ⟨px, pt, FX, FT, GT, h⟩ := h
  have c0 := h.c0
  have HI := Lib.hid h.idx
  clear h
  go_enter Tryz.func70, Tryz.ntmps70
  go_wp2_with fail
  refine (Idx.range_any w px s.L FX HI.out n hn k 16 hL).mono ?_
  rintro e w2 ⟨v, rfl, hB, hS⟩
  have HS := Lib.hid hS
  have HB := Lib.hid hB
  clear hS hB
  go_wp2_with fail
  go_ret
  exact ⟨v, rfl, HB.out, HS.out⟩
end

set_option maxRecDepth 8000 in
set_option maxHeartbeats 2000000 in
theorem sclone_any (w : World) (p : Nat) (s : St) (F W : Nat → Prop) (h : StAt w p s F W) (hL : s.L.length ≤ 1000000) (hT : s.T.length ≤ 1000000) :
    Calls Tryz.prog 51 #[.pointer (some ⟨p, 0, none⟩)] w fun e w' => ∃ q W', e = .returned (.pointer (some ⟨q, 0, none⟩)) ∧ w.heap.size ≤ q ∧ (∀ k, W' k → w.heap.size ≤ k) ∧ Below w.heap.size w w' ∧
      StAt w' q s (fun k => (F k ∧ ¬ W k) ∨ (w.heap.size ≤ k ∧ k < w'.heap.size)) W' := by
  obtain ⟨px, pt, FX, FT, GT, h⟩ := h
  have c0 := h.c0
  have c1 := h.c1
  have c2 := h.c2
  have hpl := h.lt _ (h.wf _ h.wp)
  have H := Lib.hid h
  clear h
  go_enter Tryz.func51, Tryz.ntmps51
  go_wp2_with fail
  go_region_held3 (fun x => x.cell? ⟨p, 0, none⟩ = some (.pointer (some ⟨px, 0, none⟩)) ∧ x.cell? ⟨p, 1, none⟩ = some (.pointer (some ⟨pt, 0, none⟩)) ∧ x.cell? ⟨p, 2, none⟩ = some (.int .i64 s.ap))
    (first | exact ⟨by assumption, by assumption, by assumption⟩ | go_keep)
    (first
      | (go_at_call 61
         refine (Idx.clone_any _ px s.L FX (H.out.idx.fresh (show Below w.heap.size w w.drew from ⟨rfl, rfl, rfl, Nat.le_refl _, fun _ _ => rfl⟩)) hL).mono ?_
         rintro e w2 ⟨rfl, hB2, hX2⟩
         have HB2 := Lib.hid (show Below w.heap.size w w2 from (show Below w.heap.size w w.drew from ⟨rfl, rfl, rfl, Nat.le_refl _, fun _ _ => rfl⟩).trans hB2)
         have HX2 := Lib.hid hX2
         have y0 := (HB2.out.cell (p := ⟨p, 0, none⟩) hpl).trans c0
         have y1 := (HB2.out.cell (p := ⟨p, 1, none⟩) hpl).trans c1
         have y2 := (HB2.out.cell (p := ⟨p, 2, none⟩) hpl).trans c2
         clear hB2 hX2)
      | (go_at_call 62
         refine (Ded.clone_any w2 pt s.T FT GT (H.out.fresh HB2.out).tab hT).mono ?_
         rintro e w3 ⟨rfl, hB3, hT3⟩
         have HB3 := Lib.hid (show Below w.heap.size w w3 from HB2.out.trans (hB3.mono HB2.out.size))
         have HX3 := Lib.hid (HX2.out.fresh hB3)
         have HT3 := Lib.hid hT3
         have v0 := (HB3.out.cell (p := ⟨p, 0, none⟩) hpl).trans c0
         have v1 := (HB3.out.cell (p := ⟨p, 1, none⟩) hpl).trans c1
         have v2 := (HB3.out.cell (p := ⟨p, 2, none⟩) hpl).trans c2
         have hlt3 := Lib.hid hB3.size
         clear hB3 hT3))
  go_wp2_with fail
  go_ret
  obtain ⟨hs2, hs3⟩ : w.heap.size + 1 < w2.heap.size ∧ w2.heap.size + 1 < w3.heap.size := by
    obtain ⟨bm, V, n, h1⟩ := HX2.out
    obtain ⟨bm', R, h2, _⟩ := HT3.out
    exact ⟨h1.lt _ h1.fp, h2.lt _ h2.fp⟩
  have hh := H.out
  have hBa : Below w3.heap.size w3 (w3.alloc (.cells #[.pointer (some ⟨w.heap.size + 1, 0, none⟩), .pointer (some ⟨w2.heap.size + 1, 0, none⟩), .int .i64 s.ap] 120)) := (Below.refl _ _).alloc (Nat.le_refl _) _
  have hlF : ∀ k, FT k → k < w.heap.size := fun k hk => hh.lt k (hh.ft k hk)
  refine ⟨w3.heap.size, fun k => (w.heap.size ≤ k ∧ k < w2.heap.size) ∨ (w2.heap.size ≤ k ∧ k < w3.heap.size ∧ k ≠ w2.heap.size + 1) ∨ k = w3.heap.size, rfl, by omega, fun k hk => by omega, HB3.out.alloc HB3.out.size _, w.heap.size + 1, w2.heap.size + 1, _, _, _, heap_alloc_new w3 _, HX3.out.fresh hBa, HT3.out.fresh hBa, ?_, ?_, ?_, ?_, ?_, ?_, ?_, ?_, ?_, ?_⟩
  · rintro k ⟨hk1, hk2⟩ (hk | hk)
    · have := hlF k hk.1
      have : w.heap.size ≤ k := hk1
      omega
    · omega
  · rintro ⟨_, hk⟩; omega
  · rintro (hk | hk)
    · have := hlF _ hk.1; omega
    · omega
  · intro k hk; exact .inl hk
  · intro k hk; exact .inr (.inl hk)
  · exact .inr (.inr rfl)
  · rintro k (hk | hk) hk'
    · have := hlF _ hk.1; omega
    · exact ⟨hk.1, hk.2, by omega⟩
  · rintro k (hk | hk)
    · exact .inl ⟨hh.ft k hk.1, fun hw => hk.2 (hh.tw k hk.1 hw)⟩
    · exact .inr (by rw [World.size_alloc]; omega)
  · intro k hk; exact .inr (by rw [World.size_alloc]; omega)
  · rintro k (hk | hk)
    · have := hh.lt k hk.1; rw [World.size_alloc]; omega
    · exact hk.2
end Go.Proofs.YthdcnknjjbdefaaGreatDoor
