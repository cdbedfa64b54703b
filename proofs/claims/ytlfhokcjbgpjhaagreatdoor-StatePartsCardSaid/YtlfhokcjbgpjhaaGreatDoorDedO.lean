/- Dedup: Clone: a copy that shares nothing that is written. -/
import Derived.Test.YtlfhokcjbgpjhaaGreatDoorDedC
import Derived.Test.YtlfhokcjbgpjhaaGreatDoorBlM
import Derived.Test.YtlfhokcjbgpjhaaGreatDoorLayC
import Derived.Deep.RegionHeld3
import Derived.Deep.DrawnRows
namespace Go.Proofs.YtlfhokcjbgpjhaaGreatDoor.Ded
open Go.RowKit Go.Bl Go.Shelf
attribute [local go_sem ↓] Go.wp_at_zero Go.wp_at_succ

theorem mapClone_call (w : World) (b : Nat) (A : List (Int × Value)) (h : MapL w Tryz.prog 3 intLit b A) :
    Calls Tryz.prog 77 #[.map (some b)] w fun e w' => e = .returned (.map (some w.heap.size)) ∧ MapL w' Tryz.prog 3 intLit w.heap.size A ∧ Below w.heap.size w w' := by
  obtain ⟨hnd, D, hown, h2⟩ := h
  exact (AnyW.maps_Clone_owns Tryz.clone77 3 Rv b A.length D w hown).mono fun e w' ⟨he, h3, _, hB⟩ => ⟨he, ⟨hnd, D, h3, h2⟩, hB⟩

theorem rowsS_del (S : List SRow) (x : Int) : (rowsS S).filter (fun q => decide (q.1 ≠ x)) = rowsS (S.filter fun r => decide (r.n ≠ x)) := by
  simp only [rowsS, List.filter_map]; rfl

/-- What has been copied: R' of a table's rows; S is still to come. -/
structure CopyIn (w wr : World) (L : List En) (F G : Nat → Prop) (bm : Nat) (R S R' : List SRow) : Prop where
  rng : RangeL wr Tryz.prog 3 intLit bm (w.heap.size + 2) (rowsS R) (rowsS S)
  map : MapL wr Tryz.prog 3 intLit w.heap.size (rowsS R')
  cb : wr.heap[w.heap.size + 1]? = some (.cells #[.map (some w.heap.size)] 118 (0, 0))
  sub : ∀ r ∈ S, r ∈ R
  ses : ∀ r ∈ R', SesIn wr L r
  fr : ∀ r ∈ R', w.heap.size + 2 < r.b ∧ r.b < wr.heap.size ∧ w.heap.size + 2 < r.mo ∧ r.mo < wr.heap.size
  fo : ∀ r ∈ R', ∀ q ∈ r.O, F q.2 ∧ ¬ G q.2
  done : ∀ r ∈ R, r ∈ S ∨ ∃ r' ∈ R', r'.n = r.n
  new : ∀ r' ∈ R', ∀ r ∈ S, r.n ≠ r'.n
  has : ∀ r' ∈ R', ∃ e ∈ L, e.ses = r'.n
  dist : (R'.map SRow.b).Nodup
  dism : (R'.map SRow.mo).Nodup
  len : R'.length + S.length ≤ R.length
  nds : (S.map SRow.n).Nodup
  blw : Below w.heap.size w wr

theorem copy_end {w wr : World} {p : Nat} {L : List En} {F G : Nat → Prop} {bm : Nat} {R R' : List SRow} (h : TabIn w p L F G bm R) (hR : R.length ≤ L.length) (hc : CopyIn w wr L F G bm R [] R') :
    TabAt wr (w.heap.size + 1) L (fun k => (F k ∧ ¬ G k) ∨ (w.heap.size ≤ k ∧ k < wr.heap.size)) (fun k => w.heap.size ≤ k ∧ k < wr.heap.size ∧ k ≠ w.heap.size + 1) := by
  have hl := hc.map.lt
  have hcb := (Array.getElem?_eq_some_iff.1 hc.cb).1
  have hlen := hc.len
  refine ⟨w.heap.size, R', ⟨hc.cb, hc.map, hc.ses, fun e he => ?_, hc.dist, ?_, .inr ⟨Nat.le_succ _, hcb⟩, fun h => h.2.2 rfl, ⟨Nat.le_refl _, hl, by omega⟩, fun r hr => ?_, fun r hr q hq => ?_, fun k hk => .inr ⟨hk.1, hk.2.1⟩, fun k hk => ?_, h.ok⟩,
    by simp at hlen; omega, hc.has⟩
  · obtain ⟨r, hr, hq⟩ := h.mem e he
    rcases hc.done r hr with hs | ⟨r', hr', e2⟩
    · cases hs
    · exact ⟨r', hr', e2.trans hq⟩
  · refine List.nodup_cons.2 ⟨fun hm => ?_, hc.dism⟩
    obtain ⟨r, hr, e⟩ := List.mem_map.1 hm
    have := (hc.fr r hr).2.2.1
    omega
  · obtain ⟨h1, h2, h3, h4⟩ := hc.fr r hr
    exact ⟨⟨by omega, h2, by omega⟩, ⟨by omega, h4, by omega⟩⟩
  · have h1 := hc.fo r hr q hq
    refine ⟨.inl h1, fun h2 => ?_⟩
    have := h.lt _ h1.1
    omega
  · rcases hk with hk | hk
    · exact Nat.lt_of_lt_of_le (h.lt k hk.1) hc.blw.size
    · exact hk.2

set_option maxHeartbeats 400000 in
theorem new_world (w : World) : Calls Tryz.prog 49 #[] w fun e w' => e = .returned (.pointer (some ⟨w.heap.size + 1, 0, none⟩)) ∧ w' = (w.alloc (.map #[] 0)).alloc (.cells #[.map (some w.heap.size)] 118) := by
  have hmm := @run_makeMap Tryz.prog
  go_enter Tryz.func49, Tryz.ntmps49
  go_wp2
  go_ret
  exact ⟨rfl, rfl⟩

set_option maxRecDepth 4000 in
set_option maxHeartbeats 2000000 in
theorem clone_any (w : World) (p : Nat) (L : List En) (F G : Nat → Prop) (h : TabAt w p L F G) (hL : L.length ≤ 1000000) :
    Calls Tryz.prog 51 #[.pointer (some ⟨p, 0, none⟩)] w fun e w' => e = .returned (.pointer (some ⟨w.heap.size + 1, 0, none⟩)) ∧ Below w.heap.size w w' ∧
      TabAt w' (w.heap.size + 1) L (fun k => (F k ∧ ¬ G k) ∨ (w.heap.size ≤ k ∧ k < w'.heap.size)) (fun k => w.heap.size ≤ k ∧ k < w'.heap.size ∧ k ≠ w.heap.size + 1) := by
  obtain ⟨bm, R, h, hR, hhas⟩ := h
  have hp := h.lt p h.fp
  have hbm := h.map.lt
  have H := Lib.hid h
  have HH := Lib.hid hhas
  clear h hhas
  go_enter Tryz.func51, Tryz.ntmps51
  go_wp2_with fail
  refine (new_world w).mono ?_
  rintro e w1 ⟨rfl, hw1⟩
  have hB1 : Below w.heap.size w w1 := by rw [hw1]; exact ((Below.refl _ w).alloc (Nat.le_refl _) _).alloc (by simp) _
  have hz1 : w1.heap.size = w.heap.size + 2 := by rw [hw1]; simp
  have hcb : w1.heap[w.heap.size + 1]? = some (.cells #[.map (some w.heap.size)] 118 (0, 0)) := by
    have := heap_alloc_new (w.alloc (.map #[] 0)) (.cells #[.map (some w.heap.size)] 118)
    rw [World.size_alloc, ← hw1] at this
    exact this
  have hmade : MapL w1 Tryz.prog 3 intLit w.heap.size (rowsS []) := by
    rw [hw1]
    exact (MapL.made w Tryz.prog 3 intLit).keep (G := fun _ => False) ((Keeps.refl _ _).alloc _) id
  have H1 := Lib.hid (H.out.keep (Keeps.of_fresh hB1 fun _ => False) (fun _ _ => id))
  have c0 := H1.out.c0
  have hmp := H1.out.map
  have HCB := Lib.hid hcb
  have HMD := Lib.hid hmade
  have HB1 := Lib.hid hB1
  clear hw1 hcb hmade hB1
  go_wp2_with (first
    | (at_range; refine wpList_rangeL w1 rfl _ 116 rfl 3 115 lawI Tryz.underlying116 intLit bm _ rfl hmp ?_; intro w2 hrg hk2 hs2)
    | go_in)
  go_frame
  rw [hz1] at hrg hs2 ⊢
  have HRG := Lib.hid hrg
  have HK2 := Lib.hid hk2
  clear hrg hk2 hmp c0
  go_loopw [4, 5] (fun _n _s wr => ∃ S R', CopyIn w wr L F G bm R S R') (fun _ _ wr => wr.rangeLeft bm (w.heap.size + 2))
  case atStart =>
    refine ⟨R, [], HRG.out, HMD.out.keep HK2.out id, HK2.out.grownTo HCB.out id, fun r hr => hr, by simp, by simp, by simp, fun r hr => .inl hr, by simp, by simp, by simp, by simp, by simp, ?_, HB1.out.trans (HK2.out.below HB1.out.size (fun _ h => h.elim))⟩
    have := H.out.map.1
    simpa [rowsS, Function.comp_def] using this
  case round =>
    obtain ⟨S, R', hc⟩ := hrel
    have HC := Lib.hid hc
    have hrg := hc.rng
    clear hc
    go_wp2_with (first
      | (at_next; refine wpList_nextL _ rfl _ rfl 3 lawI intLit (Value.int .i64) (fun key kl hk => by obtain ⟨x, e1, e2, _⟩ := Maps.keyOf_int_inv Tryz.underlying3 hk; exact ⟨x, e1, e2⟩)
          (fun x kl hk => by obtain ⟨y, e1, e2, _⟩ := Maps.keyOf_int_inv Tryz.underlying3 hk; injection e1 with _ e1; rw [e2, ← e1]; rfl) intLit_inj (fun x => by simp [intLit, Lit.sameKey]) bm (w.heap.size + 2) _ _ rfl hrg ?_ ?_)
      | go_in)
    · intro hrem
      have hS : S = [] := by simpa [rowsS] using hrem
      subst hS
      go_wp2_with fail
      go_ret
      exact ⟨rfl, HC.out.blw, copy_end H.out hR HC.out⟩
    · intro x v w3 hmem hrg3 hk3 hs3 hlt3 hen
      obtain ⟨r, hr, hrq⟩ := List.mem_map.1 hmem
      obtain ⟨rfl, rfl⟩ : r.n = x ∧ ptr r.b = v := by
        have := Prod.mk.inj hrq
        exact this
      have hrR := HC.out.sub r hr
      have hiz := HC.out.rng.lt
      have hB3 : Below w.heap.size w w3 := HC.out.blw.trans (hk3.below HC.out.blw.size (fun z e => by omega))
      have hses3 := (H.out.ses r hrR).keep (Keeps.of_fresh hB3 fun _ => False) id id (fun _ _ => id)
      have s0 := hses3.c0
      have s1 := hses3.c1
      have hcb3 := hk3.grownTo HC.out.cb (by omega)
      have s2 : w3.cell? ⟨w.heap.size + 1, 0, none⟩ = some (.map (some w.heap.size)) := cell_of_row w3 _ 0 _ _ _ hcb3
      have hix : i64 r.n := by
        obtain ⟨e, he, hq⟩ := HH.out r hrR
        have := H.out.ok.ses e he
        unfold i64; omega
      have hmap3 := HC.out.map.keep hk3 (by omega)
      have hrb := H.out.lt _ (H.out.gf _ (H.out.gb r hrR).1)
      have HS3 := Lib.hid hses3
      have HCB3 := Lib.hid hcb3
      have HM3 := Lib.hid hmap3
      have HB3 := Lib.hid hB3
      have HRG3 := Lib.hid hrg3
      have HK3 := Lib.hid hk3
      have hz3 : w.heap.size + 2 < w3.heap.size := by omega
      have hlen : R'.length < 1000000 := by
        have := HC.out.len
        have := List.length_pos_of_mem hr
        omega
      have hnone : getL (rowsS R') r.n = none := getS_none (fun r' hr' e => HC.out.new r' hr' r hr e.symm)
      have HNO := Lib.hid hnone
      have HZ3 := Lib.hid hs3
      clear hs3 hmem hrq hrg hk3 hses3 hcb3 hmap3 hB3 hrg3 hnone
      unfold ptr at hen ⊢
      go_wp2_with fail
      go_region_held3 (fun z => z.cell? ⟨r.b, 0, none⟩ = some (.int .i64 (highL L r.n)) ∧ z.cell? ⟨r.b, 1, none⟩ = some (.map (some r.mo)) ∧ z.cell? ⟨w.heap.size + 1, 0, none⟩ = some (.map (some w.heap.size)))
        (first | exact ⟨by assumption, by assumption, by assumption⟩ | go_keep)
        (first
          | (go_at_call 77
             refine (mapClone_call _ r.mo (rowsO r.O) (HS3.out.map.keep (G := fun _ => False) (Keeps.refl _ w3).drew id)).mono ?_
             rintro e w4 ⟨rfl, hm4, hB4⟩
             have hB4' : Below w3.heap.size w3 w4 := (show Below w3.heap.size w3 w3.drew from ⟨rfl, rfl, rfl, Nat.le_refl _, fun _ _ => rfl⟩).trans hB4
             have y0 := (hB4'.cell (p := ⟨r.b, 0, none⟩) (by show r.b < _; omega)).trans s0
             have y1 := (hB4'.cell (p := ⟨r.b, 1, none⟩) (by show r.b < _; omega)).trans s1
             have y2 := (hB4'.cell (p := ⟨w.heap.size + 1, 0, none⟩) (by show w.heap.size + 1 < _; omega)).trans s2
             have hlt4 : w3.heap.size < w4.heap.size := hm4.lt
             have HM4 := Lib.hid hm4
             have HB4 := Lib.hid hB4'
             clear hm4 hB4 hB4')
          | (obtain ⟨w5, hrun, hmap5, hgr5, hsz5, hdr5⟩ := (HM3.out.keep (G := fun _ => False) ((Keeps.of_fresh HB4.out _).alloc (.cells #[.int .i64 (highL L r.n), .map (some w3.heap.size)] 121)) id).store lawI intLit_inj Tryz.underlying116 (by simp only [rowsS, List.length_map]; unfold maxLen; omega) (x := r.n) (keyI hix) HNO.out (.pointer (some ⟨w4.heap.size, 0, none⟩))
             have hk4 : Keeps (fun z => z = w.heap.size) w4 w5 := ((Keeps.refl _ w4).alloc _).grown hgr5 (fun z hz _ => by simpa using hz.symm)
             have q0 := (hk4.cell (a := ⟨r.b, 0, none⟩) (show r.b < _ by omega) (show ¬ r.b = _ by omega)).trans y0
             have q1 := (hk4.cell (a := ⟨r.b, 1, none⟩) (show r.b < _ by omega) (show ¬ r.b = _ by omega)).trans y1
             have q2 := (hk4.cell (a := ⟨w.heap.size + 1, 0, none⟩) (show w.heap.size + 1 < _ by omega) (show ¬ w.heap.size + 1 = _ by omega)).trans y2
             clear hk4
             rw [hrun]
             go_simp))
      all_goals go_wp2_with fail
      have hk5 : Keeps (fun z => z = w.heap.size) w3 w5 := (((Keeps.of_fresh HB4.out _).alloc _).grown hgr5 (fun z hz _ => by simpa using hz.symm))
      have hkr : Keeps (fun z => z = w.heap.size + 2 ∨ z = w.heap.size) wr w5 := (HK3.out.mono fun z _ e => .inl e).andThen hk5 (fun z _ e => .inr e)
      have hs5 : w5.heap.size = w4.heap.size + 1 := by rw [hsz5]; simp
      have hnew5 : w5.heap[w4.heap.size]? = some (.cells #[.int .i64 (highL L r.n), .map (some w3.heap.size)] 121 (0, 0)) :=
        (Keeps.of_grown hgr5).grownTo (heap_alloc_new w4 _) (fun e => by have e : some w.heap.size = some w4.heap.size := e; simp at e; omega)
      have hm5 : MapL w5 Tryz.prog 3 intLit w3.heap.size (rowsO r.O) := (HM4.out.keep (G := fun _ => False) ((Keeps.refl _ w4).alloc _) id).keep (Keeps.of_grown hgr5) (fun e => by have e : some w.heap.size = some w3.heap.size := e; simp at e; omega)
      obtain ⟨hrg5, hleft5⟩ := HRG3.out.keep hk5 (by omega) (by omega)
      have hlF : ∀ k, F k → k < w.heap.size := fun k hk => H.out.lt k hk
      have hRin := HC.out
      go_roundw
      case rel =>
        refine ⟨S.filter fun s => decide (s.n ≠ r.n), R' ++ [⟨r.n, w4.heap.size, w3.heap.size, r.O⟩], ?_⟩
        refine ⟨by rw [← rowsS_del]; simpa using hrg5, by simpa [rowsS, ptr] using hmap5, hk5.grownTo HCB3.out (by omega), fun s hs => hRin.sub s (List.mem_filter.1 hs).1, ?_, ?_, ?_, ?_, ?_, ?_, ?_, ?_, ?_, ?_, ?_⟩
        · intro s hs
          rcases List.mem_append.1 hs with hs | hs
          · have h1 := hRin.fr s hs
            exact (hRin.ses s hs).keep hkr (fun e => by omega) (fun e => by omega) (fun q hq e => by have := hlF _ (hRin.fo s hs q hq).1; omega)
          · obtain rfl := List.mem_singleton.1 hs
            refine ⟨hnew5, hm5, fun q hq => ?_, HS3.out.all, HS3.out.olen⟩
            obtain ⟨a, o, b, c⟩ := HS3.out.out q hq
            exact ⟨a, o, b, hk5.grownTo c (by have := hlF _ (H.out.fo r hrR q hq).1; omega)⟩
        · intro s hs
          rcases List.mem_append.1 hs with hs | hs
          · have h1 := hRin.fr s hs
            have := hkr.size
            omega
          · obtain rfl := List.mem_singleton.1 hs
            show w.heap.size + 2 < w4.heap.size ∧ w4.heap.size < w5.heap.size ∧ w.heap.size + 2 < w3.heap.size ∧ w3.heap.size < w5.heap.size
            omega
        · intro s hs
          rcases List.mem_append.1 hs with hs | hs
          · exact hRin.fo s hs
          · obtain rfl := List.mem_singleton.1 hs
            exact H.out.fo r hrR
        · intro s hs
          rcases hRin.done s hs with h1 | ⟨r', h1, h2⟩
          · by_cases e : s.n = r.n
            · exact .inr ⟨_, List.mem_append_right _ (List.mem_singleton.2 rfl), e.symm⟩
            · exact .inl (List.mem_filter.2 ⟨h1, by simpa using e⟩)
          · exact .inr ⟨r', List.mem_append_left _ h1, h2⟩
        · intro r' hr' s hs
          obtain ⟨hs1, hs2⟩ := List.mem_filter.1 hs
          rcases List.mem_append.1 hr' with hr' | hr'
          · exact hRin.new r' hr' s hs1
          · obtain rfl := List.mem_singleton.1 hr'
            simpa using hs2
        · intro s hs
          rcases List.mem_append.1 hs with hs | hs
          · exact hRin.has s hs
          · obtain rfl := List.mem_singleton.1 hs
            exact HH.out r hrR
        · rw [List.map_append, List.nodup_append]
          refine ⟨hRin.dist, by simp, fun a ha c hc => ?_⟩
          obtain ⟨s, hs, rfl⟩ := List.mem_map.1 ha
          simp only [List.map_cons, List.map_nil, List.mem_singleton] at hc
          have := (hRin.fr s hs).2.1
          have := HZ3.out
          omega
        · rw [List.map_append, List.nodup_append]
          refine ⟨hRin.dism, by simp, fun a ha c hc => ?_⟩
          obtain ⟨s, hs, rfl⟩ := List.mem_map.1 ha
          simp only [List.map_cons, List.map_nil, List.mem_singleton] at hc
          have := (hRin.fr s hs).2.2.2
          have := HZ3.out
          omega
        · have h1 := hRin.len
          have h2 : (S.filter fun s => decide (s.n ≠ r.n)).length < S.length := by
            have h3 := List.length_filter_le (fun s => decide (s.n ≠ r.n)) S
            rcases Nat.lt_or_ge (S.filter fun s => decide (s.n ≠ r.n)).length S.length with h4 | h4
            · exact h4
            · have h5 := List.length_filter_eq_length_iff.1 (Nat.le_antisymm h3 h4) r hr
              simp at h5
          simp only [List.length_append, List.length_singleton]
          omega
        · exact hRin.nds.sublist (List.Sublist.map _ List.filter_sublist)
        · exact HB3.out.trans (hk5.below HB3.out.size (fun z e => by omega))
      case measure => rw [hleft5]; exact hlt3
end Go.Proofs.YtlfhokcjbgpjhaaGreatDoor.Ded
