/- The document's table (a row of all that was put): high, Look, Put. -/
import Derived.Test.YthdcnknjjbdefaaGreatDoorDedJ
import Derived.Test.YthdcnknjjbdefaaGreatDoorBlL
import Derived.Test.YthdcnknjjbdefaaGreatDoorBlR
import Derived.Test.YthdcnknjjbdefaaGreatDoorBlQ
namespace Go.Proofs.YthdcnknjjbdefaaGreatDoor.Ded
open Go.RowKit Go.Bl
attribute [local go_sem ↓] Go.wp_at_zero Go.wp_at_succ

def onec (e : En) : List Value := [.int .i64 e.ses, .int .i64 e.seq, .int .i64 e.o.code, .int .i64 e.o.pos, .int .i64 e.o.first, .int .i64 e.o.ver]
theorem onec_one (x : En) (u : Value) (h : u ∈ onec x) : u.oneCell' = true := by
  simp only [onec, List.mem_cons, List.not_mem_nil, or_false] at h
  rcases h with rfl | rfl | rfl | rfl | rfl | rfl <;> rfl
theorem infoOne : (Tryz.prog.info? 101).map (fun i => (i.zero, i.size, i.bytes)) = some (some (.agg #[.int .i64 0, .int .i64 0, .int .i64 0, .int .i64 0, .int .i64 0, .int .i64 0]), 6, 48) := by kernel_rfl
theorem elOne : El Tryz.prog 79 101 6 48 onec := ⟨Tryz.underlying79, ⟨_, infoOne, rfl⟩, by decide, by decide, fun _ => rfl, onec_one⟩

/-- Block p of w is the document's table. -/
structure RefIn (w : World) (p : Nat) (L : List En) (F : Nat → Prop) (v : Value) : Prop where
  blk : w.heap[p]? = some (.cells #[v] 81 (0, 0))
  row : Own w 0 101 6 onec v L
  fp : F p
  fv : ∀ b, v.ownBlock = some b → F b
  lt : ∀ k, F k → k < w.heap.size
  ok : OkL L
def RefAt (w : World) (p : Nat) (L : List En) (F : Nat → Prop) : Prop := ∃ v, RefIn w p L F v
section
variable {w w' : World} {p : Nat} {L : List En} {F G : Nat → Prop} {v : Value}
theorem RefIn.keep (h : RefIn w p L F v) (hk : Keeps G w w') (hd : ∀ k, F k → ¬ G k) : RefIn w' p L F v :=
  ⟨hk.grownTo h.blk (hd _ h.fp), h.row.keep hk (fun b hb => hd b (h.fv b hb)), h.fp, h.fv, fun k hF => Nat.lt_of_lt_of_le (h.lt k hF) hk.size, h.ok⟩
theorem RefAt.keep (h : RefAt w p L F) (hk : Keeps G w w') (hd : ∀ k, F k → ¬ G k) : RefAt w' p L F := by
  obtain ⟨v, h⟩ := h
  exact ⟨v, h.keep hk hd⟩
theorem RefAt.fresh (h : RefAt w p L F) (hk : Below w.heap.size w w') : RefAt w' p L F := h.keep (Keeps.of_fresh hk fun _ => False) (fun _ _ => id)
theorem RefIn.fresh (h : RefIn w p L F v) (hk : Below w.heap.size w w') : RefIn w' p L F v := h.keep (Keeps.of_fresh hk fun _ => False) (fun _ _ => id)
theorem RefIn.c0 (h : RefIn w p L F v) : w.cell? ⟨p, 0, none⟩ = some v := cell_of_row w p 0 _ _ _ h.blk
theorem RefIn.vp (h : RefIn w p L F v) (e : v.ownBlock = some p) : False := by
  obtain ⟨_, h2⟩ := h.row
  rcases h2 with ⟨h2, _⟩ | ⟨g, cap, cur, h2, _, h3, _⟩
  · rw [h2] at e; simp [Value.ownBlock] at e
  · rw [h2] at e
    simp [Value.ownBlock] at e
    subst e
    rw [h.blk] at h3
    simp at h3
end

theorem findL_cat (A B : List En) (x y : Int) : findL (A ++ B) x y = (findL A x y).or (findL B x y) := by
  unfold findL
  rw [List.find?_append]
  cases h : A.find? fun e => decide (e.ses = x) && decide (e.seq = y) <;> simp
theorem highL_take {L : List En} {k : Nat} (hk : k < L.length) (x : Int) : highL (L.take (k + 1)) x = if L[k].ses = x then max (highL (L.take k) x) L[k].seq else highL (L.take k) x := by
  rw [List.take_succ_eq_append_getElem hk, highL_append]
theorem findL_take {L : List En} {k : Nat} (hk : k < L.length) (x y : Int) : findL (L.take (k + 1)) x y = (findL (L.take k) x y).or (if L[k].ses = x ∧ L[k].seq = y then some L[k].o else none) := by
  rw [List.take_succ_eq_append_getElem hk, findL_append]

set_option maxHeartbeats 400000 in
theorem high_any (w : World) (p : Nat) (L : List En) (F : Nat → Prop) (h : RefAt w p L F) (x : Int) :
    Calls Tryz.prog 46 #[.pointer (some ⟨p, 0, none⟩), .int .i64 x] w fun e w' => e = .returned (.int .i64 (highL L x)) ∧ w = w' := by
  obtain ⟨v, h⟩ := h
  obtain ⟨A, c, rfl, hc1, hc2⟩ := h.row.shape_ rfl
  have c0 := h.c0
  have hmx := @run_gmax Tryz.prog
  have HS := Lib.hid (h.row.sl elOne.len)
  unfold maxLen at hc2
  clear h
  go_enter Tryz.func46, Tryz.ntmps46
  go_wp2_with fail
  go_loopw [5, 6] (fun n i wr => ∃ k : Nat, k ≤ L.length ∧ n = .int .i64 (highL (L.take k) x) ∧ i = .int .i64 k ∧ w = wr) (fun _ i _ => L.length - (intOf i).toNat)
  case atStart => exact ⟨0, Nat.zero_le _, rfl, rfl, rfl⟩
  case round =>
    obtain ⟨k, hk, rfl, rfl, rfl⟩ := hrel
    by_cases hlt : k < L.length
    · obtain ⟨b, o, rfl, _, hbl, hxx⟩ := HS.out.cell_ hlt
      have x0 := hxx 0 _ rfl
      have x1 := hxx 1 _ rfl
      simp only [Nat.add_zero] at x0
      have ht := highL_take hlt x
      have HT := Lib.hid ht
      clear hxx ht
      by_cases he : L[k].ses = x
      · have hq : (L[k].ses == x) = true := by simp [he]
        have HE := Lib.hid he
        clear he
        go_wp2_with fail
        go_roundw
        case rel => exact ⟨k + 1, by omega, by rw [HT.out, if_pos HE.out, gmax_def], by go_num, by trivial⟩
        case measure => simp [intOf]; omega
      · have hq : (L[k].ses == x) = false := by simp [he]
        have HE := Lib.hid he
        clear he
        go_wp2_with fail
        go_roundw
        case rel => exact ⟨k + 1, by omega, by rw [HT.out, if_neg HE.out], by go_num, by trivial⟩
        case measure => simp [intOf]; omega
    · have hkd : k = L.length := by omega
      subst hkd
      go_wp2_with fail
      go_ret
      exact ⟨by rw [List.take_length]; rfl, rfl⟩

set_option maxHeartbeats 2000000 in
theorem rlook_any (w : World) (p : Nat) (L : List En) (F : Nat → Prop) (h : RefAt w p L F) (x y : Int) :
    Calls Tryz.prog 31 #[.pointer (some ⟨p, 0, none⟩), .int .i64 x, .int .i64 y] w fun e w' => e = .returned (.tuple #[ocv (lookL L x y).1, .int .i64 (lookL L x y).2]) ∧ Below w.heap.size w w' := by
  have hhi := high_any (w.alloc (.cells #[.int .i64 0, .int .i64 0, .int .i64 0, .int .i64 0] 34)) p L F (h.fresh ((Below.refl _ _).alloc (Nat.le_refl _) _)) x
  obtain ⟨v, h⟩ := h
  obtain ⟨A, c, rfl, hc1, hc2⟩ := h.row.shape_ rfl
  have hin := highL_in h.ok x
  have hp := h.lt p h.fp
  have c0 := h.c0
  have HS := Lib.hid (h.row.sl elOne.len)
  have HHI := Lib.hid hhi
  have hw : IntKind.i64.wrap (highL L x - 8) = highL L x - 8 := IntWalk.i64_in _ (by omega)
  unfold maxLen at hc2
  clear h hhi
  by_cases hy1 : y < 1
  · rw [lookL_old (.inl hy1)]
    clear hw hin
    go_enter Tryz.func31, Tryz.ntmps31
    go_wp2_with fail
    exact bodyPost_ret (v := .tuple #[ocv oc0, .int .i64 2]) (by simp [results, Tryz.results31, go_sem, ocv, oc0]) rfl ⟨rfl, (Below.refl _ w).alloc (Nat.le_refl _) _⟩
  · by_cases hy2 : y ≤ highL L x - 8
    · rw [lookL_old (.inr hy2)]
      go_enter Tryz.func31, Tryz.ntmps31
      go_wp2_with fail
      refine HHI.out.mono ?_
      rintro e w2 ⟨rfl, rfl⟩
      go_wp2_with fail
      exact bodyPost_ret (v := .tuple #[ocv oc0, .int .i64 2]) (by simp [results, Tryz.results31, go_sem, ocv, oc0]) rfl ⟨rfl, (Below.refl _ w).alloc (Nat.le_refl _) _⟩
    · have hno : ¬ (y < 1 ∨ y ≤ highL L x - 8) := by omega
      have HNO := Lib.hid hno
      clear hno
      obtain ⟨r, hr⟩ : ∃ r, lookL L x y = r := ⟨_, rfl⟩
      rw [hr]
      have HR := Lib.hid hr
      clear hr
      go_enter Tryz.func31, Tryz.ntmps31
      go_wp2_with fail
      refine HHI.out.mono ?_
      rintro e w2 ⟨rfl, rfl⟩
      go_wp2_with fail
      go_loopw [8] (fun i wr => ∃ k : Nat, k ≤ L.length ∧ i = .int .i64 k ∧ w.alloc (.cells #[.int .i64 0, .int .i64 0, .int .i64 0, .int .i64 0] 34) = wr ∧ findL (L.take k) x y = none) (fun i _ => L.length - (intOf i).toNat)
      case atStart => exact ⟨0, Nat.zero_le _, rfl, rfl, rfl⟩
      case round =>
        obtain ⟨k, hk, rfl, rfl, hfn⟩ := hrel
        have HFN := Lib.hid hfn
        clear hfn
        by_cases hlt : k < L.length
        · obtain ⟨b, o, rfl, _, hbl, hxx⟩ := HS.out.cell_ hlt
          have x0 := hxx 0 _ rfl
          have x1 := hxx 1 _ rfl
          have x2 := hxx 2 _ rfl
          have x3 := hxx 3 _ rfl
          have x4 := hxx 4 _ rfl
          have x5 := hxx 5 _ rfl
          simp only [Nat.add_zero] at x0
          have ht := findL_take hlt x y
          rw [HFN.out, Option.none_or] at ht
          have HT := Lib.hid ht
          clear hxx ht
          by_cases he : L[k].ses = x
          · have hq : (L[k].ses == x) = true := by simp [he]
            have HE := Lib.hid he
            clear he
            by_cases he2 : L[k].seq = y
            · have hq2 : (L[k].seq == y) = true := by simp [he2]
              have hl : lookL L x y = (L[k].o, 1) := by
                refine lookL_known HNO.out ?_
                have h1 := HT.out
                rw [if_pos ⟨HE.out, he2⟩] at h1
                have h2 : findL (L.take (k + 1) ++ L.drop (k + 1)) x y = some L[k].o := by rw [findL_cat, h1]; rfl
                rwa [List.take_append_drop] at h2
              obtain rfl : r = (L[k].o, 1) := HR.out.symm.trans hl
              clear hl he2
              go_wp2_with fail
              exact bodyPost_ret (v := .tuple #[ocv L[k].o, .int .i64 1]) (by simp [results, Tryz.results31, go_sem, ocv]) rfl ⟨rfl, (Below.refl _ w).alloc (Nat.le_refl _) _⟩
            · have hq2 : (L[k].seq == y) = false := by simp [he2]
              have HE2 := Lib.hid he2
              clear he2
              go_wp2_with fail
              go_roundw
              case rel => exact ⟨k + 1, by omega, by go_num, by trivial, by rw [HT.out, if_neg (fun h => HE2.out h.2)]⟩
              case measure => simp [intOf]; omega
          · have hq : (L[k].ses == x) = false := by simp [he]
            have HE := Lib.hid he
            clear he
            go_wp2_with fail
            go_roundw
            case rel => exact ⟨k + 1, by omega, by go_num, by trivial, by rw [HT.out, if_neg (fun h => HE.out h.1)]⟩
            case measure => simp [intOf]; omega
        · have hkd : k = L.length := by omega
          subst hkd
          have hl : lookL L x y = (oc0, 0) := by
            refine lookL_fresh HNO.out ?_
            have := HFN.out
            rwa [List.take_length] at this
          obtain rfl : r = (oc0, 0) := HR.out.symm.trans hl
          clear hl
          go_wp2_with fail
          exact bodyPost_ret (v := .tuple #[ocv oc0, .int .i64 0]) (by simp [results, Tryz.results31, go_sem, ocv, oc0]) rfl ⟨rfl, (Below.refl _ w).alloc (Nat.le_refl _) _⟩

set_option maxHeartbeats 2000000 in
theorem rput_any (w : World) (p : Nat) (L : List En) (F : Nat → Prop) (h : RefAt w p L F) (hL : L.length ≤ 1000000) (x y : Int) (hx : i64 x) (hy : i64 y) (o : Oc) :
    Calls Tryz.prog 33 #[.pointer (some ⟨p, 0, none⟩), .int .i64 x, .int .i64 y, .agg #[.int .i64 o.code, .int .i64 o.pos, .int .i64 o.first, .int .i64 o.ver]] w fun e w' => e = .returned (.int .i64 (putL L x y o).2) ∧ Keeps (fun z => z = p) w w' ∧
      RefAt w' p (putL L x y o).1 (fun k => F k ∨ (w.heap.size ≤ k ∧ k < w'.heap.size)) := by
  have hkeep : ∀ w', Below w.heap.size w w' → Keeps (fun z => z = p) w w' ∧ RefAt w' p L (fun k => F k ∨ (w.heap.size ≤ k ∧ k < w'.heap.size)) := fun w' hB => by
    obtain ⟨v, h1⟩ := h.fresh hB
    exact ⟨Keeps.of_fresh hB _, v, h1.blk, h1.row, .inl h1.fp, fun b hb => .inl (h1.fv b hb), fun k hk => by rcases hk with e | e; exact h1.lt k e; exact e.2, h1.ok⟩
  have HKeep := Lib.hid hkeep
  clear hkeep
  have hBo : Below w.heap.size w (w.alloc (.cells #[.int .i64 o.code, .int .i64 o.pos, .int .i64 o.first, .int .i64 o.ver] 34)) := (Below.refl _ w).alloc (Nat.le_refl _) _
  have hlook := rlook_any _ p L F (h.fresh hBo) x y
  have H := Lib.hid h
  clear h
  by_cases hbad : x < 1 ∨ y < 1
  · rw [show putL L x y o = (L, 1) from if_pos hbad]
    clear hlook hBo
    by_cases hx1 : x < 1
    · go_enter Tryz.func33, Tryz.ntmps33
      go_wp2_with fail
      go_ret
      exact ⟨rfl, HKeep.out _ ((Below.refl _ w).alloc (Nat.le_refl _) _)⟩
    · have hy1 : y < 1 := by omega
      go_enter Tryz.func33, Tryz.ntmps33
      go_wp2_with fail
      go_ret
      exact ⟨rfl, HKeep.out _ ((Below.refl _ w).alloc (Nat.le_refl _) _)⟩
  · have hx1 : ¬ x < 1 := by omega
    have hy1 : ¬ y < 1 := by omega
    have hput : putL L x y o = if (lookL L x y).2 = 1 then (L, 7) else if (lookL L x y).2 = 2 then (L, 12) else (L ++ [⟨x, y, o⟩], 0) := if_neg hbad
    have hcs := lookL_cases L x y
    obtain ⟨lo, ln, hln⟩ : ∃ lo ln, lookL L x y = (lo, ln) := ⟨_, _, rfl⟩
    rw [hln] at hput hcs hlook
    unfold ocv at hlook
    have HLk := Lib.hid hlook
    have HBo := Lib.hid hBo
    have HBO := Lib.hid (heap_alloc_new w (.cells #[.int .i64 o.code, .int .i64 o.pos, .int .i64 o.first, .int .i64 o.ver] 34))
    clear hlook hBo hbad
    rcases hcs with ⟨hl, _, hnw, hfn⟩ | hl | hl
    · obtain rfl : ln = 0 := hl
      rw [if_neg (by simp), if_neg (by simp)] at hput
      rw [hput]
      obtain ⟨v, h⟩ := H.out
      obtain ⟨A, c, rfl, hc1, hc2⟩ := h.row.shape_ rfl
      unfold maxLen at hc2
      have HI := Lib.hid h
      have hp := h.lt p h.fp
      clear hput h hnw hfn
      go_enter Tryz.func33, Tryz.ntmps33
      go_wp2_with fail
      refine HLk.out.mono ?_
      rintro e w2 ⟨rfl, hB2⟩
      have hB3 : Below w.heap.size w (w2.alloc (.cells #[.int .i64 lo.code, .int .i64 lo.pos, .int .i64 lo.first, .int .i64 lo.ver] 34)) := (HBo.out.trans (hB2.mono (by simp))).alloc (by have := hB2.size; simp at this; omega) _
      have hbo3 := ((Keeps.refl (fun _ => False) w2).alloc (.cells #[.int .i64 lo.code, .int .i64 lo.pos, .int .i64 lo.first, .int .i64 lo.ver] 34)).grownTo ((Keeps.of_fresh hB2 (fun _ => False)).grownTo HBO.out id) id
      go_upto_region 8 with (fail)
      generalize w2.alloc (.cells #[.int .i64 lo.code, .int .i64 lo.pos, .int .i64 lo.first, .int .i64 lo.ver] 34) = w3 at hB3 hbo3 ⊢
      have HI3 := Lib.hid (HI.out.fresh hB3)
      have c0 := HI3.out.c0
      have HB3 := Lib.hid hB3
      have HBO3 := Lib.hid hbo3
      have hp3 : p < w3.heap.size := Nat.lt_of_lt_of_le hp hB3.size
      have hw3 : w.heap.size < w3.heap.size := (Array.getElem?_eq_some_iff.1 hbo3).1
      clear hB2 hB3 hbo3
      have tok : True := trivial
      go_wp2_with (first
        | (have hx1 := hown1
           at_builtin
           refine elOne.append _ (by rfl) (.tmp 35) (.tmp 40) (by rfl) w3.heap.size _ L (by rfl) (hx1.fresh ((Below.refl _ _).alloc (Nat.le_refl _) _)) _ _ [⟨x, y, o⟩] (by rfl) (Sl.single (k := 6) (enc := onec) (x := ⟨x, y, o⟩) (heap_alloc_new _ _) rfl) (by simp; omega) (by have := hba.size; simp; omega) ?_
           intro v2 w5 hown2 hg2 hat2
           obtain ⟨a2, c2, hv2, _, _⟩ := hown2.shape_ (n := L.length + 1) (by simp)
           subst hv2
           have Hown2 := Lib.hid hown2
           have hbc : Below w3.heap.size w3 w5 := (hba.alloc hba.size _).grown hg2 (Nat.le_trans hba.size (by simp)) (fun q hq => (hx1.lt q hq).1)
           have f0 := hbc.cell (p := ⟨p, 0, none⟩) hp3
           rw [c0] at f0
           have g0 : w5.frozen? ⟨p, 0, none⟩ = false := frozen_block ((Keeps.of_fresh hbc (fun _ => False)).grownTo HI3.out.blk id) 0
           clear hown1 hx1 hown2)
        | (have t := tok
           at_builtin
           refine elOne.append _ (by rfl) (.tmp 29) (.tmp 33) (by rfl) w3.heap.size (.slice (some ⟨w3.heap.size, 0, none⟩) 0 0) [] (by rfl) (Own.made w3 (Nat.le_refl _) _ _ _) _ _ L (by rfl) ((HI3.out.row.sl elOne.len).fresh ((Below.refl _ _).alloc (Nat.le_refl _) _)) (by simp; omega) (by simp) ?_
           intro v1 w4 hown1 hg1 hat1
           rw [List.nil_append] at hown1
           have hba : Below w3.heap.size w3 w4 := ((Below.refl _ w3).alloc (Nat.le_refl _) _).grown hg1 (by simp) (fun q hq => by simp [Value.ownBlock] at hq; omega)
           have e3 : w4.cell? ⟨w.heap.size, 0, none⟩ = some (.int .i64 o.code) := (hba.cell (p := ⟨w.heap.size, 0, none⟩) hw3).trans (cell_of_row w3 _ 0 _ _ _ HBO3.out)
           have e4 : w4.cell? ⟨w.heap.size, 1, none⟩ = some (.int .i64 o.pos) := (hba.cell (p := ⟨w.heap.size, 1, none⟩) hw3).trans (cell_of_row w3 _ 1 _ _ _ HBO3.out)
           have e5 : w4.cell? ⟨w.heap.size, 2, none⟩ = some (.int .i64 o.first) := (hba.cell (p := ⟨w.heap.size, 2, none⟩) hw3).trans (cell_of_row w3 _ 2 _ _ _ HBO3.out)
           have e6 : w4.cell? ⟨w.heap.size, 3, none⟩ = some (.int .i64 o.ver) := (hba.cell (p := ⟨w.heap.size, 3, none⟩) hw3).trans (cell_of_row w3 _ 3 _ _ _ HBO3.out)
           clear tok t))
      go_ret
      have hk : Keeps (fun z => z = p) w (w5.setCell ⟨p, 0, none⟩ (.slice a2 (L.length + 1) c2)) := ((Keeps.of_fresh HB3.out (fun z => z = p)).trans (Keeps.of_fresh hbc _)).setCell (p := ⟨p, 0, none⟩) (fun _ => rfl) _
      have hblk5 := setCell_block' (o := 0) ((Keeps.of_fresh hbc (fun _ => False)).grownTo HI3.out.blk id) (.slice a2 (L.length + 1) c2)
      have hvp : ∀ q, (Value.slice a2 (L.length + 1) c2).ownBlock = some q → w3.heap.size ≤ q ∧ q < w5.heap.size := fun q hq => Hown2.out.lt q hq
      have hsz : (w5.setCell ⟨p, 0, none⟩ (.slice a2 (L.length + 1) c2)).heap.size = w5.heap.size := size_setCell _ _ _
      refine ⟨rfl, hk, (.slice a2 (L.length + 1) c2), hblk5, ?_, .inl HI.out.fp, fun q hq => .inr ⟨by have := hvp q hq; omega, by rw [hsz]; exact (hvp q hq).2⟩, fun k hk' => ?_, ?_⟩
      · exact (Hown2.out.keep (Keeps.one w5 p 0 (.slice a2 (L.length + 1) c2)) (fun q hq e => by have := hvp q hq; omega)).lower (Nat.zero_le _)
      · rcases hk' with e | e
        · exact Nat.lt_of_lt_of_le (HI.out.lt k e) hk.size
        · exact e.2
      · unfold i64 at hx hy
        refine ⟨fun e he => ?_, fun e he => ?_⟩
        · rcases List.mem_append.1 he with he | he
          · exact HI.out.ok.ses e he
          · obtain rfl := List.mem_singleton.1 he; show 1 ≤ x ∧ x ≤ _; omega
        · rcases List.mem_append.1 he with he | he
          · exact HI.out.ok.seq e he
          · obtain rfl := List.mem_singleton.1 he; show 1 ≤ y ∧ y ≤ _; omega
    · obtain rfl : ln = 1 := hl
      rw [if_pos rfl] at hput
      rw [hput]
      clear hput
      go_enter Tryz.func33, Tryz.ntmps33
      go_wp2_with fail
      refine HLk.out.mono ?_
      rintro e w2 ⟨rfl, hB2⟩
      have HB2 := Lib.hid (HBo.out.trans (hB2.mono (by simp)))
      clear hB2
      go_wp2_with fail
      go_ret
      exact ⟨rfl, HKeep.out _ (HB2.out.alloc HB2.out.size _)⟩
    · obtain rfl : ln = 2 := hl
      rw [if_neg (by simp), if_pos rfl] at hput
      rw [hput]
      clear hput
      go_enter Tryz.func33, Tryz.ntmps33
      go_wp2_with fail
      refine HLk.out.mono ?_
      rintro e w2 ⟨rfl, hB2⟩
      have HB2 := Lib.hid (HBo.out.trans (hB2.mono (by simp)))
      clear hB2
      go_wp2_with fail
      go_ret
      exact ⟨rfl, HKeep.out _ (HB2.out.alloc HB2.out.size _)⟩
end Go.Proofs.YthdcnknjjbdefaaGreatDoor.Ded
