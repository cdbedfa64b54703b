/- Views: without a node. Under the stated premises on sizes. -/
import Derived.Test.YtoegdpcfhmjnaaaGreatDoorVwC
namespace Go.Proofs.YtoegdpcfhmjnaaaGreatDoor
open Go.RowKit Go.Bl Go.Shelf
attribute [local go_sem ↓] Go.wp_at_zero Go.wp_at_succ

def encZi (n : Int) : Value := .int .i64 n
theorem putRow_keeps (w : World) (n g o : Nat) (d : Array Int) : Keeps (fun k => k = g) w (Sort.putRow encZi (Sort.ahead w n) g o d) :=
  ⟨rfl, rfl, rfl, Nat.le_of_eq (Sort.size_putRow encZi (Sort.ahead w n) g o d).symm, fun k _ hn => by
    show ((Sort.ahead w n).heap.modify g _)[k]? = w.heap[k]?
    rw [Array.getElem?_modify, if_neg (fun e => hn e.symm)]
    rfl⟩
/-- A number left out of a row of the call's own. -/
theorem delete_own (w : World) (base : Nat) (v : Value) (l : List Int) (h : Own w base 3 1 intc v l) (i : Nat) (hi : i < l.length) :
    Calls Tryz.prog 79 #[v, .int .i64 i, .int .i64 (i + 1 : Nat)] w fun e w' => ∃ v', e = .returned v' ∧ Sl w' (fun k => v.ownBlock = some k) 1 intc v' (l.take i ++ l.drop (i + 1)) ∧ Keeps (fun k => v.ownBlock = some k) w w' := by
  rcases h.2 with ⟨rfl, hl⟩ | ⟨g, cap, cur, rfl, hb, hg, hn, hm, hs, ht⟩
  · omega
  have hcell : ∀ j (hj : j < l.length), w.cell? ⟨g, j, none⟩ = some (.int .i64 l[j]) := by
    intro j hj
    obtain ⟨b', o', e, _, _, hc⟩ := (h.sl (fun _ => rfl)).cell_ hj
    cases e
    have := hc 0 _ rfl
    rw [Nat.zero_add, Nat.mul_one, Nat.add_zero] at this
    exact this
  have hH : Sort.Holds encZi w g 0 l.toArray := by
    intro j hj
    have hj' : j < l.length := by simpa using hj
    refine ⟨?_, frozen_block hg _⟩
    rw [Nat.zero_add, hcell j hj']
    simp [encZi, hj']
  obtain ⟨i0, hi0, h1, h2, h3⟩ := info_parts infoInt
  have hc := AnyE.slices_Delete Tryz.delete79 encZi (fun _ => rfl) 0 zeroInt i0 hi0 h2 g 0 cap i (i + 1) l.toArray w hH (by simpa using hn) (by unfold maxLen at hm; omega) (Nat.le_succ _) (by simp; omega)
  have hsz : l.toArray.size = l.length := by simp
  rw [hsz] at hc
  refine Calls.mono (show Calls Tryz.prog 79 #[.slice (some ⟨g, 0, none⟩) l.length cap, .int .i64 i, .int .i64 (i + 1 : Nat)] w _ from hc) ?_
  rintro e w' ⟨rfl, q, rfl⟩
  refine ⟨_, rfl, ?_, (putRow_keeps w q g 0 _).mono (fun k _ e => by rw [show k = g from e]; rfl)⟩
  have hlen : (l.take i ++ l.drop (i + 1)).length = l.length - 1 := by rw [List.length_append, List.length_take, List.length_drop]; omega
  refine ⟨some ⟨g, 0, none⟩, cap, by rw [hlen, Nat.add_sub_cancel_left], by rw [hlen]; omega, hm, fun _ => ⟨g, 0, rfl, rfl, ?_, ?_⟩⟩
  · rw [Sort.size_putRow]
    exact (Array.getElem?_eq_some_iff.1 hg).1
  · intro j hj k u hu
    have hk : k = 0 := by
      have := (List.getElem?_eq_some_iff.1 hu).1
      have : k < 1 := this
      omega
    subst hk
    rw [hlen] at hj
    have hH' : Sort.Holds encZi (Sort.ahead w q) g 0 l.toArray := hH
    have := Sort.cell?_putRow encZi (Sort.ahead w q) g 0 l.toArray (l.toArray.toList.take i ++ l.toArray.toList.drop (i + 1) ++ List.replicate (i + 1 - i) 0).toArray hH' (by simp; omega) j (by simp; omega)
    rw [show 0 + j * 1 + 0 = 0 + j by omega, this]
    have hu' : u = .int .i64 ((l.take i ++ l.drop (i + 1))[j]'(by omega)) := by
      have : [Value.int .i64 ((l.take i ++ l.drop (i + 1))[j]'(by omega))][0]? = some u := hu
      simpa using this.symm
    rw [hu']
    have hj2 : j < (l.toArray.toList.take i ++ l.toArray.toList.drop (i + 1) ++ List.replicate (i + 1 - i) 0).toArray.size := by simp; omega
    have e : (l.toArray.toList.take i ++ l.toArray.toList.drop (i + 1) ++ List.replicate (i + 1 - i) 0).toArray[j] = (l.take i ++ l.drop (i + 1))[j]'(by omega) := by
      rw [List.getElem_toArray, List.getElem_append_left (by simp; omega)]
    rw [getElem!_pos _ j hj2, e]
    rfl
theorem cut_any (w : World) (b o n c : Nat) (l : List Int) (F : Nat → Prop) (hS : Sl w F 1 intc (.slice (some ⟨b, o, none⟩) n c) l) (hl : l.length ≤ 1000000) (i : Nat) (hi : i < l.length) :
    Calls Tryz.prog 62 #[.slice (some ⟨b, o, none⟩) n c, .int .i64 i] w fun e w' => ∃ v', e = .returned v' ∧ Sl w' (fun k => w.heap.size ≤ k) 1 intc v' (l.take i ++ l.drop (i + 1)) ∧ Below w.heap.size w w' := by
  have hc := clone_some w b o n c l F hS (by omega)
  have HC := Lib.hid hc
  clear hc hS
  go_enter Tryz.func62, Tryz.ntmps62
  go_wp2_with fail
  refine HC.out.mono ?_
  rintro e w2 ⟨v, rfl, hO, _, hB⟩
  have hd := delete_own w2 w.heap.size v l hO i hi
  have hlt := Own.lt hO
  rw [Int.natCast_add] at hd
  have HD := Lib.hid hd
  have HB := Lib.hid hB
  have HLT := Lib.hid hlt
  obtain ⟨A, ca, rfl, hA1, hA2⟩ := hO.shape_ rfl
  clear hO hd hB hlt
  go_wp2_with fail
  refine HD.out.mono ?_
  rintro e w3 ⟨v', rfl, hS, hK⟩
  have HS := Lib.hid (hS.mono (F' := fun k => w.heap.size ≤ k) fun k _ hk => (HLT.out k hk).1)
  have HK := Lib.hid (Below.keep HB.out hK HB.out.size (fun k hk => (HLT.out k hk).1))
  obtain ⟨A', ca', rfl, _, _⟩ := hS.shape_ (n := l.length - 1) (by rw [List.length_append, List.length_take, List.length_drop]; omega)
  clear hS hK
  go_wp2_with fail
  go_ret
  exact ⟨_, rfl, HS.out, HK.out⟩
theorem cutN_at {ep : Int} {L : List Nd} {x : Int} (hr : RightV ⟨ep, L⟩) (hx : x ∈ L.map Nd.node) : ∃ i : Nat, i < L.length ∧ idxI x 0 (L.map Nd.node) = (i : Int) ∧ ∀ {β : Type} (f : Nd → β), ((⟨ep, L⟩ : Vw).cutN x).L.map f = (L.map f).take i ++ (L.map f).drop (i + 1) := by
  obtain ⟨i, h1, h2⟩ := idxI_get x 0 (L.map Nd.node) (Int.le_refl _) hx
  rw [List.getElem?_map] at h2
  cases h3 : L[i]? with
  | none => rw [h3] at h2; cases h2
  | some y =>
    rw [h3] at h2
    have h4 : y.node = x := by simpa using h2
    refine ⟨i, (List.getElem?_eq_some_iff.1 h3).1, by omega, fun f => ?_⟩
    have := cut_at hr.nodup h3
    rw [h4] at this
    show (L.filter fun z => decide (z.node ≠ x)).map f = _
    rw [this, List.map_append, List.map_take, List.map_drop]
theorem sl_len {w : World} {F : Nat → Prop} {v : Value} {l l' : List Int} (h : Sl w F 1 intc v l) (e : l = l') : Sl w F 1 intc v l' := e ▸ h
set_option maxRecDepth 20000 in
set_option maxHeartbeats 4000000 in
theorem without_large (w : World) (F : Nat → Prop) (L : List Nd) (a b c : Value) (h : VwSl w F L a b c) (hr : RightV ⟨274877906944, L⟩) (x : Int) (hx : x ∈ L.map Nd.node) (h1 : L.length ≠ 1) :
    Calls Tryz.prog 43 #[.agg #[.int .i64 274877906944, a, b, c], .int .i64 x] w fun e w' => e = .returned (.tuple #[.agg #[.int .i64 0, .slice none 0 0, .slice none 0 0, .slice none 0 0], .int .i64 4]) ∧ Below w.heap.size w w' := by
  obtain ⟨ep, hep⟩ : ∃ ep : Int, ep = 274877906944 := ⟨_, rfl⟩
  rw [← hep] at hr ⊢
  have hL := hr.n1
  have hL6 := hr.n2
  change 1 ≤ L.length at hL
  change L.length ≤ 6 at hL6
  obtain ⟨i, hi, hidx, hrows⟩ := cutN_at hr hx
  obtain ⟨qa, oa, ca, qb, ob, cb, qc, oc, cc, rfl, rfl, rfl, hca, hcm, hcb, hcc⟩ := h.some_ hL
  have dl : ((L.length : Int) == 1) = false := by rw [beq_eq_false_iff_ne]; omega
  have de : (ep == 274877906944) = true := by rw [beq_iff_eq]; exact hep
  have hB0 : Below w.heap.size w ((w.alloc (.cells #[.int .i64 ep, .slice (some ⟨qa, oa, none⟩) L.length ca, .slice (some ⟨qb, ob, none⟩) L.length cb, .slice (some ⟨qc, oc, none⟩) L.length cc] 45)).alloc (.cells #[.int .i64 0, .slice none 0 0, .slice none 0 0, .slice none 0 0] 45)) := ((Below.refl _ w).alloc (Nat.le_refl _) _).alloc (by simp) _
  have hb1 : ((w.alloc (.cells #[.int .i64 ep, .slice (some ⟨qa, oa, none⟩) L.length ca, .slice (some ⟨qb, ob, none⟩) L.length cb, .slice (some ⟨qc, oc, none⟩) L.length cc] 45)).alloc (.cells #[.int .i64 0, .slice none 0 0, .slice none 0 0, .slice none 0 0] 45)).heap[w.heap.size]? = some (.cells #[.int .i64 ep, .slice (some ⟨qa, oa, none⟩) L.length ca, .slice (some ⟨qb, ob, none⟩) L.length cb, .slice (some ⟨qc, oc, none⟩) L.length cc] 45 (0, 0)) := (Below.heap_alloc _ _ _ (by simp)).trans (heap_alloc_new w _)
  have hb2 : ((w.alloc (.cells #[.int .i64 ep, .slice (some ⟨qa, oa, none⟩) L.length ca, .slice (some ⟨qb, ob, none⟩) L.length cb, .slice (some ⟨qc, oc, none⟩) L.length cc] 45)).alloc (.cells #[.int .i64 0, .slice none 0 0, .slice none 0 0, .slice none 0 0] 45)).heap[w.heap.size + 1]? = some (.cells #[.int .i64 0, .slice none 0 0, .slice none 0 0, .slice none 0 0] 45 (0, 0)) := by
    have := heap_alloc_new (w.alloc (.cells #[.int .i64 ep, .slice (some ⟨qa, oa, none⟩) L.length ca, .slice (some ⟨qb, ob, none⟩) L.length cb, .slice (some ⟨qc, oc, none⟩) L.length cc] 45)) (.cells #[.int .i64 0, .slice none 0 0, .slice none 0 0, .slice none 0 0] 45)
    rw [World.size_alloc] at this
    exact this
  have H := Lib.hid h
  clear h
  have HR := Lib.hid hr
  have HI := Lib.hid hidx
  have HN := Lib.hid h1
  clear hr hidx h1 hep hx hrows
  go_enter Tryz.func43, Tryz.ntmps43
  go_upto_region 1 with (fail)
  generalize (w.alloc (.cells #[.int .i64 ep, .slice (some ⟨qa, oa, none⟩) L.length ca, .slice (some ⟨qb, ob, none⟩) L.length cb, .slice (some ⟨qc, oc, none⟩) L.length cc] 45)).alloc (.cells #[.int .i64 0, .slice none 0 0, .slice none 0 0, .slice none 0 0] 45) = w0 at hB0 hb1 hb2 ⊢
  obtain ⟨q, hq⟩ : ∃ q, w.heap.size = q := ⟨_, rfl⟩
  have HQ := Lib.hid hq
  rw [hq] at hb1 hb2 ⊢
  obtain ⟨r, hr⟩ : ∃ r, q + 1 = r := ⟨_, rfl⟩
  rw [hr] at hb2 ⊢
  have hqr : q < r := by omega
  have HB0 := Lib.hid hB0
  have HV0 := Lib.hid (H.out.fresh HB0.out)
  have HK1 := Lib.hid hb1
  have HK2 := Lib.hid hb2
  clear hq hr hb1 hb2 hB0 H
  have c0 : w0.cell? ⟨q, 0, none⟩ = some (.int .i64 ep) := cell_of_row w0 q 0 _ _ _ HK1.out
  have c1 : w0.cell? ⟨q, 1, none⟩ = some (.slice (some ⟨qa, oa, none⟩) L.length ca) := cell_of_row w0 q 1 _ _ _ HK1.out
  have c2 : w0.cell? ⟨q, 2, none⟩ = some (.slice (some ⟨qb, ob, none⟩) L.length cb) := cell_of_row w0 q 2 _ _ _ HK1.out
  have c3 : w0.cell? ⟨q, 3, none⟩ = some (.slice (some ⟨qc, oc, none⟩) L.length cc) := cell_of_row w0 q 3 _ _ _ HK1.out
  go_wp2_with fail
  refine (place_any w0 F ep L _ _ _ HV0.out HR.out x).mono ?_
  rintro e wa ⟨rfl, hBa⟩
  rw [HI.out]
  have hq0 : q < w0.heap.size := (Array.getElem?_eq_some_iff.1 HK1.out).1
  have hr0 : r < w0.heap.size := (Array.getElem?_eq_some_iff.1 HK2.out).1
  have c0 := (hBa.cell (p := ⟨q, 0, none⟩) hq0).trans c0
  have c1 := (hBa.cell (p := ⟨q, 1, none⟩) hq0).trans c1
  have c2 := (hBa.cell (p := ⟨q, 2, none⟩) hq0).trans c2
  have c3 := (hBa.cell (p := ⟨q, 3, none⟩) hq0).trans c3
  have HBa := Lib.hid hBa
  clear hBa
  go_wp2_with fail
  refine (right_any wa F ep L _ _ _ (HV0.out.fresh HBa.out)).mono ?_
  rintro e w1 ⟨rfl, hB1⟩
  rw [rightV_iff.2 HR.out]
  have hBa1 : Below w0.heap.size w0 w1 := HBa.out.trans (hB1.mono HBa.out.size)
  have HL1 := Lib.hid ((hBa1.block q hq0).trans HK1.out)
  have HL2 := Lib.hid ((hBa1.block r hr0).trans HK2.out)
  have HB1 := Lib.hid (HB0.out.trans (hBa1.mono HB0.out.size))
  have HV := Lib.hid (HV0.out.fresh hBa1)
  clear hB1 hBa1 c0 c1 c2 c3
  have hq1 : q < w1.heap.size := (Array.getElem?_eq_some_iff.1 HL1.out).1
  have hr1 : r < w1.heap.size := (Array.getElem?_eq_some_iff.1 HL2.out).1
  have c0 : w1.cell? ⟨q, 0, none⟩ = some (.int .i64 ep) := cell_of_row w1 q 0 _ _ _ HL1.out
  have c1 : w1.cell? ⟨q, 1, none⟩ = some (.slice (some ⟨qa, oa, none⟩) L.length ca) := cell_of_row w1 q 1 _ _ _ HL1.out
  have c2 : w1.cell? ⟨q, 2, none⟩ = some (.slice (some ⟨qb, ob, none⟩) L.length cb) := cell_of_row w1 q 2 _ _ _ HL1.out
  have c3 : w1.cell? ⟨q, 3, none⟩ = some (.slice (some ⟨qc, oc, none⟩) L.length cc) := cell_of_row w1 q 3 _ _ _ HL1.out
  have r0 : w1.cell? ⟨r, 0, none⟩ = some (.int .i64 0) := cell_of_row w1 r 0 _ _ _ HL2.out
  have r1 : w1.cell? ⟨r, 1, none⟩ = some (.slice none 0 0) := cell_of_row w1 r 1 _ _ _ HL2.out
  have r2 : w1.cell? ⟨r, 2, none⟩ = some (.slice none 0 0) := cell_of_row w1 r 2 _ _ _ HL2.out
  have r3 : w1.cell? ⟨r, 3, none⟩ = some (.slice none 0 0) := cell_of_row w1 r 3 _ _ _ HL2.out
  have g0 := frozen_block HL2.out 0
  have g1 := frozen_block HL2.out 1
  have g2 := frozen_block HL2.out 2
  have g3 := frozen_block HL2.out 3
  go_wp2_with fail
  have hb4 := four_block HL2.out (.int .i64 0) (.slice none 0 0) (.slice none 0 0) (.slice none 0 0)
  have hBe := Below.keep HB1.out (four_keeps w1 r (.int .i64 0) (.slice none 0 0) (.slice none 0 0) (.slice none 0 0)) HB1.out.size (fun k e => by have := HQ.out; have e2 : k = r := e; omega)
  generalize ((((w1.setCell ⟨r, 0, none⟩ (.int .i64 0)).setCell ⟨r, 1, none⟩ (.slice none 0 0)).setCell ⟨r, 2, none⟩ (.slice none 0 0)).setCell ⟨r, 3, none⟩ (.slice none 0 0)) = w5 at hb4 hBe ⊢
  have z0 := cell_of_row w5 r 0 _ _ _ hb4
  have z1 := cell_of_row w5 r 1 _ _ _ hb4
  have z2 := cell_of_row w5 r 2 _ _ _ hb4
  have z3 := cell_of_row w5 r 3 _ _ _ hb4
  refine bodyPost_ret (v := .tuple #[.agg #[.int .i64 0, .slice none 0 0, .slice none 0 0, .slice none 0 0], .int .i64 4]) (by simp [results, Tryz.results43, go_sem, z0, z1, z2, z3]) rfl ⟨rfl, hBe⟩
set_option maxRecDepth 20000 in
set_option maxHeartbeats 4000000 in
theorem without_any (w : World) (F : Nat → Prop) (ep : Int) (L : List Nd) (a b c : Value) (h : VwSl w F L a b c) (hr : RightV ⟨ep, L⟩) (x : Int) (hx : x ∈ L.map Nd.node) (h1 : L.length ≠ 1) (hep : ep ≠ 274877906944) :
    Calls Tryz.prog 43 #[.agg #[.int .i64 ep, a, b, c], .int .i64 x] w fun e w' => ∃ a' b' c', e = .returned (.tuple #[.agg #[.int .i64 (ep + 1), a', b', c'], .int .i64 0]) ∧ VwSl w' (fun k => w.heap.size ≤ k) ((⟨ep, L⟩ : Vw).cutN x).L a' b' c' ∧ Below w.heap.size w w' := by
  have hL := hr.n1
  have hL6 := hr.n2
  have he1 := hr.ep1
  have he2 := hr.ep2
  change 1 ≤ L.length at hL
  change L.length ≤ 6 at hL6
  change 1 ≤ ep at he1
  change ep ≤ 274877906944 at he2
  obtain ⟨i, hi, hidx, hrows⟩ := cutN_at hr hx
  obtain ⟨qa, oa, ca, qb, ob, cb, qc, oc, cc, rfl, rfl, rfl, hca, hcm, hcb, hcc⟩ := h.some_ hL
  have dl : ((L.length : Int) == 1) = false := by rw [beq_eq_false_iff_ne]; omega
  have de : (ep == 274877906944) = false := by rw [beq_eq_false_iff_ne]; exact hep
  have hB0 : Below w.heap.size w ((w.alloc (.cells #[.int .i64 ep, .slice (some ⟨qa, oa, none⟩) L.length ca, .slice (some ⟨qb, ob, none⟩) L.length cb, .slice (some ⟨qc, oc, none⟩) L.length cc] 45)).alloc (.cells #[.int .i64 0, .slice none 0 0, .slice none 0 0, .slice none 0 0] 45)) := ((Below.refl _ w).alloc (Nat.le_refl _) _).alloc (by simp) _
  have hb1 : ((w.alloc (.cells #[.int .i64 ep, .slice (some ⟨qa, oa, none⟩) L.length ca, .slice (some ⟨qb, ob, none⟩) L.length cb, .slice (some ⟨qc, oc, none⟩) L.length cc] 45)).alloc (.cells #[.int .i64 0, .slice none 0 0, .slice none 0 0, .slice none 0 0] 45)).heap[w.heap.size]? = some (.cells #[.int .i64 ep, .slice (some ⟨qa, oa, none⟩) L.length ca, .slice (some ⟨qb, ob, none⟩) L.length cb, .slice (some ⟨qc, oc, none⟩) L.length cc] 45 (0, 0)) := (Below.heap_alloc _ _ _ (by simp)).trans (heap_alloc_new w _)
  have hb2 : ((w.alloc (.cells #[.int .i64 ep, .slice (some ⟨qa, oa, none⟩) L.length ca, .slice (some ⟨qb, ob, none⟩) L.length cb, .slice (some ⟨qc, oc, none⟩) L.length cc] 45)).alloc (.cells #[.int .i64 0, .slice none 0 0, .slice none 0 0, .slice none 0 0] 45)).heap[w.heap.size + 1]? = some (.cells #[.int .i64 0, .slice none 0 0, .slice none 0 0, .slice none 0 0] 45 (0, 0)) := by
    have := heap_alloc_new (w.alloc (.cells #[.int .i64 ep, .slice (some ⟨qa, oa, none⟩) L.length ca, .slice (some ⟨qb, ob, none⟩) L.length cb, .slice (some ⟨qc, oc, none⟩) L.length cc] 45)) (.cells #[.int .i64 0, .slice none 0 0, .slice none 0 0, .slice none 0 0] 45)
    rw [World.size_alloc] at this
    exact this
  have H := Lib.hid h
  clear h
  have HR := Lib.hid hr
  have HI := Lib.hid hidx
  have HRW := Lib.hid (show ∀ f : Nd → Int, ((⟨ep, L⟩ : Vw).cutN x).L.map f = (L.map f).take i ++ (L.map f).drop (i + 1) from fun f => hrows f)
  clear hr hidx h1 hep hx hrows
  go_enter Tryz.func43, Tryz.ntmps43
  go_upto_region 1 with (fail)
  generalize (w.alloc (.cells #[.int .i64 ep, .slice (some ⟨qa, oa, none⟩) L.length ca, .slice (some ⟨qb, ob, none⟩) L.length cb, .slice (some ⟨qc, oc, none⟩) L.length cc] 45)).alloc (.cells #[.int .i64 0, .slice none 0 0, .slice none 0 0, .slice none 0 0] 45) = w0 at hB0 hb1 hb2 ⊢
  obtain ⟨q, hq⟩ : ∃ q, w.heap.size = q := ⟨_, rfl⟩
  have HQ := Lib.hid hq
  rw [hq] at hb1 hb2 ⊢
  obtain ⟨r, hr⟩ : ∃ r, q + 1 = r := ⟨_, rfl⟩
  rw [hr] at hb2 ⊢
  have hqr : q < r := by omega
  have HB0 := Lib.hid hB0
  have HV0 := Lib.hid (H.out.fresh HB0.out)
  have HK1 := Lib.hid hb1
  have HK2 := Lib.hid hb2
  clear hq hr hb1 hb2 hB0 H
  have c0 : w0.cell? ⟨q, 0, none⟩ = some (.int .i64 ep) := cell_of_row w0 q 0 _ _ _ HK1.out
  have c1 : w0.cell? ⟨q, 1, none⟩ = some (.slice (some ⟨qa, oa, none⟩) L.length ca) := cell_of_row w0 q 1 _ _ _ HK1.out
  have c2 : w0.cell? ⟨q, 2, none⟩ = some (.slice (some ⟨qb, ob, none⟩) L.length cb) := cell_of_row w0 q 2 _ _ _ HK1.out
  have c3 : w0.cell? ⟨q, 3, none⟩ = some (.slice (some ⟨qc, oc, none⟩) L.length cc) := cell_of_row w0 q 3 _ _ _ HK1.out
  go_wp2_with fail
  refine (place_any w0 F ep L _ _ _ HV0.out HR.out x).mono ?_
  rintro e wa ⟨rfl, hBa⟩
  rw [HI.out]
  have hq0 : q < w0.heap.size := (Array.getElem?_eq_some_iff.1 HK1.out).1
  have hr0 : r < w0.heap.size := (Array.getElem?_eq_some_iff.1 HK2.out).1
  have c0 := (hBa.cell (p := ⟨q, 0, none⟩) hq0).trans c0
  have c1 := (hBa.cell (p := ⟨q, 1, none⟩) hq0).trans c1
  have c2 := (hBa.cell (p := ⟨q, 2, none⟩) hq0).trans c2
  have c3 := (hBa.cell (p := ⟨q, 3, none⟩) hq0).trans c3
  have HBa := Lib.hid hBa
  clear hBa
  go_wp2_with fail
  refine (right_any wa F ep L _ _ _ (HV0.out.fresh HBa.out)).mono ?_
  rintro e w1 ⟨rfl, hB1⟩
  rw [rightV_iff.2 HR.out]
  have hBa1 : Below w0.heap.size w0 w1 := HBa.out.trans (hB1.mono HBa.out.size)
  have HL1 := Lib.hid ((hBa1.block q hq0).trans HK1.out)
  have HL2 := Lib.hid ((hBa1.block r hr0).trans HK2.out)
  have HB1 := Lib.hid (HB0.out.trans (hBa1.mono HB0.out.size))
  have HV := Lib.hid (HV0.out.fresh hBa1)
  clear hB1 hBa1 c0 c1 c2 c3
  have hq1 : q < w1.heap.size := (Array.getElem?_eq_some_iff.1 HL1.out).1
  have hr1 : r < w1.heap.size := (Array.getElem?_eq_some_iff.1 HL2.out).1
  have c0 : w1.cell? ⟨q, 0, none⟩ = some (.int .i64 ep) := cell_of_row w1 q 0 _ _ _ HL1.out
  have c1 : w1.cell? ⟨q, 1, none⟩ = some (.slice (some ⟨qa, oa, none⟩) L.length ca) := cell_of_row w1 q 1 _ _ _ HL1.out
  have c2 : w1.cell? ⟨q, 2, none⟩ = some (.slice (some ⟨qb, ob, none⟩) L.length cb) := cell_of_row w1 q 2 _ _ _ HL1.out
  have c3 : w1.cell? ⟨q, 3, none⟩ = some (.slice (some ⟨qc, oc, none⟩) L.length cc) := cell_of_row w1 q 3 _ _ _ HL1.out
  have r0 : w1.cell? ⟨r, 0, none⟩ = some (.int .i64 0) := cell_of_row w1 r 0 _ _ _ HL2.out
  have r1 : w1.cell? ⟨r, 1, none⟩ = some (.slice none 0 0) := cell_of_row w1 r 1 _ _ _ HL2.out
  have r2 : w1.cell? ⟨r, 2, none⟩ = some (.slice none 0 0) := cell_of_row w1 r 2 _ _ _ HL2.out
  have r3 : w1.cell? ⟨r, 3, none⟩ = some (.slice none 0 0) := cell_of_row w1 r 3 _ _ _ HL2.out
  have g0 := frozen_block HL2.out 0
  have g1 := frozen_block HL2.out 1
  have g2 := frozen_block HL2.out 2
  have g3 := frozen_block HL2.out 3
  go_upto_region 10 with (fail)
  have HA0 := Lib.hid (show Below w1.heap.size w1 w1.drew from ⟨rfl, rfl, rfl, Nat.le_refl _, fun _ _ => rfl⟩)
  have hcl : ∀ f : Nd → Int, ((L.map f).take i ++ (L.map f).drop (i + 1)).length = L.length - 1 := fun f => by rw [List.length_append, List.length_take, List.length_drop, List.length_map]; omega
  have HCL := Lib.hid hcl
  have hwr : IntKind.i64.wrap (ep + 1) = ep + 1 := IntWalk.i64_in _ (by omega)
  clear hcl
  go_region_held3 (fun x => x.cell? ⟨q, 0, none⟩ = some (.int .i64 ep) ∧ x.cell? ⟨q, 1, none⟩ = some (.slice (some ⟨qa, oa, none⟩) L.length ca) ∧ x.cell? ⟨q, 2, none⟩ = some (.slice (some ⟨qb, ob, none⟩) L.length cb) ∧ x.cell? ⟨q, 3, none⟩ = some (.slice (some ⟨qc, oc, none⟩) L.length cc))
    (first | with_reducible exact ⟨y0, y1, y2, y3⟩ | with_reducible exact ⟨four_other hqr y0, four_other hqr y1, four_other hqr y2, four_other hqr y3⟩ | with_reducible exact ⟨c0, c1, c2, c3⟩ | go_keep)
    (first
      | (go_at_call 62
         with_reducible refine (cut_any _ qa oa L.length ca _ F (HV.out.fresh HA0.out).ch (by rw [List.length_map]; omega) i (by rw [List.length_map]; omega)).mono ?_
         rintro e w2 ⟨v1, rfl, hO, hB⟩
         have HA := Lib.hid (show Below w1.heap.size w1 w2 from HA0.out.trans hB)
         have HO1 := Lib.hid (show Sl w2 (fun k => w1.heap.size ≤ k) 1 intc v1 _ from hO)
         obtain ⟨X1, x1, rfl, hx1, _⟩ := HO1.out.shape_ (n := L.length - 1) (HCL.out Nd.node)
         have y0 := (HA.out.cell (p := ⟨q, 0, none⟩) hq1).trans c0
         have y1 := (HA.out.cell (p := ⟨q, 1, none⟩) hq1).trans c1
         have y2 := (HA.out.cell (p := ⟨q, 2, none⟩) hq1).trans c2
         have y3 := (HA.out.cell (p := ⟨q, 3, none⟩) hq1).trans c3
         have m0 := (HA.out.cell (p := ⟨r, 0, none⟩) hr1).trans r0
         have m1 := (HA.out.cell (p := ⟨r, 1, none⟩) hr1).trans r1
         have m2 := (HA.out.cell (p := ⟨r, 2, none⟩) hr1).trans r2
         have m3 := (HA.out.cell (p := ⟨r, 3, none⟩) hr1).trans r3
         have f0 := (HA.out.frozen (p := ⟨r, 0, none⟩) hr1).trans g0
         have f1 := (HA.out.frozen (p := ⟨r, 1, none⟩) hr1).trans g1
         have f2 := (HA.out.frozen (p := ⟨r, 2, none⟩) hr1).trans g2
         have f3 := (HA.out.frozen (p := ⟨r, 3, none⟩) hr1).trans g3
         clear hO hB)
      | (go_at_call 62
         with_reducible refine (cut_any _ qb ob L.length cb _ F (HV.out.fresh HA.out).si (by rw [List.length_map]; omega) i (by rw [List.length_map]; omega)).mono ?_
         rintro e w3 ⟨v2, rfl, hO, hB⟩
         have HO1 := Lib.hid (HO1.out.fresh hB)
         have HO2 := Lib.hid (show Sl w3 (fun k => w1.heap.size ≤ k) 1 intc v2 _ from hO.mono (fun k _ hk => Nat.le_trans HA.out.size hk))
         have HA := Lib.hid (HA.out.trans (hB.mono HA.out.size))
         obtain ⟨X2, x2, rfl, hx2, _⟩ := HO2.out.shape_ (n := L.length - 1) (HCL.out Nd.since)
         have y0 := (HA.out.cell (p := ⟨q, 0, none⟩) hq1).trans c0
         have y1 := (HA.out.cell (p := ⟨q, 1, none⟩) hq1).trans c1
         have y2 := (HA.out.cell (p := ⟨q, 2, none⟩) hq1).trans c2
         have y3 := (HA.out.cell (p := ⟨q, 3, none⟩) hq1).trans c3
         have m0 := (HA.out.cell (p := ⟨r, 0, none⟩) hr1).trans r0
         have m1 := (HA.out.cell (p := ⟨r, 1, none⟩) hr1).trans r1
         have m2 := (HA.out.cell (p := ⟨r, 2, none⟩) hr1).trans r2
         have m3 := (HA.out.cell (p := ⟨r, 3, none⟩) hr1).trans r3
         have f0 := (HA.out.frozen (p := ⟨r, 0, none⟩) hr1).trans g0
         have f1 := (HA.out.frozen (p := ⟨r, 1, none⟩) hr1).trans g1
         have f2 := (HA.out.frozen (p := ⟨r, 2, none⟩) hr1).trans g2
         have f3 := (HA.out.frozen (p := ⟨r, 3, none⟩) hr1).trans g3
         clear hO hB)
      | (go_at_call 62
         with_reducible refine (cut_any _ qc oc L.length cc _ F (HV.out.fresh HA.out).bo (by rw [List.length_map]; omega) i (by rw [List.length_map]; omega)).mono ?_
         rintro e w4 ⟨v3, rfl, hO, hB⟩
         have HO1 := Lib.hid (HO1.out.fresh hB)
         have HO2 := Lib.hid (HO2.out.fresh hB)
         have HO3 := Lib.hid (show Sl w4 (fun k => w1.heap.size ≤ k) 1 intc v3 _ from hO.mono (fun k _ hk => Nat.le_trans HA.out.size hk))
         have HA := Lib.hid (HA.out.trans (hB.mono HA.out.size))
         obtain ⟨X3, x3, rfl, hx3, _⟩ := HO3.out.shape_ (n := L.length - 1) (HCL.out Nd.boot)
         have y0 := (HA.out.cell (p := ⟨q, 0, none⟩) hq1).trans c0
         have y1 := (HA.out.cell (p := ⟨q, 1, none⟩) hq1).trans c1
         have y2 := (HA.out.cell (p := ⟨q, 2, none⟩) hq1).trans c2
         have y3 := (HA.out.cell (p := ⟨q, 3, none⟩) hq1).trans c3
         have m0 := (HA.out.cell (p := ⟨r, 0, none⟩) hr1).trans r0
         have m1 := (HA.out.cell (p := ⟨r, 1, none⟩) hr1).trans r1
         have m2 := (HA.out.cell (p := ⟨r, 2, none⟩) hr1).trans r2
         have m3 := (HA.out.cell (p := ⟨r, 3, none⟩) hr1).trans r3
         have f0 := (HA.out.frozen (p := ⟨r, 0, none⟩) hr1).trans g0
         have f1 := (HA.out.frozen (p := ⟨r, 1, none⟩) hr1).trans g1
         have f2 := (HA.out.frozen (p := ⟨r, 2, none⟩) hr1).trans g2
         have f3 := (HA.out.frozen (p := ⟨r, 3, none⟩) hr1).trans g3
         clear hO hB))
  have hb4 := four_block ((HA.out.block r hr1).trans HL2.out) (.int .i64 (ep + 1)) (.slice X1 (L.length - 1) x1) (.slice X2 (L.length - 1) x2) (.slice X3 (L.length - 1) x3)
  have hk4 := four_keeps w4 r (.int .i64 (ep + 1)) (.slice X1 (L.length - 1) x1) (.slice X2 (L.length - 1) x2) (.slice X3 (L.length - 1) x3)
  have hBe := Below.keep (HB1.out.trans (HA.out.mono HB1.out.size)) hk4 (Nat.le_trans HB1.out.size HA.out.size) (fun k e => by have := HQ.out; have e2 : k = r := e; omega)
  have hn1 : ∀ v l, Sl w4 (fun k => w1.heap.size ≤ k) 1 intc v l → Sl ((((w4.setCell ⟨r, 0, none⟩ (.int .i64 (ep + 1))).setCell ⟨r, 1, none⟩ (.slice X1 (L.length - 1) x1)).setCell ⟨r, 2, none⟩ (.slice X2 (L.length - 1) x2)).setCell ⟨r, 3, none⟩ (.slice X3 (L.length - 1) x3)) (fun k => w.heap.size ≤ k) 1 intc v l := fun v l ho =>
    (ho.keep hk4 (fun k _ hk e => by have e2 : k = r := e; have hk2 : w1.heap.size ≤ k := hk; omega)).mono (fun k _ hk => Nat.le_trans HB1.out.size hk)
  generalize ((((w4.setCell ⟨r, 0, none⟩ (.int .i64 (ep + 1))).setCell ⟨r, 1, none⟩ (.slice X1 (L.length - 1) x1)).setCell ⟨r, 2, none⟩ (.slice X2 (L.length - 1) x2)).setCell ⟨r, 3, none⟩ (.slice X3 (L.length - 1) x3)) = w5 at hb4 hBe hn1 ⊢
  have z0 := cell_of_row w5 r 0 _ _ _ hb4
  have z1 := cell_of_row w5 r 1 _ _ _ hb4
  have z2 := cell_of_row w5 r 2 _ _ _ hb4
  have z3 := cell_of_row w5 r 3 _ _ _ hb4
  have HE := Lib.hid (show VwSl w5 (fun k => w.heap.size ≤ k) ((⟨ep, L⟩ : Vw).cutN x).L (.slice X1 (L.length - 1) x1) (.slice X2 (L.length - 1) x2) (.slice X3 (L.length - 1) x3) from ⟨sl_len (hn1 _ _ HO1.out) (HRW.out Nd.node).symm, sl_len (hn1 _ _ HO2.out) (HRW.out Nd.since).symm, sl_len (hn1 _ _ HO3.out) (HRW.out Nd.boot).symm⟩)
  have HBE := Lib.hid hBe
  clear hb4 hk4 hBe hn1
  go_wp2_with fail
  refine bodyPost_ret (v := .tuple #[.agg #[.int .i64 (ep + 1), .slice X1 (L.length - 1) x1, .slice X2 (L.length - 1) x2, .slice X3 (L.length - 1) x3], .int .i64 0]) (by simp [results, Tryz.results43, go_sem, z0, z1, z2, z3]) rfl ⟨_, _, _, rfl, HE.out, HBE.out⟩
end Go.Proofs.YtoegdpcfhmjnaaaGreatDoor
