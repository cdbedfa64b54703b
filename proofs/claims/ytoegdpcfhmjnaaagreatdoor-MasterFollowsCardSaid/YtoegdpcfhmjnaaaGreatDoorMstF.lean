/- What a master tells. Under the stated premises on sizes. -/
import Derived.Test.YtoegdpcfhmjnaaaGreatDoorMstC
import Derived.Test.YtoegdpcfhmjnaaaGreatDoorVwC
namespace Go.Proofs.YtoegdpcfhmjnaaaGreatDoor
open Go.RowKit Go.Bl
attribute [local go_sem ↓] Go.wp_at_zero Go.wp_at_succ

/-- A message for somebody. -/
structure OutE where
  rcv : Int
  T : TypeId
  pay : Value
def outc (o : OutE) : List Value := [.int .i64 o.rcv, .iface o.T o.pay]
theorem outc_one (o : OutE) (u : Value) (h : u ∈ outc o) : u.oneCell' = true := by
  unfold outc at h
  simp only [List.mem_cons, List.not_mem_nil, or_false] at h
  rcases h with rfl | rfl <;> rfl
theorem infoOut : (Tryz.prog.info? 41).map (fun i => (i.zero, i.size, i.bytes)) = some (some (.agg #[.int .i64 0, .nilIface]), 2, 24) := by kernel_rfl
theorem elOut : El Tryz.prog 34 41 2 24 outc := ⟨Tryz.underlying34, ⟨_, infoOut, rfl⟩, by decide, by decide, fun _ => rfl, outc_one⟩
/-- It is the view. -/
def VOut (w : World) (F : Nat → Prop) (v : Vw) (o : OutE) : Prop := o.T = 122 ∧ ∃ a b c, o.pay = .agg #[.int .i64 v.ep, a, b, c] ∧ VwSl w F v.L a b c
theorem VOut.fresh {w w' : World} {F : Nat → Prop} {v : Vw} {o : OutE} (h : VOut w F v o) (hB : Below w.heap.size w w') : VOut w' F v o := by
  obtain ⟨h1, a, b, c, h2, h3⟩ := h
  exact ⟨h1, a, b, c, h2, h3.fresh hB⟩
theorem VOut.keep {w w' : World} {F G : Nat → Prop} {v : Vw} {o : OutE} (h : VOut w F v o) (hk : Keeps G w w') (hd : ∀ k, k < w.heap.size → F k → ¬ G k) : VOut w' F v o := by
  obtain ⟨h1, a, b, c, h2, h3⟩ := h
  exact ⟨h1, a, b, c, h2, h3.keep hk hd⟩
theorem VOut.mono {w : World} {F F' : Nat → Prop} {v : Vw} {o : OutE} (h : VOut w F v o) (hF : ∀ k, k < w.heap.size → F k → F' k) : VOut w F' v o := by
  obtain ⟨h1, a, b, c, h2, h3⟩ := h
  exact ⟨h1, a, b, c, h2, h3.mono hF⟩
theorem VOut.bound {w : World} {F : Nat → Prop} {v : Vw} {o : OutE} (h : VOut w F v o) : VOut w (fun b => F b ∧ b < w.heap.size) v o := h.mono fun _ h1 h2 => ⟨h2, h1⟩
set_option maxRecDepth 8000 in
set_option maxHeartbeats 1000000 in
theorem tell_any {X : Nat → Prop} {w : World} {m p : Nat} {room fail : Int} {vs : List Vw} {s : Ms} {c : Nat} (h : Mst X w m p room fail vs s c) (rcv : Int) :
    Calls Tryz.prog 35 #[.pointer (some ⟨m, 0, none⟩), .int .i64 rcv] w fun e w' => ∃ v o, e = .returned v ∧ Sl w' (fun k => w.heap.size ≤ k) 2 outc v [o] ∧ o.rcv = rcv ∧ VOut w' (fun k => w.heap.size ≤ k) s.v o ∧ Below w.heap.size w w' := by
  obtain ⟨Y, F, bh, br, va, vb, vc, h⟩ := h
  obtain ⟨c0, c1, c2, c3, c4, c5, c6, c7⟩ := h.cells
  have h1 := h.right.n1
  have h2 := h.right.n2
  have hc := message_any w F s.v.ep s.v.L va vb vc h.sl h1 (by omega)
  obtain ⟨A, ca, B, cb, C, cc, rfl, rfl, rfl, _⟩ := h.sl.shape
  have HC := Lib.hid hc
  clear hc h h1 h2 c0 c5 c6 c7
  go_enter Tryz.func35, Tryz.ntmps35
  go_wp2_with fail
  refine HC.out.mono ?_
  rintro e w2 ⟨a', b', c', rfl, hV, hB⟩
  obtain ⟨A', ca', B', cb', C', cc', rfl, rfl, rfl, _⟩ := hV.shape
  have HV := Lib.hid hV
  have HB := Lib.hid hB
  clear hV hB c1 c2 c3 c4
  go_wp2_with fail
  go_ret
  have hb := heap_alloc_new w2 (.cells #[.int .i64 rcv, .iface 122 (.agg #[.int .i64 s.v.ep, .slice A' s.v.L.length ca', .slice B' s.v.L.length cb', .slice C' s.v.L.length cc'])] 41)
  have hal : Below w2.heap.size w2 (w2.alloc (.cells #[.int .i64 rcv, .iface 122 (.agg #[.int .i64 s.v.ep, .slice A' s.v.L.length ca', .slice B' s.v.L.length cb', .slice C' s.v.L.length cc'])] 41)) := (Below.refl _ w2).alloc (Nat.le_refl _) _
  refine ⟨_, ⟨rcv, 122, .agg #[.int .i64 s.v.ep, .slice A' s.v.L.length ca', .slice B' s.v.L.length cb', .slice C' s.v.L.length cc']⟩, rfl, ?_, rfl, ⟨rfl, _, _, _, rfl, HV.out.fresh hal⟩, HB.out.trans (hal.mono HB.out.size)⟩
  exact (Sl.single (enc := outc) (x := ⟨rcv, 122, .agg #[.int .i64 s.v.ep, .slice A' s.v.L.length ca', .slice B' s.v.L.length cb', .slice C' s.v.L.length cc']⟩) hb rfl).mono fun k _ hk => by
    have hk2 : k = w2.heap.size := hk
    have := HB.out.size
    show w.heap.size ≤ k
    omega
/-- The view, for each of them. -/
def VOuts (w : World) (F : Nat → Prop) (v : Vw) (l : List Int) (os : List OutE) : Prop := os.map OutE.rcv = l ∧ ∀ o ∈ os, VOut w F v o
theorem VOuts.fresh {w w' : World} {F : Nat → Prop} {v : Vw} {l : List Int} {os : List OutE} (h : VOuts w F v l os) (hB : Below w.heap.size w w') : VOuts w' F v l os := ⟨h.1, fun o ho => (h.2 o ho).fresh hB⟩
theorem VOuts.keep {w w' : World} {F G : Nat → Prop} {v : Vw} {l : List Int} {os : List OutE} (h : VOuts w F v l os) (hk : Keeps G w w') (hd : ∀ k, k < w.heap.size → F k → ¬ G k) : VOuts w' F v l os := ⟨h.1, fun o ho => (h.2 o ho).keep hk hd⟩
set_option maxRecDepth 8000 in
set_option maxHeartbeats 2000000 in
theorem all_any {X : Nat → Prop} {w : World} {m p : Nat} {room fail : Int} {vs : List Vw} {s : Ms} {c : Nat} (h : Mst X w m p room fail vs s c) :
    Calls Tryz.prog 44 #[.pointer (some ⟨m, 0, none⟩)] w fun e w' => ∃ v os, e = .returned v ∧ Sl w' (fun k => w.heap.size ≤ k) 2 outc v os ∧ VOuts w' (fun k => w.heap.size ≤ k) s.v s.v.nodes os ∧ Below w.heap.size w w' := by
  have hm := h
  obtain ⟨Y, F, bh, br, va, vb, vc, h⟩ := h
  obtain ⟨c0, c1, c2, c3, c4, c5, c6, c7⟩ := h.cells
  have h2 := h.right.n2
  have hsl := h.sl.ch
  obtain ⟨A, ca, rfl, hA1, _⟩ := hsl.shape_ (n := s.v.L.length) (List.length_map _)
  have HM := Lib.hid hm
  have HS := Lib.hid (show Sl w F 1 intc (.slice A s.v.L.length ca) s.v.nodes from hsl)
  obtain ⟨n, hn⟩ : ∃ n, s.v.L.length = n := ⟨_, rfl⟩
  have hnn : s.v.nodes.length = n := by rw [← hn]; exact List.length_map _
  rw [hn] at c2 HS h2 hA1
  obtain ⟨L, hL⟩ : ∃ L, s.v.nodes = L := ⟨_, rfl⟩
  rw [hL] at HS hnn ⊢
  have HNN := Lib.hid hnn
  clear hm h hsl c0 c1 c3 c4 c5 c6 c7 hn hnn hL
  go_enter Tryz.func44, Tryz.ntmps44
  go_wp2_with fail
  go_loopw [3, 12] (fun v i wr => ∃ (k : Nat) (os : List OutE), k ≤ n ∧ i = .int .i64 k ∧ Go.Bl.Own wr w.heap.size 41 2 outc v os ∧ VOuts wr (fun b => w.heap.size ≤ b ∧ v.ownBlock ≠ some b) s.v (L.take k) os ∧ Below w.heap.size w wr) (fun _ i _ => n - (intOf i).toNat)
  case atStart => exact ⟨0, [], Nat.zero_le _, rfl, Go.Bl.Own.nil_ _ _ _ _ _, ⟨rfl, fun o ho => by cases ho⟩, Below.refl _ _⟩
  case round =>
    obtain ⟨k, os, hk, rfl, hO, hV, hB⟩ := hrel
    have hol : os.length = k := by
      have := congrArg List.length hV.1
      rw [List.length_map, List.length_take, HNN.out] at this
      omega
    obtain ⟨Z, zc, rfl, _, _⟩ := hO.shape_ hol
    have HO := Lib.hid hO
    have HV := Lib.hid hV
    have HB := Lib.hid hB
    have HOL := Lib.hid hol
    clear hO hV hB hol
    by_cases hlt : k < n
    · have d0 : decide ((k : Int) < (n : Int)) = true := decide_eq_true (by omega)
      have hkL : k < L.length := by rw [HNN.out]; exact hlt
      obtain ⟨b, o, rfl, _, _, hxx⟩ := (HS.out.fresh HB.out).cell_ hkL
      have x0 := hxx 0 _ rfl
      rw [Nat.mul_one, Nat.add_zero] at x0
      have htk := List.take_succ_eq_append_getElem hkL
      obtain ⟨x, hx⟩ : ∃ x, x = L[k] := ⟨_, rfl⟩
      rw [← hx] at x0 htk
      have hc := tell_any (HM.out.fresh HB.out) x
      have HC := Lib.hid hc
      have HTK := Lib.hid htk
      clear hxx hc htk hx hkL
      go_wp2_with fail
      refine HC.out.mono ?_
      rintro e w2 ⟨v2, o2, rfl, hS2, ho2, hV2, hB2⟩
      have HO2 := Lib.hid (HO.out.fresh hB2)
      have HS2 := Lib.hid hS2
      have HB2 := Lib.hid (HB.out.trans (hB2.mono HB.out.size))
      have HVo := Lib.hid (HV.out.fresh hB2)
      have HV2 := Lib.hid hV2
      have HT := Lib.hid ho2
      have hb2 := hB2.size
      obtain ⟨Z2, zc2, rfl, _, _⟩ := hS2.shape_ (n := 1) rfl
      clear hS2 ho2 hV2 hB2
      go_wp2_with (at_builtin; refine elOut.append _ (by rfl) _ _ rfl w.heap.size _ os rfl HO2.out _ _ [o2] rfl HS2.out ?_ ?_ ?_; (rw [HOL.out, List.length_singleton]; omega); (exact HB2.out.size); intro v' w4 hown' hgrow hat; (have hgr : Below w.heap.size w w4 := HB2.out.grown hgrow HB2.out.size (fun q e => (HO2.out.lt q e).1)); (have hlt4 := fun q => HO2.out.lt q); obtain ⟨A', ca', rfl, hA1', hA2'⟩ := hown'.shape_ (show (os ++ [o2]).length = k + 1 by rw [List.length_append, HOL.out, List.length_singleton]); have HO4 := Lib.hid hown'; have HB4 := Lib.hid hgr; have HGR := Lib.hid hgrow; have HAT := Lib.hid hat; have HLT := Lib.hid hlt4; clear hown' hgrow hat hgr hlt4)
      have HVV : Hid (VOuts w4 (fun b => w.heap.size ≤ b ∧ (Value.slice A' (k + 1) ca').ownBlock ≠ some b) s.v (L.take (k + 1)) (os ++ [o2])) := Lib.hid (by
        have hne : ∀ q, q < w2.heap.size → (Value.slice Z k zc).ownBlock ≠ some q → (Value.slice A' (k + 1) ca').ownBlock ≠ some q := fun q h1 h2 e => by
          rcases HAT.out with h3 | h3
          · exact h2 (h3 ▸ e)
          · rw [h3] at e; cases e; omega
        refine ⟨by rw [List.map_append, HTK.out, HVo.out.1]; show _ ++ [o2.rcv] = _; rw [HT.out], fun o ho => ?_⟩
        rcases List.mem_append.1 ho with ho | ho
        · exact ((HVo.out.2 o ho).bound.keep (Keeps.of_grown HGR.out) (fun q _ h1 h2 => h1.1.2 h2)).mono fun q _ h1 => ⟨h1.1.1, hne q h1.2 h1.1.2⟩
        · obtain rfl := List.mem_singleton.1 ho
          have hzl : ∀ q, (Value.slice Z k zc).ownBlock = some q → q < wr.heap.size := fun q e => (HO.out.lt q e).2
          exact (HV2.out.bound.keep (Keeps.of_grown HGR.out) (fun q _ h1 h2 => by have := hzl q h2; have h3 : wr.heap.size ≤ q := h1.1; omega)).mono fun q _ h1 => ⟨by have h3 : wr.heap.size ≤ q := h1.1; have := HB.out.size; show w.heap.size ≤ q; omega, hne q h1.2 (fun e => by have := hzl q e; have h3 : wr.heap.size ≤ q := h1.1; omega)⟩)
      go_roundw
      case rel => exact ⟨k + 1, _, hlt, by go_num, HO4.out, HVV.out, HB4.out⟩
      case measure => simp [intOf]; omega
    · have hkl : k = n := by omega
      subst hkl
      have d0 : decide ((k : Int) < (k : Int)) = false := by simp
      have htk : L.take k = L := List.take_of_length_le (by rw [HNN.out]; exact Nat.le_refl _)
      have HTK := Lib.hid htk
      clear htk
      go_wp2_with fail
      go_ret
      refine ⟨_, os, rfl, (HO.out.sl elOut.len).mono (fun q _ e => (HO.out.lt q e).1), ?_, HB.out⟩
      have := HV.out
      rw [HTK.out] at this
      exact ⟨this.1, fun o ho => (this.2 o ho).mono fun q _ h1 => h1.1⟩
set_option maxRecDepth 20000 in
set_option maxHeartbeats 4000000 in
theorem view_any {X : Nat → Prop} {w : World} {m p : Nat} {room fail : Int} {vs : List Vw} {s : Ms} {c : Nat} (h : Mst X w m p room fail vs s c) :
    Calls Tryz.prog 12 #[.pointer (some ⟨m, 0, none⟩)] w fun e w' => ∃ a' b' c', e = .returned (.agg #[.int .i64 s.v.ep, a', b', c']) ∧ VwSl w' (fun k => w.heap.size ≤ k) s.v.L a' b' c' ∧ Below w.heap.size w w' := by
  obtain ⟨Y, F, bh, br, va, vb, vc, h⟩ := h
  have hL := h.right.n1
  have hm6 := h.right.n2
  obtain ⟨qa, oa, ca, qb, ob, cb, qc, oc, cc, rfl, rfl, rfl, hca, hcm, hcb, hcc⟩ := h.sl.some_ hL
  have hB0 : Below w.heap.size w (w.alloc (.cells #[.int .i64 0, .slice none 0 0, .slice none 0 0, .slice none 0 0] 45)) := (Below.refl _ w).alloc (Nat.le_refl _) _
  have hb2 := heap_alloc_new w (.cells #[.int .i64 0, .slice none 0 0, .slice none 0 0, .slice none 0 0] 45)
  have hq0 := h.lt
  have H := Lib.hid (h.fresh hB0)
  obtain ⟨ep, hep⟩ : ∃ ep, s.v.ep = ep := ⟨_, rfl⟩
  obtain ⟨L, hLL⟩ : ∃ L, s.v.L = L := ⟨_, rfl⟩
  have h0 := h.fresh hB0
  obtain ⟨_, c1, c2, c3, c4, _, _, _⟩ := h0.cells
  have hsl := h0.sl
  rw [hep] at c1 ⊢
  rw [hLL] at c2 c3 c4 hsl hL hm6 hca hcb hcc ⊢
  have HSL := Lib.hid hsl
  clear h h0 hep hLL H hsl
  go_enter Tryz.func12, Tryz.ntmps12
  go_upto_region 1 with (fail)
  generalize w.alloc (.cells #[.int .i64 0, .slice none 0 0, .slice none 0 0, .slice none 0 0] 45) = w1 at hB0 hb2 c1 c2 c3 c4 HSL ⊢
  obtain ⟨r, hr⟩ : ∃ r, w.heap.size = r := ⟨_, rfl⟩
  have HQ := Lib.hid hr
  have HB0 := Lib.hid hB0
  rw [hr] at hb2 ⊢
  have hqr : m < r := by omega
  have hr1 : r < w1.heap.size := (Array.getElem?_eq_some_iff.1 hb2).1
  have hq1 : m < w1.heap.size := by omega
  have r0 : w1.cell? ⟨r, 0, none⟩ = some (.int .i64 0) := cell_of_row w1 r 0 _ _ _ hb2
  have r1 : w1.cell? ⟨r, 1, none⟩ = some (.slice none 0 0) := cell_of_row w1 r 1 _ _ _ hb2
  have r2 : w1.cell? ⟨r, 2, none⟩ = some (.slice none 0 0) := cell_of_row w1 r 2 _ _ _ hb2
  have r3 : w1.cell? ⟨r, 3, none⟩ = some (.slice none 0 0) := cell_of_row w1 r 3 _ _ _ hb2
  have g0 := frozen_block hb2 0
  have g1 := frozen_block hb2 1
  have g2 := frozen_block hb2 2
  have g3 := frozen_block hb2 3
  have HB2 := Lib.hid hb2
  clear hr hb2 hB0
  have HA0 := Lib.hid (show Below w1.heap.size w1 w1.drew from ⟨rfl, rfl, rfl, Nat.le_refl _, fun _ _ => rfl⟩)
  go_region_held3 (fun x => x.cell? ⟨m, 1, none⟩ = some (.int .i64 ep) ∧ x.cell? ⟨m, 2, none⟩ = some (.slice (some ⟨qa, oa, none⟩) L.length ca) ∧ x.cell? ⟨m, 3, none⟩ = some (.slice (some ⟨qb, ob, none⟩) L.length cb) ∧ x.cell? ⟨m, 4, none⟩ = some (.slice (some ⟨qc, oc, none⟩) L.length cc))
    (first | with_reducible exact ⟨y0, y1, y2, y3⟩ | with_reducible exact ⟨four_other hqr y0, four_other hqr y1, four_other hqr y2, four_other hqr y3⟩ | with_reducible exact ⟨c1, c2, c3, c4⟩ | go_keep)
    (first
      | (go_at_call 30
         with_reducible refine (clone_some _ qa oa L.length ca _ F (HSL.out.fresh HA0.out).ch (by rw [List.length_map]; omega)).mono ?_
         rintro e w2 ⟨v1, rfl, hO, hne1, hB⟩
         have HA := Lib.hid (show Below w1.heap.size w1 w2 from HA0.out.trans hB)
         have HO1 := Lib.hid (hO.lower (show w1.heap.size ≤ _ from Nat.le_refl _))
         obtain ⟨X1, x1, rfl, hx1, _⟩ := HO1.out.shape_ (n := L.length) (List.length_map _)
         have y0 := (HA.out.cell (p := ⟨m, 1, none⟩) hq1).trans c1
         have y1 := (HA.out.cell (p := ⟨m, 2, none⟩) hq1).trans c2
         have y2 := (HA.out.cell (p := ⟨m, 3, none⟩) hq1).trans c3
         have y3 := (HA.out.cell (p := ⟨m, 4, none⟩) hq1).trans c4
         have m0 := (HA.out.cell (p := ⟨r, 0, none⟩) hr1).trans r0
         have m1 := (HA.out.cell (p := ⟨r, 1, none⟩) hr1).trans r1
         have m2 := (HA.out.cell (p := ⟨r, 2, none⟩) hr1).trans r2
         have m3 := (HA.out.cell (p := ⟨r, 3, none⟩) hr1).trans r3
         have f0 := (HA.out.frozen (p := ⟨r, 0, none⟩) hr1).trans g0
         have f1 := (HA.out.frozen (p := ⟨r, 1, none⟩) hr1).trans g1
         have f2 := (HA.out.frozen (p := ⟨r, 2, none⟩) hr1).trans g2
         have f3 := (HA.out.frozen (p := ⟨r, 3, none⟩) hr1).trans g3
         clear hO hne1 hB)
      | (go_at_call 30
         with_reducible refine (clone_some _ qb ob L.length cb _ F (HSL.out.fresh HA.out).si (by rw [List.length_map]; omega)).mono ?_
         rintro e w3 ⟨v2, rfl, hO, hne1, hB⟩
         have HO1 := Lib.hid (HO1.out.fresh hB)
         have HO2 := Lib.hid (hO.lower (show w1.heap.size ≤ _ from HA.out.size))
         have HA := Lib.hid (HA.out.trans (hB.mono HA.out.size))
         obtain ⟨X2, x2, rfl, hx2, _⟩ := HO2.out.shape_ (n := L.length) (List.length_map _)
         have y0 := (HA.out.cell (p := ⟨m, 1, none⟩) hq1).trans c1
         have y1 := (HA.out.cell (p := ⟨m, 2, none⟩) hq1).trans c2
         have y2 := (HA.out.cell (p := ⟨m, 3, none⟩) hq1).trans c3
         have y3 := (HA.out.cell (p := ⟨m, 4, none⟩) hq1).trans c4
         have m0 := (HA.out.cell (p := ⟨r, 0, none⟩) hr1).trans r0
         have m1 := (HA.out.cell (p := ⟨r, 1, none⟩) hr1).trans r1
         have m2 := (HA.out.cell (p := ⟨r, 2, none⟩) hr1).trans r2
         have m3 := (HA.out.cell (p := ⟨r, 3, none⟩) hr1).trans r3
         have f0 := (HA.out.frozen (p := ⟨r, 0, none⟩) hr1).trans g0
         have f1 := (HA.out.frozen (p := ⟨r, 1, none⟩) hr1).trans g1
         have f2 := (HA.out.frozen (p := ⟨r, 2, none⟩) hr1).trans g2
         have f3 := (HA.out.frozen (p := ⟨r, 3, none⟩) hr1).trans g3
         clear hO hne1 hB)
      | (go_at_call 30
         with_reducible refine (clone_some _ qc oc L.length cc _ F (HSL.out.fresh HA.out).bo (by rw [List.length_map]; omega)).mono ?_
         rintro e w4 ⟨v3, rfl, hO, hne1, hB⟩
         have HO1 := Lib.hid (HO1.out.fresh hB)
         have HO2 := Lib.hid (HO2.out.fresh hB)
         have HO3 := Lib.hid (hO.lower (show w1.heap.size ≤ _ from HA.out.size))
         have HA := Lib.hid (HA.out.trans (hB.mono HA.out.size))
         obtain ⟨X3, x3, rfl, hx3, _⟩ := HO3.out.shape_ (n := L.length) (List.length_map _)
         have y0 := (HA.out.cell (p := ⟨m, 1, none⟩) hq1).trans c1
         have y1 := (HA.out.cell (p := ⟨m, 2, none⟩) hq1).trans c2
         have y2 := (HA.out.cell (p := ⟨m, 3, none⟩) hq1).trans c3
         have y3 := (HA.out.cell (p := ⟨m, 4, none⟩) hq1).trans c4
         have m0 := (HA.out.cell (p := ⟨r, 0, none⟩) hr1).trans r0
         have m1 := (HA.out.cell (p := ⟨r, 1, none⟩) hr1).trans r1
         have m2 := (HA.out.cell (p := ⟨r, 2, none⟩) hr1).trans r2
         have m3 := (HA.out.cell (p := ⟨r, 3, none⟩) hr1).trans r3
         have f0 := (HA.out.frozen (p := ⟨r, 0, none⟩) hr1).trans g0
         have f1 := (HA.out.frozen (p := ⟨r, 1, none⟩) hr1).trans g1
         have f2 := (HA.out.frozen (p := ⟨r, 2, none⟩) hr1).trans g2
         have f3 := (HA.out.frozen (p := ⟨r, 3, none⟩) hr1).trans g3
         clear hO hne1 hB))
  have hb4 := four_block ((HA.out.block r hr1).trans HB2.out) (.int .i64 ep) (.slice X1 L.length x1) (.slice X2 L.length x2) (.slice X3 L.length x3)
  have hk4 := four_keeps w4 r (.int .i64 ep) (.slice X1 L.length x1) (.slice X2 L.length x2) (.slice X3 L.length x3)
  have hBe : Below w.heap.size w ((((w4.setCell ⟨r, 0, none⟩ (.int .i64 ep)).setCell ⟨r, 1, none⟩ (.slice X1 L.length x1)).setCell ⟨r, 2, none⟩ (.slice X2 L.length x2)).setCell ⟨r, 3, none⟩ (.slice X3 L.length x3)) :=
    Below.keep (HB0.out.trans (HA.out.mono HB0.out.size)) hk4 (Nat.le_trans HB0.out.size HA.out.size) (fun k e => by have := HQ.out; have e2 : k = r := e; omega)
  have hn1 : ∀ v l, Go.Bl.Own w4 w1.heap.size 3 1 intc v l → Sl ((((w4.setCell ⟨r, 0, none⟩ (.int .i64 ep)).setCell ⟨r, 1, none⟩ (.slice X1 L.length x1)).setCell ⟨r, 2, none⟩ (.slice X2 L.length x2)).setCell ⟨r, 3, none⟩ (.slice X3 L.length x3)) (fun k => w.heap.size ≤ k) 1 intc v l := fun v l ho =>
    Own.since (w := w) (Go.Bl.Own.keep ho hk4 (fun b hb e => by have := (Go.Bl.Own.lt ho b hb).1; have e2 : b = r := e; omega)) HB0.out.size
  generalize ((((w4.setCell ⟨r, 0, none⟩ (.int .i64 ep)).setCell ⟨r, 1, none⟩ (.slice X1 L.length x1)).setCell ⟨r, 2, none⟩ (.slice X2 L.length x2)).setCell ⟨r, 3, none⟩ (.slice X3 L.length x3)) = w5 at hb4 hBe hn1 ⊢
  have z0 := cell_of_row w5 r 0 _ _ _ hb4
  have z1 := cell_of_row w5 r 1 _ _ _ hb4
  have z2 := cell_of_row w5 r 2 _ _ _ hb4
  have z3 := cell_of_row w5 r 3 _ _ _ hb4
  have HE := Lib.hid (show VwSl w5 (fun k => w.heap.size ≤ k) L (.slice X1 L.length x1) (.slice X2 L.length x2) (.slice X3 L.length x3) from ⟨hn1 _ _ HO1.out, hn1 _ _ HO2.out, hn1 _ _ HO3.out⟩)
  have HBE := Lib.hid hBe
  clear hb4 hk4 hBe hn1
  go_wp2_with fail
  refine bodyPost_ret (v := .agg #[.int .i64 ep, .slice X1 L.length x1, .slice X2 L.length x2, .slice X3 L.length x3]) (by simp [results, Tryz.results12, go_sem, z0, z1, z2, z3]) rfl ⟨_, _, _, rfl, HE.out, HBE.out⟩
end Go.Proofs.YtoegdpcfhmjnaaaGreatDoor
