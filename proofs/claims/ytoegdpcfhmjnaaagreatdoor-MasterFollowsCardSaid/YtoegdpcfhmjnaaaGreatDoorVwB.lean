/- Views: which are right; where a node is. Under the stated premises on sizes. -/
import Derived.Test.YtoegdpcfhmjnaaaGreatDoorVwA
import Derived.Test.YtoegdpcfhmjnaaaGreatDoorVwN
namespace Go.Proofs.YtoegdpcfhmjnaaaGreatDoor
open Go.RowKit Go.Bl
attribute [local go_sem ↓] Go.wp_at_zero Go.wp_at_succ

/-- Three rows that read as a view's. -/
structure VwSl (w : World) (F : Nat → Prop) (L : List Nd) (a b c : Value) : Prop where
  ch : Sl w F 1 intc a (L.map Nd.node)
  si : Sl w F 1 intc b (L.map Nd.since)
  bo : Sl w F 1 intc c (L.map Nd.boot)
section
variable {w w' : World} {F F' : Nat → Prop} {L : List Nd} {a b c : Value}
theorem VwSl.keep {G : Nat → Prop} (h : VwSl w F L a b c) (hk : Keeps G w w') (hd : ∀ k, k < w.heap.size → F k → ¬ G k) : VwSl w' F L a b c := ⟨h.ch.keep hk hd, h.si.keep hk hd, h.bo.keep hk hd⟩
theorem VwSl.fresh (h : VwSl w F L a b c) (hb : Below w.heap.size w w') : VwSl w' F L a b c := ⟨h.ch.fresh hb, h.si.fresh hb, h.bo.fresh hb⟩
theorem VwSl.mono (h : VwSl w F L a b c) (hF : ∀ k, k < w.heap.size → F k → F' k) : VwSl w F' L a b c := ⟨h.ch.mono hF, h.si.mono hF, h.bo.mono hF⟩
theorem VwSl.shape (h : VwSl w F L a b c) : ∃ A ca B cb C cc, a = .slice A L.length ca ∧ b = .slice B L.length cb ∧ c = .slice C L.length cc ∧ L.length ≤ ca ∧ ca ≤ 9223372036854775807 ∧ L.length ≤ cb ∧ L.length ≤ cc := by
  obtain ⟨A, ca, h1, h2, h3⟩ := h.ch.shape_ (n := L.length) (List.length_map _)
  obtain ⟨B, cb, h4, h5, h6⟩ := h.si.shape_ (n := L.length) (List.length_map _)
  obtain ⟨C, cc, h7, h8, h9⟩ := h.bo.shape_ (n := L.length) (List.length_map _)
  exact ⟨A, ca, B, cb, C, cc, h1, h4, h7, h2, h3, h5, h8⟩
end
/-- The epoch that no later node may fall below. -/
def sAt (L : List Nd) : Nat → Int
  | 0 => 1
  | k + 1 => atI (L.map Nd.since) k
theorem rowR_drop {ep : Int} {L : List Nd} {k : Nat} (h : k < L.length) (s : Int) : rowR ep ((L.map Nd.node).take k) s (L.drop k) =
    (decide (1 ≤ L[k].node) && decide (L[k].node ≤ 100) && !decide (L[k].node ∈ (L.map Nd.node).take k) && decide (s ≤ L[k].since) && decide (L[k].since ≤ ep) && decide (0 ≤ L[k].boot) && decide (L[k].boot ≤ 274877906944) && rowR ep ((L.map Nd.node).take (k + 1)) L[k].since (L.drop (k + 1))) := by
  rw [List.drop_eq_getElem_cons h, rowR, List.take_succ_eq_append_getElem (by rw [List.length_map]; exact h), List.getElem_map, List.contains_eq_mem]
theorem rowR_fail {ep : Int} {L : List Nd} {k : Nat} {s : Int} (h : rowR ep [] 1 L = rowR ep ((L.map Nd.node).take k) s (L.drop k)) (hk : k < L.length)
    (hf : L[k].node < 1 ∨ 100 < L[k].node ∨ L[k].node ∈ (L.map Nd.node).take k ∨ L[k].since < s ∨ ep < L[k].since ∨ L[k].boot < 0 ∨ 274877906944 < L[k].boot) (v : Vw) (hv : v.L = L) (he : v.ep = ep) : rightV v = false := by
  have : rowR ep [] 1 L = false := by
    rw [h, rowR_drop hk]
    simp only [Bool.and_eq_false_iff, decide_eq_false_iff_not, Bool.not_eq_false', decide_eq_true_eq]
    rcases hf with h | h | h | h | h | h | h
    · exact .inl (.inl (.inl (.inl (.inl (.inl (.inl (by omega)))))))
    · exact .inl (.inl (.inl (.inl (.inl (.inl (.inr (by omega)))))))
    · exact .inl (.inl (.inl (.inl (.inl (.inr h)))))
    · exact .inl (.inl (.inl (.inl (.inr (by omega)))))
    · exact .inl (.inl (.inl (.inr (by omega))))
    · exact .inl (.inl (.inr (by omega)))
    · exact .inl (.inr (by omega))
  unfold rightV
  rw [hv, he, this, Bool.and_false]
set_option maxRecDepth 20000 in
set_option maxHeartbeats 8000000 in
theorem right_any (w : World) (F : Nat → Prop) (ep : Int) (L : List Nd) (a b c : Value) (h : VwSl w F L a b c) :
    Calls Tryz.prog 21 #[.agg #[.int .i64 ep, a, b, c]] w fun e w' => e = .returned (.bool (rightV ⟨ep, L⟩)) ∧ Below w.heap.size w w' := by
  obtain ⟨A, ca, B, cb, C, cc, rfl, rfl, rfl, hca, hcm, hcb, hcc⟩ := h.shape
  have hB0 : Below w.heap.size w (w.alloc (.cells #[.int .i64 ep, .slice A L.length ca, .slice B L.length cb, .slice C L.length cc] 45)) := (Below.refl _ w).alloc (Nat.le_refl _) _
  have hblk := heap_alloc_new w (.cells #[.int .i64 ep, .slice A L.length ca, .slice B L.length cb, .slice C L.length cc] 45)
  have H := Lib.hid (h.fresh hB0)
  have HB := Lib.hid hB0
  have HBK := Lib.hid hblk
  have hmx := @run_gmax Tryz.prog
  clear h hB0 hblk
  go_enter Tryz.func21, Tryz.ntmps21
  go_upto_region 1 with (fail)
  obtain ⟨q, hq⟩ : ∃ q, w.heap.size = q := ⟨_, rfl⟩
  rw [hq] at HBK ⊢
  generalize w.alloc (.cells #[.int .i64 ep, .slice A L.length ca, .slice B L.length cb, .slice C L.length cc] 45) = w1 at H HB HBK ⊢
  have c0 : w1.cell? ⟨q, 0, none⟩ = some (.int .i64 ep) := cell_of_row w1 q 0 _ _ _ HBK.out
  have c1 : w1.cell? ⟨q, 1, none⟩ = some (.slice A L.length ca) := cell_of_row w1 q 1 _ _ _ HBK.out
  have c2 : w1.cell? ⟨q, 2, none⟩ = some (.slice B L.length cb) := cell_of_row w1 q 2 _ _ _ HBK.out
  have c3 : w1.cell? ⟨q, 3, none⟩ = some (.slice C L.length cc) := cell_of_row w1 q 3 _ _ _ HBK.out
  have HQ := Lib.hid hq
  clear hq
  by_cases g1 : ep < 1
  · have RF : Hid (rightV ⟨ep, L⟩ = false) := Lib.hid (by unfold rightV; rw [decide_eq_false (by show ¬ 1 ≤ ep; omega)]; rfl)
    have HBr := HB
    have d1 : decide (ep < 1) = true := by simpa using g1
    · go_wp2_with fail
      go_ret
      rw [show rightV ⟨ep, L⟩ = false from RF.out]
      exact ⟨rfl, HBr.out⟩
  have d1 : decide (ep < 1) = false := by simpa using g1
  by_cases g2 : 274877906944 < ep
  · have RF : Hid (rightV ⟨ep, L⟩ = false) := Lib.hid (by unfold rightV; rw [decide_eq_false (p := ep ≤ 274877906944) (by omega), Bool.and_false]; rfl)
    have HBr := HB
    have d2 : decide (274877906944 < ep) = true := by simpa using g2
    · go_wp2_with fail
      go_ret
      rw [show rightV ⟨ep, L⟩ = false from RF.out]
      exact ⟨rfl, HBr.out⟩
  have d2 : decide (274877906944 < ep) = false := by simpa using g2
  by_cases g3 : L.length < 1
  · have RF : Hid (rightV ⟨ep, L⟩ = false) := Lib.hid (by unfold rightV; rw [decide_eq_false (p := 1 ≤ L.length) (by omega), Bool.and_false]; rfl)
    have HBr := HB
    have d3 : decide ((L.length : Int) < 1) = true := decide_eq_true (by omega)
    have d3' : decide (L.length < 1) = true := decide_eq_true (by omega)
    · go_wp2_with fail
      go_ret
      rw [show rightV ⟨ep, L⟩ = false from RF.out]
      exact ⟨rfl, HBr.out⟩
  have d3 : decide ((L.length : Int) < 1) = false := decide_eq_false (by omega)
  have d3' : decide (L.length < 1) = false := decide_eq_false (by omega)
  by_cases g4 : 6 < L.length
  · have RF : Hid (rightV ⟨ep, L⟩ = false) := Lib.hid (by unfold rightV; rw [decide_eq_false (p := L.length ≤ 6) (by omega), Bool.and_false]; rfl)
    have HBr := HB
    have d4 : decide ((6 : Int) < (L.length : Int)) = true := decide_eq_true (by omega)
    · go_wp2_with fail
      go_ret
      rw [show rightV ⟨ep, L⟩ = false from RF.out]
      exact ⟨rfl, HBr.out⟩
  have d4 : decide ((6 : Int) < (L.length : Int)) = false := decide_eq_false (by omega)
  have hR0 : rightV ⟨ep, L⟩ = rowR ep [] 1 L := by
    unfold rightV
    rw [decide_eq_true (p := 1 ≤ ep) (by omega), decide_eq_true (p := ep ≤ 274877906944) (by omega), decide_eq_true (p := 1 ≤ L.length) (by omega), decide_eq_true (p := L.length ≤ 6) (by omega)]
    rfl
  have HR0 := Lib.hid hR0
  clear hR0
  go_wp2_with fail
  go_loopw [43] (fun i wr => ∃ (k : Nat) (s : Int), k ≤ L.length ∧ i = .int .i64 k ∧ Hid (rowR ep [] 1 L = rowR ep ((L.map Nd.node).take k) s (L.drop k)) ∧ Hid (s = sAt L k) ∧ 1 ≤ s ∧ Below w1.heap.size w1 wr) (fun i _ => L.length - (intOf i).toNat)
  case atStart => exact ⟨0, 1, Nat.zero_le _, rfl, Lib.hid rfl, Lib.hid rfl, Int.le_refl _, Below.refl _ _⟩
  case round =>
    obtain ⟨k, s, hk, rfl, hr, hs, hs1, hBw⟩ := hrel
    have hBr := HB.out.trans (hBw.mono HB.out.size)
    have HBr := Lib.hid hBr
    have hw1 : q < w1.heap.size := (Array.getElem?_eq_some_iff.1 HBK.out).1
    have e0 : wr.cell? ⟨q, 0, none⟩ = some (.int .i64 ep) := (hBw.cell (p := ⟨q, 0, none⟩) hw1).trans c0
    have e1 : wr.cell? ⟨q, 1, none⟩ = some (.slice A L.length ca) := (hBw.cell (p := ⟨q, 1, none⟩) hw1).trans c1
    have e2 : wr.cell? ⟨q, 2, none⟩ = some (.slice B L.length cb) := (hBw.cell (p := ⟨q, 2, none⟩) hw1).trans c2
    have e3 : wr.cell? ⟨q, 3, none⟩ = some (.slice C L.length cc) := (hBw.cell (p := ⟨q, 3, none⟩) hw1).trans c3
    have HBW := Lib.hid hBw
    clear hBw hBr
    by_cases hlt : k < L.length
    · have d0 : decide ((k : Int) < (L.length : Int)) = true := decide_eq_true (by omega)
      have hS := H.out.fresh HBW.out
      obtain ⟨qa, oa, rfl, _, hqa, hxx⟩ := hS.ch.cell_ (i := k) (by rw [List.length_map]; exact hlt)
      have x0 := hxx 0 _ rfl
      obtain ⟨qb, ob, rfl, _, hqb, hyy⟩ := hS.si.cell_ (i := k) (by rw [List.length_map]; exact hlt)
      have y0 := hyy 0 _ rfl
      obtain ⟨qc, oc, rfl, _, hqc, hzz⟩ := hS.bo.cell_ (i := k) (by rw [List.length_map]; exact hlt)
      have z0 := hzz 0 _ rfl
      rw [Nat.mul_one, Nat.add_zero, List.getElem_map] at x0 y0 z0
      have hcut := run_cut_high (P := Tryz.prog) Tryz.underlying22 sizeInt (some ⟨qa, oa, none⟩) L.length ca (k : Int) (by omega) (by omega)
      rw [Int.toNat_natCast] at hcut
      have hT := hS.ch.take_ (i := k) (by rw [List.length_map]; omega)
      have HT := Lib.hid hT
      have HSI := Lib.hid hS.si
      have hfail := rowR_fail hr.out hlt
      have hdrop := rowR_drop hlt (ep := ep) s
      have hAtS : gmax (atI (L.map Nd.since) ((k : Int) - 1)) 1 = s := by
        rw [hs.out]
        cases k with
        | zero => rfl
        | succ k =>
          have h1 : sAt L (k + 1) = atI (L.map Nd.since) k := rfl
          rw [hs.out] at hs1
          rw [h1] at hs1 ⊢
          rw [show ((k + 1 : Nat) : Int) - 1 = (k : Int) by omega]
          unfold gmax
          omega
      have hsn : sAt L (k + 1) = L[k].since := by
        show atI (L.map Nd.since) k = _
        rw [atI_in (by rw [List.length_map]; exact hlt), List.getElem_map]
      obtain ⟨nd, hnd⟩ : ∃ x, x = L[k].node := ⟨_, rfl⟩
      obtain ⟨si, hsi⟩ : ∃ x, x = L[k].since := ⟨_, rfl⟩
      obtain ⟨bo, hbo⟩ : ∃ x, x = L[k].boot := ⟨_, rfl⟩
      rw [← hnd] at x0 hfail hdrop
      rw [← hsi] at y0 hfail hdrop hsn
      rw [← hbo] at z0 hfail hdrop
      have HF := Lib.hid hfail
      have HD := Lib.hid hdrop
      have HAS := Lib.hid hAtS
      have HSN := Lib.hid hsn
      have HRK := Lib.hid hr.out
      clear hfail hdrop hAtS hsn hnd hsi hbo hxx hyy hzz hT hS hr hs
      by_cases p1 : nd < 1
      · have RF : Hid (rightV ⟨ep, L⟩ = false) := Lib.hid (HF.out (.inl p1) ⟨ep, L⟩ rfl rfl)
        have m1 : decide (nd < 1) = true := by simpa using p1
        clear hcut
        · go_wp2_with fail
          go_ret
          rw [show rightV ⟨ep, L⟩ = false from RF.out]
          exact ⟨rfl, HBr.out⟩
      have m1 : decide (nd < 1) = false := by simpa using p1
      by_cases p2 : 100 < nd
      · have RF : Hid (rightV ⟨ep, L⟩ = false) := Lib.hid (HF.out (.inr (.inl p2)) ⟨ep, L⟩ rfl rfl)
        have m2 : decide (100 < nd) = true := by simpa using p2
        clear hcut
        · go_wp2_with fail
          go_ret
          rw [show rightV ⟨ep, L⟩ = false from RF.out]
          exact ⟨rfl, HBr.out⟩
      have m2 : decide (100 < nd) = false := by simpa using p2
      by_cases p3 : nd ∈ (L.map Nd.node).take k
      · have RF : Hid (rightV ⟨ep, L⟩ = false) := Lib.hid (HF.out (.inr (.inr (.inl p3))) ⟨ep, L⟩ rfl rfl)
        have M3 : Hid (decide (nd ∈ (L.map Nd.node).take k) = true) := Lib.hid (by simpa using p3)
        go_wp2_with fail
        refine (contains_any wr F (.slice (cutA (some ⟨qa, oa, none⟩) ca 0 1) k ca) ((L.map Nd.node).take k) HT.out nd).mono ?_
        rintro e w2 ⟨rfl, rfl⟩
        rw [M3.out]
        · go_wp2_with fail
          go_ret
          rw [show rightV ⟨ep, L⟩ = false from RF.out]
          exact ⟨rfl, HBr.out⟩
      have M3 : decide (nd ∈ (L.map Nd.node).take k) = false := by simpa using p3
      have M3' := Lib.hid M3
      clear M3
      go_wp2_with fail
      refine (contains_any wr F (.slice (cutA (some ⟨qa, oa, none⟩) ca 0 1) k ca) ((L.map Nd.node).take k) HT.out nd).mono ?_
      rintro e w2 ⟨rfl, rfl⟩
      rw [M3'.out]
      go_wp2_with fail
      refine (at_any wr F _ _ HSI.out ((k : Int) - 1)).mono ?_
      rintro e w2 ⟨rfl, hB2⟩
      have HB2 := Lib.hid (HBr.out.trans (hB2.mono HBr.out.size))
      have HB3 := Lib.hid (HBW.out.trans (hB2.mono HBW.out.size))
      obtain ⟨ai, has⟩ : ∃ x, x = atI (L.map Nd.since) ((k : Int) - 1) := ⟨_, rfl⟩
      rw [← has] at HAS ⊢
      have e0 : w2.cell? ⟨q, 0, none⟩ = some (.int .i64 ep) := (hB2.cell (p := ⟨q, 0, none⟩) (Nat.lt_of_lt_of_le hw1 HBW.out.size)).trans e0
      have e3 : w2.cell? ⟨q, 3, none⟩ = some (.slice (some ⟨qc, oc, none⟩) L.length cc) := (hB2.cell (p := ⟨q, 3, none⟩) (Nat.lt_of_lt_of_le hw1 HBW.out.size)).trans e3
      have z0 : w2.cell? ⟨qc, oc + k, none⟩ = some (.int .i64 bo) := (hB2.cell (p := ⟨qc, oc + k, none⟩) hqc).trans z0
      have HBr := HB2
      clear hB2 has
      by_cases p4 : si < s
      · have RF : Hid (rightV ⟨ep, L⟩ = false) := Lib.hid (HF.out (.inr (.inr (.inr (.inl p4)))) ⟨ep, L⟩ rfl rfl)
        have m4 : decide (si < gmax ai 1) = true := by rw [HAS.out]; simpa using p4
        · go_wp2_with fail
          go_ret
          rw [show rightV ⟨ep, L⟩ = false from RF.out]
          exact ⟨rfl, HBr.out⟩
      have m4 : decide (si < gmax ai 1) = false := by rw [HAS.out]; simpa using p4
      by_cases p5 : ep < si
      · have RF : Hid (rightV ⟨ep, L⟩ = false) := Lib.hid (HF.out (.inr (.inr (.inr (.inr (.inl p5))))) ⟨ep, L⟩ rfl rfl)
        have m5 : decide (ep < si) = true := by simpa using p5
        · go_wp2_with fail
          go_ret
          rw [show rightV ⟨ep, L⟩ = false from RF.out]
          exact ⟨rfl, HBr.out⟩
      have m5 : decide (ep < si) = false := by simpa using p5
      by_cases p6 : bo < 0
      · have RF : Hid (rightV ⟨ep, L⟩ = false) := Lib.hid (HF.out (.inr (.inr (.inr (.inr (.inr (.inl p6)))))) ⟨ep, L⟩ rfl rfl)
        have m6 : decide (bo < 0) = true := by simpa using p6
        · go_wp2_with fail
          go_ret
          rw [show rightV ⟨ep, L⟩ = false from RF.out]
          exact ⟨rfl, HBr.out⟩
      have m6 : decide (bo < 0) = false := by simpa using p6
      by_cases p7 : 274877906944 < bo
      · have RF : Hid (rightV ⟨ep, L⟩ = false) := Lib.hid (HF.out (.inr (.inr (.inr (.inr (.inr (.inr p7)))))) ⟨ep, L⟩ rfl rfl)
        have m7 : decide (274877906944 < bo) = true := by simpa using p7
        · go_wp2_with fail
          go_ret
          rw [show rightV ⟨ep, L⟩ = false from RF.out]
          exact ⟨rfl, HBr.out⟩
      have m7 : decide (274877906944 < bo) = false := by simpa using p7
      go_wp2_with fail
      go_roundw
      case rel =>
        refine ⟨k + 1, si, hlt, by go_num, Lib.hid ?_, Lib.hid HSN.out.symm, by omega, HB3.out⟩
        rw [HRK.out, HD.out, M3'.out, decide_eq_true (p := 1 ≤ nd) (by omega), decide_eq_true (p := nd ≤ 100) (by omega), decide_eq_true (p := s ≤ si) (by omega), decide_eq_true (p := si ≤ ep) (by omega), decide_eq_true (p := 0 ≤ bo) (by omega), decide_eq_true (p := bo ≤ 274877906944) (by omega)]
        rfl
      case measure => simp [intOf]; omega
    · have hkl : k = L.length := by omega
      subst hkl
      have hs := hr.out
      rw [List.drop_length] at hs
      have RT : Hid (rightV ⟨ep, L⟩ = true) := Lib.hid (by rw [HR0.out, hs]; rfl)
      clear hs hr
      have d0 : decide ((L.length : Int) < (L.length : Int)) = false := by simp
      go_wp2_with fail
      go_ret
      rw [RT.out]
      exact ⟨rfl, HBr.out⟩
set_option maxHeartbeats 1000000 in
theorem place_any (w : World) (F : Nat → Prop) (ep : Int) (L : List Nd) (a b c : Value) (h : VwSl w F L a b c) (hr : RightV ⟨ep, L⟩) (x : Int) :
    Calls Tryz.prog 11 #[.agg #[.int .i64 ep, a, b, c], .int .i64 x] w fun e w' => e = .returned (.int .i64 (idxI x 0 (L.map Nd.node))) ∧ Below w.heap.size w w' := by
  obtain ⟨A, ca, B, cb, C, cc, rfl, rfl, rfl, hca, hcm, hcb, hcc⟩ := h.shape
  have hB0 : Below w.heap.size w (w.alloc (.cells #[.int .i64 ep, .slice A L.length ca, .slice B L.length cb, .slice C L.length cc] 45)) := (Below.refl _ w).alloc (Nat.le_refl _) _
  have hblk := heap_alloc_new w (.cells #[.int .i64 ep, .slice A L.length ca, .slice B L.length cb, .slice C L.length cc] 45)
  have hR := right_any _ F ep L _ _ _ (h.fresh hB0)
  rw [rightV_iff.2 hr] at hR
  have HR := Lib.hid hR
  have H := Lib.hid (h.fresh hB0)
  have HB := Lib.hid hB0
  have HBK := Lib.hid hblk
  clear h hB0 hblk hR
  go_enter Tryz.func11, Tryz.ntmps11
  go_upto_region 1 with (fail)
  obtain ⟨q, hq⟩ : ∃ q, w.heap.size = q := ⟨_, rfl⟩
  rw [hq] at HBK ⊢
  generalize w.alloc (.cells #[.int .i64 ep, .slice A L.length ca, .slice B L.length cb, .slice C L.length cc] 45) = w1 at H HB HBK HR ⊢
  have c0 : w1.cell? ⟨q, 0, none⟩ = some (.int .i64 ep) := cell_of_row w1 q 0 _ _ _ HBK.out
  have c1 : w1.cell? ⟨q, 1, none⟩ = some (.slice A L.length ca) := cell_of_row w1 q 1 _ _ _ HBK.out
  have c2 : w1.cell? ⟨q, 2, none⟩ = some (.slice B L.length cb) := cell_of_row w1 q 2 _ _ _ HBK.out
  have c3 : w1.cell? ⟨q, 3, none⟩ = some (.slice C L.length cc) := cell_of_row w1 q 3 _ _ _ HBK.out
  clear hq
  go_wp2_with fail
  refine HR.out.mono ?_
  rintro e w2 ⟨rfl, hB2⟩
  have hw1 : q < w1.heap.size := (Array.getElem?_eq_some_iff.1 HBK.out).1
  have e1 : w2.cell? ⟨q, 1, none⟩ = some (.slice A L.length ca) := (hB2.cell (p := ⟨q, 1, none⟩) hw1).trans c1
  have HS := Lib.hid (H.out.fresh hB2).ch
  have HB2 := Lib.hid (HB.out.trans (hB2.mono HB.out.size))
  clear hB2
  go_wp2_with fail
  refine (index_any _ F _ _ HS.out x).mono ?_
  rintro e w3 ⟨rfl, rfl⟩
  go_wp2_with fail
  go_ret
  exact ⟨rfl, HB2.out⟩
end Go.Proofs.YtoegdpcfhmjnaaaGreatDoor
