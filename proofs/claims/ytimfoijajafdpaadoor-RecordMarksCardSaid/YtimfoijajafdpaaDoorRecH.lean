/- RecordMarks. -/
import Derived.Test.YtimfoijajafdpaaDoorRecG
namespace Go.Proofs.YtimfoijajafdpaaDoor
open Go.RowKit Go.Bl
attribute [local go_sem ↓] Go.wp_at_zero Go.wp_at_succ

set_option maxRecDepth 10000 in
set_option maxHeartbeats 4000000 in
theorem marksL_any (w : World) (hT : Tabs w) (G : Nat → Prop) (v : Value) (l : List Int) (h : Sl w G 1 intc v l) (first : Int) :
    Calls Tryd.prog 4 #[v, .int .i64 first] w fun x w' => x = .returned (.bool true) ∧ Below w.heap.size w w' := by
  obtain ⟨A, c, rfl, hA1, hA2⟩ := h.shape
  unfold maxLen at hA2
  have hmx := @run_gmax Tryd.prog
  have HT := Lib.hid hT
  have HS := Lib.hid h
  clear hT h
  by_cases h60 : 60 < l.length
  · have d1 : decide ((l.length : Int) > 60) = true := by simp; omega
    go_enter Tryd.func4, Tryd.ntmps4
    go_wp2_with fail
    refine (shown_any w HT.out).mono ?_
    rintro e w1 ⟨rfl, hB1⟩
    have HB1 := Lib.hid hB1
    clear hB1
    go_wp2_with fail
    go_ret
    exact ⟨rfl, HB1.out⟩
  have d1 : decide ((l.length : Int) > 60) = false := by simp; omega
  by_cases hf1 : first < 1
  · have d2 : decide (first < 1) = true := decide_eq_true hf1
    go_enter Tryd.func4, Tryd.ntmps4
    go_wp2_with fail
    refine (shown_any w HT.out).mono ?_
    rintro e w1 ⟨rfl, hB1⟩
    have HB1 := Lib.hid hB1
    clear hB1
    go_wp2_with fail
    go_ret
    exact ⟨rfl, HB1.out⟩
  have d2 : decide (first < 1) = false := decide_eq_false hf1
  by_cases hf2 : first > 1073741824
  · have d3 : decide (first > 1073741824) = true := decide_eq_true hf2
    go_enter Tryd.func4, Tryd.ntmps4
    go_wp2_with fail
    refine (shown_any w HT.out).mono ?_
    rintro e w1 ⟨rfl, hB1⟩
    have HB1 := Lib.hid hB1
    clear hB1
    go_wp2_with fail
    go_ret
    exact ⟨rfl, HB1.out⟩
  have d3 : decide (first > 1073741824) = false := decide_eq_false hf2
  have hl60 : l.length ≤ 60 := by omega
  have hfa : 1 ≤ first := by omega
  have hfb : first ≤ 1073741824 := by omega
  clear h60 hf1 hf2
  go_enter Tryd.func4, Tryd.ntmps4
  go_wp2_with fail
  refine (shown_any w HT.out).mono ?_
  rintro e w1 ⟨rfl, hB1⟩
  have HB1 := Lib.hid hB1
  clear hB1
  go_wp2_with fail
  clear d1 d2 d3
  go_loopw [6, 7, 8, 9, 10] (fun vl e mn i _ wr => ∃ (k : Nat), k ≤ l.length ∧ i = .int .i64 k ∧ ∃ (L : List Pl) (ep : Int) (cnt : Nat), e = .int .i64 ep ∧ mn = .int .i64 cnt ∧ (marksN (peOf (L.map toE)) k).length = cnt ∧ cnt ≤ k ∧ L.length = k ∧ Run (first - 1) 1 (L.map toE) ∧ lastE 1 (L.map toE) = ep ∧ 1 ≤ ep ∧ ep ≤ 1 + 2 * k ∧ Own wr w.heap.size 29 7 plc vl L ∧ Evs wr L ∧ Below w.heap.size w wr) (fun _ _ _ i _ _ => l.length - (intOf i).toNat)
  case atStart => exact ⟨0, Nat.zero_le _, rfl, [], 1, 0, rfl, rfl, rfl, Nat.le_refl _, rfl, trivial, rfl, by decide, by decide, Own.nil_ _ _ _ _ _, (fun p (hp : p ∈ []) => absurd hp List.not_mem_nil), HB1.out⟩
  case round =>
    obtain ⟨k, hk, rfl, L, ep, cnt, rfl, rfl, hcnt, hck, hlk, hR, hL, he1, he2, hO, hE, hB⟩ := hrel
    have HB := Lib.hid hB
    have HO := Lib.hid hO
    have HE := Lib.hid hE
    have HR := Lib.hid hR
    have HL := Lib.hid hL
    have HLK := Lib.hid hlk
    have HC := Lib.hid hcnt
    clear hB hO hE hR hL hlk hcnt
    by_cases hlt : k < l.length
    · obtain ⟨b1, o1, rfl, _, _, hxx⟩ := (HS.out.fresh HB.out).cell_ hlt
      have x0 := hxx 0 _ rfl
      simp only [Nat.add_zero, Nat.mul_one] at x0
      clear hxx
      have hm := mag_bound l[k] 3 (by decide) (by decide)
      obtain ⟨m, hme⟩ : ∃ m, gmax (l[k].tmod 3) (wrap64 (-(l[k].tmod 3))) = m := ⟨_, rfl⟩
      rw [hme] at hm
      obtain ⟨hm1, hm2⟩ := hm
      have hsn : ∀ g, marksN (peOf ((L ++ [(⟨g, first + (k : Int), ep + m⟩ : Pl)]).map toE)) (k + 1) = if k = 0 ∨ m ≠ 0 then marksN (peOf (L.map toE)) k ++ [⟨ep + m, first + (k : Int)⟩] else marksN (peOf (L.map toE)) k := fun g => by
        have := marks_snoc HR.out (toE ⟨g, first + (k : Int), ep + m⟩)
        rw [List.length_map, HLK.out, HL.out] at this
        rw [List.map_append]
        refine this.trans ?_
        by_cases hq : k = 0 ∨ m ≠ 0
        · rw [if_pos hq, if_pos (hq.imp id (fun h => by show ep + m ≠ ep; omega))]; rfl
        · rw [if_neg hq, if_neg (fun h => hq (h.imp id (fun h => by have h : ep + m ≠ ep := h; omega)))]
      have HSN := Lib.hid hsn
      clear hsn
      go_upto_region 10 with (fail)
      go_quiet (fail)
      clear hme
      by_cases hk0 : k = 0
      · have d0 : ((k : Int) == 0) = true := by rw [beq_iff_eq]; omega
        have HK0 := Lib.hid hk0
        clear hk0
        go_wp2_with fail
        refine (plain_at _ _ _).mono ?_
        rintro x w3 ⟨g, _, hg, rfl, hr, hB3⟩
        have hOw : Own (w3.alloc (.cells #[.int .i64 (first + (k : Int)), .int .i64 (ep + m), .string ⟨#[115]⟩, .int .i64 0, .int .i64 1, .int .i64 1, .slice (some ⟨g, 0, none⟩) 1 1] 29)) w.heap.size 29 7 plc _ L := ((HO.out.drewN nq).fresh hB3).fresh ((Below.refl _ _).alloc (Nat.le_refl _) _)
        have hone : Sl (w3.alloc (.cells #[.int .i64 (first + (k : Int)), .int .i64 (ep + m), .string ⟨#[115]⟩, .int .i64 0, .int .i64 1, .int .i64 1, .slice (some ⟨g, 0, none⟩) 1 1] 29)) (fun b => b = w3.heap.size) 7 plc (.slice (some ⟨w3.heap.size, 0, none⟩) 1 1) [⟨g, first + (k : Int), ep + m⟩] := Sl.single (heap_alloc_new w3 _) rfl
        have hE3 : Evs (w3.alloc (.cells #[.int .i64 (first + (k : Int)), .int .i64 (ep + m), .string ⟨#[115]⟩, .int .i64 0, .int .i64 1, .int .i64 1, .slice (some ⟨g, 0, none⟩) 1 1] 29)) (L ++ [⟨g, first + (k : Int), ep + m⟩]) := (((show Evs (wr.drewN nq) L from HE.out).fresh hB3).snoc hr _ _).fresh ((Below.refl _ _).alloc (Nat.le_refl _) _)
        have hBw : Below w.heap.size w (w3.alloc (.cells #[.int .i64 (first + (k : Int)), .int .i64 (ep + m), .string ⟨#[115]⟩, .int .i64 0, .int .i64 1, .int .i64 1, .slice (some ⟨g, 0, none⟩) 1 1] 29)) := ((show Below w.heap.size w (wr.drewN nq) from HB.out.trans ⟨rfl, rfl, rfl, Nat.le_refl _, fun _ _ => rfl⟩).trans (hB3.mono HB.out.size)).alloc (Nat.le_trans HB.out.size hB3.size) _
        have HONE := Lib.hid hone
        have HOW := Lib.hid hOw
        have HE3 := Lib.hid hE3
        have HBW := Lib.hid hBw
        clear hone hOw hE3 hBw hr hB3
        go_wp2_with (at_builtin; refine elPl.append _ (by rfl) _ _ rfl w.heap.size _ _ rfl HOW.out _ _ _ rfl HONE.out (by have := HLK.out; simp; omega) HBW.out.size ?_; intro v' w' hO' hgr hAt)
        go_roundw
        case rel =>
          refine ⟨k + 1, hlt, by go_num, L ++ [⟨g, first + (k : Int), ep + m⟩], ep + m, cnt + 1, rfl, by first | rfl | go_num, ?_, by omega, ?_, ?_, ?_, by omega, by omega, hO', HE3.out.grown HOW.out hgr, Below.keep HBW.out (Keeps.of_grown hgr) HBW.out.size (fun z hz => (HOW.out.lt z hz).1)⟩
          · rw [HSN.out g, if_pos (.inl HK0.out)]
            rw [List.length_append, HC.out]; rfl
          · rw [List.length_append, HLK.out]; rfl
          · have := HR.out.snoc (g := g) (e := ep + m) (by rw [HL.out]; omega)
            rw [List.map_append]
            rw [List.length_map, HLK.out, show first - 1 + (k : Int) + 1 = first + k by omega] at this
            exact this
          · rw [List.map_append]
            exact lastE_snoc _ _ _
        case measure => simp [intOf]; omega
      · have d0 : ((k : Int) == 0) = false := by rw [beq_eq_false_iff_ne]; omega
        by_cases hm0 : m > 0
        · have d4 : decide (m > 0) = true := decide_eq_true hm0
          go_wp2_with fail
          refine (plain_at _ _ _).mono ?_
          rintro x w3 ⟨g, _, hg, rfl, hr, hB3⟩
          have hOw : Own (w3.alloc (.cells #[.int .i64 (first + (k : Int)), .int .i64 (ep + m), .string ⟨#[115]⟩, .int .i64 0, .int .i64 1, .int .i64 1, .slice (some ⟨g, 0, none⟩) 1 1] 29)) w.heap.size 29 7 plc _ L := ((HO.out.drewN nq).fresh hB3).fresh ((Below.refl _ _).alloc (Nat.le_refl _) _)
          have hone : Sl (w3.alloc (.cells #[.int .i64 (first + (k : Int)), .int .i64 (ep + m), .string ⟨#[115]⟩, .int .i64 0, .int .i64 1, .int .i64 1, .slice (some ⟨g, 0, none⟩) 1 1] 29)) (fun b => b = w3.heap.size) 7 plc (.slice (some ⟨w3.heap.size, 0, none⟩) 1 1) [⟨g, first + (k : Int), ep + m⟩] := Sl.single (heap_alloc_new w3 _) rfl
          have hE3 : Evs (w3.alloc (.cells #[.int .i64 (first + (k : Int)), .int .i64 (ep + m), .string ⟨#[115]⟩, .int .i64 0, .int .i64 1, .int .i64 1, .slice (some ⟨g, 0, none⟩) 1 1] 29)) (L ++ [⟨g, first + (k : Int), ep + m⟩]) := (((show Evs (wr.drewN nq) L from HE.out).fresh hB3).snoc hr _ _).fresh ((Below.refl _ _).alloc (Nat.le_refl _) _)
          have hBw : Below w.heap.size w (w3.alloc (.cells #[.int .i64 (first + (k : Int)), .int .i64 (ep + m), .string ⟨#[115]⟩, .int .i64 0, .int .i64 1, .int .i64 1, .slice (some ⟨g, 0, none⟩) 1 1] 29)) := ((show Below w.heap.size w (wr.drewN nq) from HB.out.trans ⟨rfl, rfl, rfl, Nat.le_refl _, fun _ _ => rfl⟩).trans (hB3.mono HB.out.size)).alloc (Nat.le_trans HB.out.size hB3.size) _
          have HONE := Lib.hid hone
          have HOW := Lib.hid hOw
          have HE3 := Lib.hid hE3
          have HBW := Lib.hid hBw
          clear hone hOw hE3 hBw hr hB3
          go_wp2_with (at_builtin; refine elPl.append _ (by rfl) _ _ rfl w.heap.size _ _ rfl HOW.out _ _ _ rfl HONE.out (by have := HLK.out; simp; omega) HBW.out.size ?_; intro v' w' hO' hgr hAt)
          go_roundw
          case rel =>
            refine ⟨k + 1, hlt, by go_num, L ++ [⟨g, first + (k : Int), ep + m⟩], ep + m, cnt + 1, rfl, by first | rfl | go_num, ?_, by omega, ?_, ?_, ?_, by omega, by omega, hO', HE3.out.grown HOW.out hgr, Below.keep HBW.out (Keeps.of_grown hgr) HBW.out.size (fun z hz => (HOW.out.lt z hz).1)⟩
            · rw [HSN.out g, if_pos (.inr (by omega))]
              rw [List.length_append, HC.out]; rfl
            · rw [List.length_append, HLK.out]; rfl
            · have := HR.out.snoc (g := g) (e := ep + m) (by rw [HL.out]; omega)
              rw [List.map_append]
              rw [List.length_map, HLK.out, show first - 1 + (k : Int) + 1 = first + k by omega] at this
              exact this
            · rw [List.map_append]
              exact lastE_snoc _ _ _
          case measure => simp [intOf]; omega
        · have d4 : decide (m > 0) = false := decide_eq_false hm0
          go_wp2_with fail
          refine (plain_at _ _ _).mono ?_
          rintro x w3 ⟨g, _, hg, rfl, hr, hB3⟩
          have hOw : Own (w3.alloc (.cells #[.int .i64 (first + (k : Int)), .int .i64 (ep + m), .string ⟨#[115]⟩, .int .i64 0, .int .i64 1, .int .i64 1, .slice (some ⟨g, 0, none⟩) 1 1] 29)) w.heap.size 29 7 plc _ L := ((HO.out.drewN nq).fresh hB3).fresh ((Below.refl _ _).alloc (Nat.le_refl _) _)
          have hone : Sl (w3.alloc (.cells #[.int .i64 (first + (k : Int)), .int .i64 (ep + m), .string ⟨#[115]⟩, .int .i64 0, .int .i64 1, .int .i64 1, .slice (some ⟨g, 0, none⟩) 1 1] 29)) (fun b => b = w3.heap.size) 7 plc (.slice (some ⟨w3.heap.size, 0, none⟩) 1 1) [⟨g, first + (k : Int), ep + m⟩] := Sl.single (heap_alloc_new w3 _) rfl
          have hE3 : Evs (w3.alloc (.cells #[.int .i64 (first + (k : Int)), .int .i64 (ep + m), .string ⟨#[115]⟩, .int .i64 0, .int .i64 1, .int .i64 1, .slice (some ⟨g, 0, none⟩) 1 1] 29)) (L ++ [⟨g, first + (k : Int), ep + m⟩]) := (((show Evs (wr.drewN nq) L from HE.out).fresh hB3).snoc hr _ _).fresh ((Below.refl _ _).alloc (Nat.le_refl _) _)
          have hBw : Below w.heap.size w (w3.alloc (.cells #[.int .i64 (first + (k : Int)), .int .i64 (ep + m), .string ⟨#[115]⟩, .int .i64 0, .int .i64 1, .int .i64 1, .slice (some ⟨g, 0, none⟩) 1 1] 29)) := ((show Below w.heap.size w (wr.drewN nq) from HB.out.trans ⟨rfl, rfl, rfl, Nat.le_refl _, fun _ _ => rfl⟩).trans (hB3.mono HB.out.size)).alloc (Nat.le_trans HB.out.size hB3.size) _
          have HONE := Lib.hid hone
          have HOW := Lib.hid hOw
          have HE3 := Lib.hid hE3
          have HBW := Lib.hid hBw
          clear hone hOw hE3 hBw hr hB3
          go_wp2_with (at_builtin; refine elPl.append _ (by rfl) _ _ rfl w.heap.size _ _ rfl HOW.out _ _ _ rfl HONE.out (by have := HLK.out; simp; omega) HBW.out.size ?_; intro v' w' hO' hgr hAt)
          go_roundw
          case rel =>
            refine ⟨k + 1, hlt, by go_num, L ++ [⟨g, first + (k : Int), ep + m⟩], ep + m, cnt, rfl, by first | rfl | go_num, ?_, by omega, ?_, ?_, ?_, by omega, by omega, hO', HE3.out.grown HOW.out hgr, Below.keep HBW.out (Keeps.of_grown hgr) HBW.out.size (fun z hz => (HOW.out.lt z hz).1)⟩
            · rw [HSN.out g, if_neg (fun h => h.elim hk0 (fun h => h (by omega)))]
              exact HC.out
            · rw [List.length_append, HLK.out]; rfl
            · have := HR.out.snoc (g := g) (e := ep + m) (by rw [HL.out]; omega)
              rw [List.map_append]
              rw [List.length_map, HLK.out, show first - 1 + (k : Int) + 1 = first + k by omega] at this
              exact this
            · rw [List.map_append]
              exact lastE_snoc _ _ _
          case measure => simp [intOf]; omega
    · have hkd : k = l.length := by omega
      subst hkd
      obtain ⟨A1, c1, rfl, hc1, hc2⟩ := HO.out.shape_ HLK.out
      unfold maxLen at hc2
      have hlm : (L.map toE).length = l.length := by rw [List.length_map, HLK.out]
      obtain ⟨hpw, hat⟩ := marks_law (f := first) HR.out
      have hat' : ∀ i (hi : i < L.length), atM (marksN (peOf (L.map toE)) (L.map toE).length) L[i].pos = L[i].epoch := fun i hi => by
        have := (hat i (by rw [List.length_map]; exact hi)).2
        rw [List.getElem_map] at this
        exact this
      clear hat
      rw [hlm] at hpw hat'
      have hEa := ents_of HO.out HE.out
      have hMa := marks_any wr _ (fun _ h => h) _ _ hEa (by rw [hlm]; omega)
      rw [hlm] at hMa
      obtain ⟨M, hM⟩ : ∃ M, marksN (peOf (L.map toE)) l.length = M := ⟨_, rfl⟩
      rw [hM] at hpw hat' hMa
      have hMc : M.length = cnt := by rw [← hM]; exact HC.out
      have hfo := fun (wz : World) (hz : Below wr.heap.size wr wz) => follows_any wz ((HT.out.fresh HB.out).fresh hz) _ _ _ (hEa.fresh hz) (by rw [hlm]; omega) (first - 1) 0
      rw [(HR.out.weak (ep' := 0) (by decide)).follows (by omega) (by rw [hlm]; omega) (fun a ha => by
        obtain ⟨i, hi, rfl⟩ := List.getElem_of_mem ha
        exact (HR.out.at hi).2.1) (by have := lastE_mono (ep := 1) (ep' := 0) (L.map toE) (by decide); have := HL.out; omega)] at hfo
      have HPW := Lib.hid hpw
      have HAT := Lib.hid hat'
      have HMa := Lib.hid hMa
      have HFo := Lib.hid hfo
      have HMC := Lib.hid hMc
      clear hpw hat' hMa hfo hEa hlm hM hMc
      go_wp2_with fail
      refine HMa.out.mono ?_
      rintro x w2 ⟨vm, rfl, hOm, hB2⟩
      obtain ⟨A2, c2, rfl, hd1, hd2⟩ := hOm.shape_ HMC.out
      unfold maxLen at hd2
      have HSM := Lib.hid (hOm.sl mkc_len)
      have HB2 := Lib.hid hB2
      clear hOm hB2
      go_wp2_with fail
      refine (HFo.out _ HB2.out).mono ?_
      rintro x w3 ⟨rfl, hB3⟩
      have HSM3 := Lib.hid (HSM.out.fresh hB3)
      have HB3 := Lib.hid (HB2.out.trans (hB3.mono HB2.out.size))
      clear hB3
      have HSL := Lib.hid ((HO.out.sl plc_len).fresh HB3.out)
      have HBF := Lib.hid (HB.out.trans (HB3.out.mono HB.out.size))
      go_wp2_with fail
      go_loopw [12] (fun i wz => ∃ k : Nat, k ≤ cnt ∧ i = .int .i64 ((k : Int) + 1) ∧ Below w3.heap.size w3 wz) (fun i _ => cnt + 1 - (intOf i).toNat)
      case atStart => exact ⟨0, Nat.zero_le _, rfl, Below.refl _ _⟩
      case round =>
        obtain ⟨k, hk2, rfl, hB⟩ := hrel
        have HBz := Lib.hid hB
        clear hB
        by_cases hlt2 : k + 1 < cnt
        · have hkM : k + 1 < M.length := by rw [HMC.out]; exact hlt2
          have hkM1 : k < M.length := by omega
          obtain ⟨b2, o2, rfl, _, _, hxx⟩ := (HSM3.out.fresh HBz.out).cell_ hkM
          obtain ⟨b5, o5, he5, _, _, hx5⟩ := (HSM3.out.fresh HBz.out).cell_ hkM1
          injection he5 with he5
          injection he5 with he5 he6
          subst he5 he6
          have x0 := hxx 0 _ rfl
          have x1 := hxx 1 _ rfl
          have y0 := hx5 0 _ rfl
          have y1 := hx5 1 _ rfl
          simp only [Nat.add_zero] at x0 y0
          have hp := List.pairwise_iff_getElem.1 HPW.out k (k + 1) hkM1 hkM (by omega)
          have d5 : decide (M[k + 1].epoch ≤ M[k].epoch) = false := by rw [decide_eq_false_iff_not]; omega
          have d6 : decide (M[k + 1].first ≤ M[k].first) = false := by rw [decide_eq_false_iff_not]; omega
          have hkc : k < cnt := by omega
          have hlti : (k : Int) + 1 < (cnt : Int) := by omega
          have htn : ((k : Int) + 1).toNat = k + 1 := by omega
          generalize M[k + 1] = m1 at *
          generalize M[k] = m0 at *
          clear hxx hx5 hp hkM hkM1
          go_wp2_with fail
          go_quiet (fail)
          go_wp2_with fail
          go_roundw
          case rel => exact ⟨k + 1, by omega, by go_num, HBz.out.trans ⟨rfl, rfl, rfl, Nat.le_refl _, fun _ _ => rfl⟩⟩
          case measure => simp [intOf]; omega
        · go_wp2_with fail
          go_loopw [13, 14, 15] (fun i _ _ wy => ∃ q : Nat, q ≤ l.length ∧ i = .int .i64 q ∧ Below w3.heap.size w3 wy) (fun i _ _ _ => l.length - (intOf i).toNat)
          case atStart => exact ⟨0, Nat.zero_le _, rfl, HBz.out⟩
          case round =>
            obtain ⟨q, hq, rfl, hB⟩ := hrel
            have HBy := Lib.hid hB
            clear hB
            by_cases hlt3 : q < l.length
            · have hqL : q < L.length := by rw [HLK.out]; exact hlt3
              have hatq := HAT.out q hqL
              obtain ⟨b3, o3, rfl, _, hb3, hxx⟩ := (HSL.out.fresh HBy.out).cell_ hqL
              have p0 := hxx 0 _ rfl
              have p1 := hxx 1 _ rfl
              simp only [Nat.add_zero] at p0
              have HATQ := Lib.hid hatq
              clear hxx hatq
              generalize L[q] = pl at *
              clear hqL
              have HP0 := Lib.hid p0
              have HP1 := Lib.hid p1
              have HB3q := Lib.hid hb3
              clear p0 p1 hb3
              obtain ⟨wy, rfl⟩ : ∃ x, x = wr := ⟨_, rfl⟩
              go_wp2_with fail
              go_loopw [14, 15] (fun n s wx => ∃ k2 : Nat, k2 ≤ cnt ∧ s = .int .i64 k2 ∧ n = .int .i64 (atM (M.take k2) pl.pos) ∧ Below wy.heap.size wy wx) (fun _ s _ => cnt - (intOf s).toNat)
              case atStart => exact ⟨0, Nat.zero_le _, rfl, rfl, Below.refl _ _⟩
              case round =>
                obtain ⟨k2, hk2', rfl, rfl, hB⟩ := hrel
                have HBx := Lib.hid hB
                have HBt := Lib.hid (HBy.out.trans (hB.mono HBy.out.size))
                have p0 := (hB.cell (p := ⟨b3, _, none⟩) HB3q.out).trans HP0.out
                have p1 := (hB.cell (p := ⟨b3, _, none⟩) HB3q.out).trans HP1.out
                clear hB
                by_cases hlt4 : k2 < cnt
                · have hkM : k2 < M.length := by rw [HMC.out]; exact hlt4
                  obtain ⟨b2, o2, rfl, _, _, hxx⟩ := (HSM3.out.fresh HBt.out).cell_ hkM
                  have x0 := hxx 0 _ rfl
                  have x1 := hxx 1 _ rfl
                  simp only [Nat.add_zero] at x0
                  have hsn : atM (M.take (k2 + 1)) pl.pos = if M[k2].first ≤ pl.pos then M[k2].epoch else atM (M.take k2) pl.pos := by rw [List.take_succ_eq_append_getElem hkM, atM_snoc]
                  have HSN := Lib.hid hsn
                  clear hxx hsn
                  by_cases hle : M[k2].first ≤ pl.pos
                  · have d7 : decide (M[k2].first ≤ pl.pos) = true := decide_eq_true hle
                    go_wp2_with fail
                    go_quiet (fail)
                    go_wp2_with fail
                    go_roundw
                    case rel => exact ⟨k2 + 1, hlt4, by go_num, by rw [HSN.out, if_pos hle], HBx.out.trans ⟨rfl, rfl, rfl, Nat.le_refl _, fun _ _ => rfl⟩⟩
                    case measure => simp [intOf]; omega
                  · have d7 : decide (M[k2].first ≤ pl.pos) = false := decide_eq_false hle
                    go_wp2_with fail
                    go_quiet (fail)
                    go_wp2_with fail
                    go_roundw
                    case rel => exact ⟨k2 + 1, hlt4, by go_num, by rw [HSN.out, if_neg (by omega)], HBx.out.trans ⟨rfl, rfl, rfl, Nat.le_refl _, fun _ _ => rfl⟩⟩
                    case measure => simp [intOf]; omega
                · have hkd : k2 = cnt := by omega
                  subst hkd
                  have hn : atM (M.take k2) pl.pos = pl.epoch := by
                    rw [← HMC.out, List.take_length]
                    exact HATQ.out
                  go_wp2_with fail
                  go_roundw
                  case rel => exact ⟨q + 1, hlt3, by go_num, HBt.out⟩
                  case measure => simp [intOf]; omega
            · go_wp2_with fail
              go_ret
              exact ⟨rfl, HBF.out.trans (HBy.out.mono HBF.out.size)⟩
end Go.Proofs.YtimfoijajafdpaaDoor
