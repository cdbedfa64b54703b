/- RecordForks. -/
import Derived.Test.YtimfoijajafdpaaDoorRecE
namespace Go.Proofs.YtimfoijajafdpaaDoor
open Go.RowKit Go.Bl
attribute [local go_sem ↓] Go.wp_at_zero Go.wp_at_succ

theorem mag_bound (x n : Int) (h0 : 0 < n) (h1 : n ≤ 1000) : 0 ≤ gmax (x.tmod n) (wrap64 (-(x.tmod n))) ∧ gmax (x.tmod n) (wrap64 (-(x.tmod n))) < n := by
  have h2 := Int.tmod_lt_of_pos x h0
  have h3 := Int.lt_tmod_of_pos x h0
  generalize x.tmod n = y at *
  unfold gmax wrap64
  omega

/-- Plain entries as a row holds them: the event's block, the place, the epoch. -/
structure Pl where
  g : Nat
  pos : Int
  epoch : Int
def toE (p : Pl) : Ent := plainE p.g p.pos p.epoch
def plc (p : Pl) : List Value := [.int .i64 p.pos, .int .i64 p.epoch, .string ⟨#[115]⟩, .int .i64 0, .int .i64 1, .int .i64 1, .slice (some ⟨p.g, 0, none⟩) 1 1]
theorem plc_len (p : Pl) : (plc p).length = 7 := rfl
theorem plc_one (x : Pl) (u : Value) (h : u ∈ plc x) : u.oneCell' = true := by
  simp only [plc, List.mem_cons, List.not_mem_nil, or_false] at h
  rcases h with rfl | rfl | rfl | rfl | rfl | rfl | rfl <;> rfl
theorem infoEntry : (Tryd.prog.info? 29).map (fun i => (i.zero, i.size, i.bytes)) = some (some (.agg #[.int .i64 0, .int .i64 0, .string ByteArray.empty, .int .i64 0, .int .i64 0, .int .i64 0, .slice none 0 0]), 7, 80) := by kernel_rfl
theorem sizeEntry (w : World) : (sizeOf 29).run Tryd.prog w = .ok 7 w := by kernel_rfl
theorem elPl : El Tryd.prog 24 29 7 80 plc := ⟨Tryd.underlying24, ⟨_, infoEntry, rfl⟩, by decide, by decide, plc_len, plc_one⟩
def Evs (w : World) (L : List Pl) : Prop := ∀ p ∈ L, ∃ fr, w.heap[p.g]? = some (.cells #[.string ⟨#[107]⟩, .string ⟨#[]⟩] 55 fr)
theorem Evs.fresh {w w' : World} {L : List Pl} (h : Evs w L) (hB : Below w.heap.size w w') : Evs w' L := fun p hp => by
  obtain ⟨fr, hb⟩ := h p hp
  exact ⟨fr, (hB.block _ (Array.getElem?_eq_some_iff.1 hb).1).trans hb⟩
theorem Evs.grown {w w' : World} {L M : List Pl} {base : Nat} {v : Value} (h : Evs w L) (hO : Own w base 29 7 plc v M) (hg : w.grownBy w' v.ownBlock) : Evs w' L := fun p hp => by
  obtain ⟨fr, hb⟩ := h p hp
  refine ⟨fr, (hg.block _ (Array.getElem?_eq_some_iff.1 hb).1 (fun e => ?_)).trans hb⟩
  rcases hO.2 with ⟨rfl, _⟩ | ⟨g, cap, cur, rfl, _, hg2, _⟩
  · cases e
  · injection e with e
    have e : p.g = g := by first | exact e | exact e.symm
    rw [e, hg2] at hb
    injection hb with hb
    injection hb with _ hb
    exact absurd hb (by decide)
theorem Evs.snoc {w : World} {L : List Pl} {g : Nat} {fr : Nat × Nat} (h : Evs w L) (hg : w.heap[g]? = some (.cells #[.string ⟨#[107]⟩, .string ⟨#[]⟩] 55 fr)) (pos ep : Int) : Evs w (L ++ [⟨g, pos, ep⟩]) := fun p hp => by
  rcases List.mem_append.1 hp with h1 | h1
  · exact h p h1
  · rw [List.mem_singleton.1 h1]
    exact ⟨fr, hg⟩
theorem ents_of {w : World} {base : Nat} {v : Value} {L : List Pl} (hO : Own w base 29 7 plc v L) (hE : Evs w L) : Ents w (fun k => k < w.heap.size) v (L.map toE) := by
  refine ⟨?_, fun a ha => ?_⟩
  · obtain ⟨A, c, h1, h2, h3, h4⟩ := hO.sl plc_len
    refine ⟨A, c, by rw [List.length_map]; exact h1, by rw [List.length_map]; exact h2, h3, fun h0 => ?_⟩
    rw [List.length_map] at h0
    obtain ⟨b, o, e1, _, e3, e4⟩ := h4 h0
    refine ⟨b, o, e1, e3, e3, fun i hi j u hu => ?_⟩
    have hi' : i < L.length := by simpa using hi
    rw [List.getElem_map] at hu
    exact e4 i hi' j u hu
  · obtain ⟨p, hp, rfl⟩ := List.mem_map.1 ha
    obtain ⟨fr, hb⟩ := hE p hp
    exact plain_ok hb p.pos p.epoch

set_option maxRecDepth 10000 in
set_option maxHeartbeats 4000000 in
theorem forks_any (w : World) (hT : Tabs w) (G : Nat → Prop) (v : Value) (l : List Int) (h : Sl w G 1 intc v l) (part more by_ : Int) :
    Calls Tryd.prog 3 #[v, .int .i64 part, .int .i64 more, .int .i64 by_] w fun x w' => x = .returned (.bool true) ∧ Below w.heap.size w w' := by
  obtain ⟨A, c, rfl, hA1, hA2⟩ := h.shape
  unfold maxLen at hA2
  have hmx := @run_gmax Tryd.prog
  have HT := Lib.hid hT
  have HS := Lib.hid h
  clear hT h
  by_cases h40 : 40 < l.length
  · have d1 : decide ((l.length : Int) > 40) = true := by simp; omega
    go_enter Tryd.func3, Tryd.ntmps3
    go_wp2_with fail
    refine (shown_any w HT.out).mono ?_
    rintro e w1 ⟨rfl, hB1⟩
    have HB1 := Lib.hid hB1
    clear hB1
    go_wp2_with fail
    go_ret
    exact ⟨rfl, HB1.out⟩
  have d1 : decide ((l.length : Int) > 40) = false := by simp; omega
  go_enter Tryd.func3, Tryd.ntmps3
  go_wp2_with fail
  refine (shown_any w HT.out).mono ?_
  rintro e w1 ⟨rfl, hB1⟩
  have HB1 := Lib.hid hB1
  clear hB1
  go_wp2_with fail
  go_loopw [10, 11, 12] (fun va e i wr => ∃ (k : Nat), k ≤ l.length ∧ i = .int .i64 k ∧ ∃ (L : List Pl) (ep : Int), e = .int .i64 ep ∧ L.length = k ∧ Run 0 1 (L.map toE) ∧ lastE 1 (L.map toE) = ep ∧ 1 ≤ ep ∧ ep ≤ 1 + 2 * k ∧ Own wr w.heap.size 29 7 plc va L ∧ Evs wr L ∧ Below w.heap.size w wr) (fun _ _ i _ => l.length - (intOf i).toNat)
  case atStart => exact ⟨0, Nat.zero_le _, rfl, [], 1, rfl, rfl, trivial, rfl, by decide, by decide, Own.nil_ _ _ _ _ _, (fun p (hp : p ∈ []) => absurd hp List.not_mem_nil), HB1.out⟩
  case round =>
    obtain ⟨k, hk, rfl, L, ep, rfl, hlk, hR, hL, he1, he2, hO, hE, hB⟩ := hrel
    have HB := Lib.hid hB
    have HO := Lib.hid hO
    have HE := Lib.hid hE
    have HR := Lib.hid hR
    have HL := Lib.hid hL
    have HLK := Lib.hid hlk
    clear hB hO hE hR hL hlk
    by_cases hlt : k < l.length
    · obtain ⟨b1, o1, rfl, _, _, hxx⟩ := (HS.out.fresh HB.out).cell_ hlt
      have x0 := hxx 0 _ rfl
      simp only [Nat.add_zero, Nat.mul_one] at x0
      clear hxx
      have hm := mag_bound l[k] 3 (by decide) (by decide)
      obtain ⟨m, hme⟩ : ∃ m, gmax (l[k].tmod 3) (wrap64 (-(l[k].tmod 3))) = m := ⟨_, rfl⟩
      rw [hme] at hm
      obtain ⟨hm1, hm2⟩ := hm
      go_upto_region 9 with (fail)
      go_quiet (fail)
      clear hme
      go_wp2_with fail
      refine (plain_at _ _ _).mono ?_
      rintro x w3 ⟨g, _, hg, rfl, hr, hB3⟩
      have hOw : Own (w3.alloc (.cells #[.int .i64 ((k : Int) + 1), .int .i64 (ep + m), .string ⟨#[115]⟩, .int .i64 0, .int .i64 1, .int .i64 1, .slice (some ⟨g, 0, none⟩) 1 1] 29)) w.heap.size 29 7 plc _ L := ((HO.out.drewN nq).fresh hB3).fresh ((Below.refl _ _).alloc (Nat.le_refl _) _)
      have hone : Sl (w3.alloc (.cells #[.int .i64 ((k : Int) + 1), .int .i64 (ep + m), .string ⟨#[115]⟩, .int .i64 0, .int .i64 1, .int .i64 1, .slice (some ⟨g, 0, none⟩) 1 1] 29)) (fun b => b = w3.heap.size) 7 plc (.slice (some ⟨w3.heap.size, 0, none⟩) 1 1) [⟨g, (k : Int) + 1, ep + m⟩] := Sl.single (heap_alloc_new w3 _) rfl
      have hE3 : Evs (w3.alloc (.cells #[.int .i64 ((k : Int) + 1), .int .i64 (ep + m), .string ⟨#[115]⟩, .int .i64 0, .int .i64 1, .int .i64 1, .slice (some ⟨g, 0, none⟩) 1 1] 29)) (L ++ [⟨g, (k : Int) + 1, ep + m⟩]) := (((show Evs (wr.drewN nq) L from HE.out).fresh hB3).snoc hr _ _).fresh ((Below.refl _ _).alloc (Nat.le_refl _) _)
      have hBw : Below w.heap.size w (w3.alloc (.cells #[.int .i64 ((k : Int) + 1), .int .i64 (ep + m), .string ⟨#[115]⟩, .int .i64 0, .int .i64 1, .int .i64 1, .slice (some ⟨g, 0, none⟩) 1 1] 29)) := ((show Below w.heap.size w (wr.drewN nq) from HB.out.trans ⟨rfl, rfl, rfl, Nat.le_refl _, fun _ _ => rfl⟩).trans (hB3.mono HB.out.size)).alloc (Nat.le_trans HB.out.size hB3.size) _
      have HONE := Lib.hid hone
      have HOW := Lib.hid hOw
      have HE3 := Lib.hid hE3
      have HBW := Lib.hid hBw
      clear hone hOw hE3 hBw hr hB3
      go_wp2_with (at_builtin; refine elPl.append _ (by rfl) _ _ rfl w.heap.size _ _ rfl HOW.out _ _ _ rfl HONE.out (by have := HLK.out; simp; omega) HBW.out.size ?_; intro v' w' hO' hgr hAt)
      go_roundw
      case rel =>
        refine ⟨k + 1, hlt, by go_num, L ++ [⟨g, (k : Int) + 1, ep + m⟩], ep + m, rfl, ?_, ?_, ?_, by omega, by omega, hO', HE3.out.grown HOW.out hgr, Below.keep HBW.out (Keeps.of_grown hgr) HBW.out.size (fun z hz => (HOW.out.lt z hz).1)⟩
        · rw [List.length_append, HLK.out]; rfl
        · have := HR.out.snoc (g := g) (e := ep + m) (by rw [HL.out]; omega)
          rw [List.map_append]
          rw [List.length_map, HLK.out, Int.zero_add] at this
          exact this
        · rw [List.map_append]
          exact lastE_snoc _ _ _
      case measure => simp [intOf]; omega
    · have hkd : k = l.length := by omega
      subst hkd
      obtain ⟨A1, c1, rfl, hc1, hc2⟩ := HO.out.shape_ HLK.out
      unfold maxLen at hc2
      have hmp := mag_bound part ((l.length : Int) + 1) (by omega) (by omega)
      obtain ⟨K, hK⟩ : ∃ K : Nat, gmax (part.tmod ((l.length : Int) + 1)) (wrap64 (-(part.tmod ((l.length : Int) + 1)))) = (K : Int) := ⟨(gmax (part.tmod ((l.length : Int) + 1)) (wrap64 (-(part.tmod ((l.length : Int) + 1))))).toNat, by omega⟩
      rw [hK] at hmp
      have hKl : K ≤ l.length := by omega
      have hz0 : ((l.length : Int) + 1 == 0) = false := by rw [beq_eq_false_iff_ne]; omega
      have hz1 : ¬ ((l.length : Int) + 1 = 0) := by omega
      have hch : ∀ w : World, (Instr.slice 24 (.slice A1 l.length c1) none (some (.int .i64 (K : Int))) none).run Tryd.prog w = .ok (.slice (cutA A1 c1 0 7) K c1) w := fun w => by
        simpa using run_cut_high (P := Tryd.prog) Tryd.underlying24 sizeEntry A1 l.length c1 (K : Int) (by omega) (by omega) w
      clear hmp
      have HSA := Lib.hid (HO.out.sl plc_len)
      have hTK := (HSA.out.take_ (i := K) (by rw [HLK.out]; exact hKl))
      have HTK := Lib.hid hTK
      clear hTK
      go_wp2_with fail
      go_quiet (fail)
      have hOm : Own ((wr.drewN nq).alloc (.cells #[] 29)) wr.heap.size 29 7 plc (.slice (some ⟨wr.heap.size, 0, none⟩) 0 0) [] := Own.made (wr.drewN nq) (Nat.le_refl _) 29 7 plc
      have hTm : Sl ((wr.drewN nq).alloc (.cells #[] 29)) _ 7 plc _ (L.take K) := (HTK.out.drewN nq).fresh ((Below.refl _ _).alloc (Nat.le_refl _) _)
      have HOm := Lib.hid hOm
      have HTm := Lib.hid hTm
      clear hOm hTm
      go_wp2_with (at_builtin; refine elPl.append _ (by rfl) _ _ rfl wr.heap.size _ [] rfl HOm.out _ _ (L.take K) rfl HTm.out (by have := HLK.out; simp; omega) (by simp) ?_; intro v' w' hO' hgr hAt)
      have hOv : Own w' wr.heap.size 29 7 plc v' (L.take K) := hO'
      have hBv : Below wr.heap.size wr w' := Below.keep ((show Below wr.heap.size wr (wr.drewN nq) from ⟨rfl, rfl, rfl, Nat.le_refl _, fun _ _ => rfl⟩).alloc (Nat.le_refl _) _) (Keeps.of_grown hgr) (by simp) (fun z hz => (HOm.out.lt z hz).1)
      have HOv := Lib.hid hOv
      have HBv := Lib.hid hBv
      clear hO' hgr hAt hOv hBv hK hz0 hz1 hch
      have hmm := mag_bound more 9 (by decide) (by decide)
      obtain ⟨M, hM⟩ : ∃ M : Nat, gmax (more.tmod 9) (wrap64 (-(more.tmod 9))) = (M : Int) := ⟨(gmax (more.tmod 9) (wrap64 (-(more.tmod 9)))).toNat, by omega⟩
      rw [hM] at hmm
      have hM9 : M < 9 := by omega
      clear hmm
      have hmc := mag_bound by_ 5 (by decide) (by decide)
      obtain ⟨cc, hcc⟩ : ∃ cc, gmax (by_.tmod 5) (wrap64 (-(by_.tmod 5))) = cc := ⟨_, rfl⟩
      rw [hcc] at hmc
      obtain ⟨hc5, hc6⟩ := hmc
      have hlL : l.length ≤ 40 := by omega
      obtain ⟨wA, rfl⟩ : ∃ x, x = wr := ⟨_, rfl⟩
      go_loopw [14, 15] (fun vb i wz => ∃ j : Nat, j ≤ M ∧ i = .int .i64 j ∧ ∃ Lb : List Pl, Own wz wA.heap.size 29 7 plc vb Lb ∧ Evs wz Lb ∧ Lb.length = K + j ∧ Lb.take K = L.take K ∧ Run 0 1 (Lb.map toE) ∧ lastE 1 (Lb.map toE) ≤ ep + 1 + cc ∧ (∀ i (h : i < Lb.length), K ≤ i → Lb[i].epoch = ep + 1 + cc) ∧ Below wA.heap.size wA wz) (fun _ i _ => M - (intOf i).toNat)
      case atStart =>
        have hl1 : (L.take K).length = K := by rw [List.length_take, HLK.out]; omega
        refine ⟨0, Nat.zero_le _, rfl, L.take K, HOv.out, ?_, hl1, by rw [List.take_take, Nat.min_self], ?_, ?_, ?_, HBv.out⟩
        · have := HE.out.fresh HBv.out
          exact fun p hp => this p (List.mem_of_mem_take hp)
        · rw [List.map_take]
          exact HR.out.take K
        · rw [List.map_take]
          have := HR.out.last_take K
          rw [HL.out] at this
          omega
        · intro i hi hKi
          omega
      case round =>
        obtain ⟨j, hj, rfl, Lb, hO, hE, hlb, htk, hRb, hLb, hex, hB⟩ := hrel
        have HOb := Lib.hid hO
        have HEb := Lib.hid hE
        have HLb := Lib.hid hlb
        have HTk := Lib.hid htk
        have HRb := Lib.hid hRb
        have HLe := Lib.hid hLb
        have HEx := Lib.hid hex
        have HB2 := Lib.hid hB
        clear hO hE hlb htk hRb hLb hex hB
        by_cases hjM : j < M
        · go_wp2_with fail
          refine (plain_at _ _ _).mono ?_
          rintro x w3 ⟨g, _, hg, rfl, hr, hB3⟩
          have hOw : Own (w3.alloc (.cells #[.int .i64 ((K : Int) + j + 1), .int .i64 (ep + 1 + cc), .string ⟨#[115]⟩, .int .i64 0, .int .i64 1, .int .i64 1, .slice (some ⟨g, 0, none⟩) 1 1] 29)) wA.heap.size 29 7 plc _ Lb := (HOb.out.fresh hB3).fresh ((Below.refl _ _).alloc (Nat.le_refl _) _)
          have hone : Sl (w3.alloc (.cells #[.int .i64 ((K : Int) + j + 1), .int .i64 (ep + 1 + cc), .string ⟨#[115]⟩, .int .i64 0, .int .i64 1, .int .i64 1, .slice (some ⟨g, 0, none⟩) 1 1] 29)) (fun b => b = w3.heap.size) 7 plc (.slice (some ⟨w3.heap.size, 0, none⟩) 1 1) [⟨g, (K : Int) + j + 1, ep + 1 + cc⟩] := Sl.single (heap_alloc_new w3 _) rfl
          have hE3 : Evs (w3.alloc (.cells #[.int .i64 ((K : Int) + j + 1), .int .i64 (ep + 1 + cc), .string ⟨#[115]⟩, .int .i64 0, .int .i64 1, .int .i64 1, .slice (some ⟨g, 0, none⟩) 1 1] 29)) (Lb ++ [⟨g, (K : Int) + j + 1, ep + 1 + cc⟩]) := ((HEb.out.fresh hB3).snoc hr _ _).fresh ((Below.refl _ _).alloc (Nat.le_refl _) _)
          have hBw : Below wA.heap.size wA (w3.alloc (.cells #[.int .i64 ((K : Int) + j + 1), .int .i64 (ep + 1 + cc), .string ⟨#[115]⟩, .int .i64 0, .int .i64 1, .int .i64 1, .slice (some ⟨g, 0, none⟩) 1 1] 29)) := (HB2.out.trans (hB3.mono HB2.out.size)).alloc (Nat.le_trans HB2.out.size hB3.size) _
          have HONE := Lib.hid hone
          have HOW := Lib.hid hOw
          have HE3 := Lib.hid hE3
          have HBW := Lib.hid hBw
          clear hone hOw hE3 hBw hr hB3
          go_wp2_with (at_builtin; refine elPl.append _ (by rfl) _ _ rfl wA.heap.size _ _ rfl HOW.out _ _ _ rfl HONE.out (by have := HLb.out; simp; omega) HBW.out.size ?_; intro v' w' hO' hgr hAt)
          have hlb := HLb.out
          go_roundw
          case rel =>
            refine ⟨j + 1, hjM, by go_num, Lb ++ [⟨g, (K : Int) + j + 1, ep + 1 + cc⟩], hO', HE3.out.grown HOW.out hgr, by rw [List.length_append, hlb]; simp; omega, ?_, ?_, ?_, ?_, Below.keep HBW.out (Keeps.of_grown hgr) HBW.out.size (fun z hz => (HOW.out.lt z hz).1)⟩
            · rw [List.take_append_of_le_length (by omega)]
              exact HTk.out
            · have := HRb.out.snoc (g := g) (e := ep + 1 + cc) HLe.out
              rw [List.map_append]
              rw [List.length_map, hlb, Int.zero_add, Int.natCast_add] at this
              exact this
            · rw [List.map_append]
              exact Int.le_of_eq (lastE_snoc _ _ _)
            · intro i hi hKi
              by_cases h1 : i < Lb.length
              · rw [List.getElem_append_left h1]
                exact HEx.out i h1 hKi
              · have hi2 : i = Lb.length := by simp at hi; omega
                subst hi2
                simp
          case measure => simp [intOf]; omega
        · have hjd : j = M := by omega
          subst hjd
          obtain ⟨A2, c2, rfl, _, _⟩ := HOb.out.shape_ HLb.out
          have hla : (L.map toE).length = l.length := by rw [List.length_map, HLK.out]
          have hlbl : (Lb.map toE).length = K + j := by rw [List.length_map, HLb.out]
          have hfl := forks_law (la := L.map toE) (lb := Lb.map toE) (K := K) (d := ep + 1 + cc) HR.out HRb.out (by rw [hla]; exact hKl) (by rw [hlbl]; omega) (by rw [← List.map_take, ← List.map_take, HTk.out]) (by rw [HL.out]; omega) (fun i hi hKi => by
            have hi' : i < Lb.length := by simpa using hi
            rw [List.getElem_map]
            exact HEx.out i hi' hKi)
          obtain ⟨hf1, hf2, hf3⟩ := hfl
          rw [hla] at hf1 hf2 hf3
          rw [hlbl, Int.natCast_add] at hf1 hf2
          have hma := marksN_len (peOf (L.map toE)) l.length
          have hmb := marksN_len (peOf (Lb.map toE)) (K + j)
          obtain ⟨ma, hmae⟩ : ∃ m, marksN (peOf (L.map toE)) l.length = m := ⟨_, rfl⟩
          obtain ⟨mb, hmbe⟩ : ∃ m, marksN (peOf (Lb.map toE)) (K + j) = m := ⟨_, rfl⟩
          rw [hmae] at hf1 hf2 hf3 hma
          rw [hmbe] at hf1 hf2 hmb
          have hEa := fun (wz : World) (hz : Below wr.heap.size wr wz) => (ents_of (HO.out.fresh HB2.out) (HE.out.fresh HB2.out)).fresh hz
          have hEb := fun (wz : World) (hz : Below wr.heap.size wr wz) => (ents_of HOb.out HEb.out).fresh hz
          have hTz := fun (wz : World) (hz : Below wr.heap.size wr wz) => ((HT.out.fresh HB.out).below HB2.out (Nat.le_trans HT.out.lt HB.out.size)).fresh hz
          have hFa := fun (wz : World) (hz : Below wr.heap.size wr wz) => follows_any wz (hTz wz hz) _ _ _ (hEa wz hz) (by rw [hla]; omega) 0 0
          rw [HR.out.follows0 (by rw [hla]; omega) (by rw [HL.out]; omega)] at hFa
          have hFb := fun (wz : World) (hz : Below wr.heap.size wr wz) => follows_any wz (hTz wz hz) _ _ _ (hEb wz hz) (by rw [hlbl]; omega) 0 0
          rw [HRb.out.follows0 (by rw [hlbl]; omega) (by have := HLe.out; omega)] at hFb
          have hMa := fun (wz : World) (hz : Below wr.heap.size wr wz) => marks_any wz _ (fun k hk => Nat.lt_of_lt_of_le hk hz.size) _ _ (hEa wz hz) (by rw [hla]; omega)
          have hMb := fun (wz : World) (hz : Below wr.heap.size wr wz) => marks_any wz _ (fun k hk => Nat.lt_of_lt_of_le hk hz.size) _ _ (hEb wz hz) (by rw [hlbl]; omega)
          rw [hla, hmae] at hMa
          rw [hlbl, hmbe] at hMb
          have HFa := Lib.hid hFa
          have HFb := Lib.hid hFb
          have HMa := Lib.hid hMa
          have HMb := Lib.hid hMb
          have HF1 := Lib.hid hf1
          have HF2 := Lib.hid hf2
          have HF3 := Lib.hid hf3
          have HLA := Lib.hid hma
          have HLB := Lib.hid hmb
          clear hFa hFb hMa hMb hf1 hf2 hf3 hma hmb hEa hEb hTz hmae hmbe hla hlbl
          have HZ0 := Lib.hid (Below.refl wr.heap.size wr)
          go_wp2_with fail
          refine (HFa.out _ HZ0.out).mono ?_
          rintro x z1 ⟨rfl, hZ⟩
          have HZ1 := Lib.hid (HZ0.out.trans (hZ.mono HZ0.out.size))
          clear hZ
          go_wp2_with fail
          refine (HFb.out _ HZ1.out).mono ?_
          rintro x z2 ⟨rfl, hZ⟩
          have HZ2 := Lib.hid (HZ1.out.trans (hZ.mono HZ1.out.size))
          clear hZ
          go_wp2_with fail
          refine (HMa.out _ HZ2.out).mono ?_
          rintro x z3 ⟨va1, rfl, hO3, hZ⟩
          have Hva1 := Lib.hid ((hO3.sl mkc_len).mono (F' := fun _ => True) (fun _ _ _ => trivial))
          have HZ3 := Lib.hid (HZ2.out.trans (hZ.mono HZ2.out.size))
          have HP3 := Lib.hid hZ
          clear hZ hO3
          go_wp2_with fail
          refine (HMb.out _ HZ3.out).mono ?_
          rintro x z4 ⟨vb1, rfl, hO4, hZ⟩
          have Hvb1 := Lib.hid ((hO4.sl mkc_len).mono (F' := fun _ => True) (fun _ _ _ => trivial))
          have HZ4 := Lib.hid (HZ3.out.trans (hZ.mono HZ3.out.size))
          have HP4 := Lib.hid hZ
          clear hZ hO4
          go_wp2_with fail
          refine (fork_any _ _ _ _ _ (Hva1.out.fresh HP4.out) Hvb1.out (by have := HLA.out; omega) (by have := HLB.out; omega) _ _ (by omega)).mono ?_
          rintro x z5 ⟨rfl, hZ⟩
          rw [HF1.out]
          have HZ5 := Lib.hid (HZ4.out.trans (hZ.mono HZ4.out.size))
          clear hZ
          go_wp2_with fail
          refine (HMb.out _ HZ5.out).mono ?_
          rintro x z6 ⟨vb2, rfl, hO6, hZ⟩
          have Hvb2 := Lib.hid ((hO6.sl mkc_len).mono (F' := fun _ => True) (fun _ _ _ => trivial))
          have HZ6 := Lib.hid (HZ5.out.trans (hZ.mono HZ5.out.size))
          have HP6 := Lib.hid hZ
          clear hZ hO6
          go_wp2_with fail
          refine (HMa.out _ HZ6.out).mono ?_
          rintro x z7 ⟨va2, rfl, hO7, hZ⟩
          have Hva2 := Lib.hid ((hO7.sl mkc_len).mono (F' := fun _ => True) (fun _ _ _ => trivial))
          have HZ7 := Lib.hid (HZ6.out.trans (hZ.mono HZ6.out.size))
          have HP7 := Lib.hid hZ
          clear hZ hO7
          go_wp2_with fail
          refine (fork_any _ _ _ _ _ (Hvb2.out.fresh HP7.out) Hva2.out (by have := HLB.out; omega) (by have := HLA.out; omega) _ _ (by omega)).mono ?_
          rintro x z8 ⟨rfl, hZ⟩
          rw [HF2.out]
          have HZ8 := Lib.hid (HZ7.out.trans (hZ.mono HZ7.out.size))
          clear hZ
          go_wp2_with fail
          refine (HMa.out _ HZ8.out).mono ?_
          rintro x z9 ⟨va3, rfl, hO9, hZ⟩
          have Hva3 := Lib.hid ((hO9.sl mkc_len).mono (F' := fun _ => True) (fun _ _ _ => trivial))
          have HZ9 := Lib.hid (HZ8.out.trans (hZ.mono HZ8.out.size))
          have HP9 := Lib.hid hZ
          clear hZ hO9
          go_wp2_with fail
          refine (HMa.out _ HZ9.out).mono ?_
          rintro x z10 ⟨va4, rfl, hO10, hZ⟩
          have Hva4 := Lib.hid ((hO10.sl mkc_len).mono (F' := fun _ => True) (fun _ _ _ => trivial))
          have HZ10 := Lib.hid (HZ9.out.trans (hZ.mono HZ9.out.size))
          have HP10 := Lib.hid hZ
          clear hZ hO10
          go_wp2_with fail
          refine (fork_any _ _ _ _ _ (Hva3.out.fresh HP10.out) Hva4.out (by have := HLA.out; omega) (by have := HLA.out; omega) _ _ (by omega)).mono ?_
          rintro x z11 ⟨rfl, hZ⟩
          rw [HF3.out]
          have HZ11 := Lib.hid (HZ10.out.trans (hZ.mono HZ10.out.size))
          clear hZ
          go_wp2_with fail
          go_ret
          exact ⟨rfl, (HB.out.trans (HB2.out.mono HB.out.size)).trans (HZ11.out.mono (Nat.le_trans HB.out.size HB2.out.size))⟩
end Go.Proofs.YtimfoijajafdpaaDoor
