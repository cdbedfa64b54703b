/- IndexPlaces: what the statement's function does: it answers true. -/
import Derived.Test.YtkckiijnooncdaaIdxU
namespace Go.Proofs.Ytkckiijnooncdaa
open Go.RowKit Go.Bl

theorem addAll_stream {l : List Ac} (h : l.all acOk = true) : ∀ o ∈ addAll l, o.stream.size ≤ 300 := by
  intro o ho
  obtain ⟨a, ha, ho⟩ := List.mem_flatMap.1 ho
  obtain ⟨e, _, rfl⟩ := List.mem_map.1 ho
  rw [List.all_eq_true] at h
  have := h a ha
  simp only [acOk, Bool.and_eq_true, decide_eq_true_eq] at this
  exact this.1.1
theorem ofS_size {L : List One} (h : ∀ o ∈ L, o.stream.size ≤ 300) {s : ByteArray} (hs : ofS L s ≠ []) : s.size ≤ 300 := by
  unfold ofS at hs
  rw [ne_eq, List.map_eq_nil_iff, List.filter_eq_nil_iff] at hs
  apply Decidable.byContradiction
  intro hc
  apply hs
  intro o ho he
  simp only [decide_eq_true_eq] at he
  exact hc (he ▸ h o ho)
def sumS (L : List One) (ks : List ByteArray) : Nat := (ks.map fun s => (ofS L s).length).sum
theorem sumS_snoc (L : List One) (ks : List ByteArray) (s : ByteArray) : sumS L (ks ++ [s]) = sumS L ks + (ofS L s).length := by
  simp only [sumS, List.map_append, List.map_cons, List.map_nil, List.sum_append, List.sum_cons, List.sum_nil]
  omega
theorem sumS_take (L : List One) (ks : List ByteArray) {j : Nat} (hj : j < ks.length) : sumS L (ks.take (j + 1)) = sumS L (ks.take j) + (ofS L ks[j]).length := by
  rw [List.take_succ_eq_append_getElem hj, sumS_snoc]
theorem sumS_le (L : List One) (ks : List ByteArray) (j : Nat) : sumS L (ks.take j) ≤ sumS L ks := by
  have : sumS L ks = sumS L (ks.take j) + sumS L (ks.drop j) := by
    conv => lhs; rw [← List.take_append_drop j ks]
    simp only [sumS, List.map_append, List.sum_append]
  omega
theorem ofS_nil (s : ByteArray) : ofS [] s = [] := rfl
theorem ofS_cons (o : One) (L : List One) (s : ByteArray) : (ofS (o :: L) s).length = (if o.stream = s then 1 else 0) + (ofS L s).length := by
  by_cases h : o.stream = s <;> simp [ofS, h]
  omega
theorem sumS_cons_not (o : One) (L : List One) : ∀ ks : List ByteArray, (∀ s ∈ ks, o.stream ≠ s) → sumS (o :: L) ks = sumS L ks
  | [], _ => rfl
  | s :: ks, h => by
    have ih := sumS_cons_not o L ks (fun t ht => h t (List.mem_cons_of_mem _ ht))
    simp only [sumS, List.map_cons, List.sum_cons] at ih ⊢
    rw [ih, ofS_cons, if_neg (h s (by simp)), Nat.zero_add]
theorem sumS_cons (o : One) (L : List One) : ∀ ks : List ByteArray, ks.Nodup → o.stream ∈ ks → sumS (o :: L) ks = 1 + sumS L ks
  | [], _, h => by cases h
  | s :: ks, hn, h => by
    rw [List.nodup_cons] at hn
    by_cases e : o.stream = s
    · have h1 := sumS_cons_not o L ks (fun t ht he => hn.1 (by rw [← e, he]; exact ht))
      simp only [sumS, List.map_cons, List.sum_cons] at h1 ⊢
      rw [h1, ofS_cons, if_pos e]
      omega
    · have h2 : o.stream ∈ ks := by
        cases h with
        | head => exact absurd rfl e
        | tail _ h => exact h
      have ih := sumS_cons o L ks hn.2 h2
      simp only [sumS, List.map_cons, List.sum_cons] at ih ⊢
      rw [ih, ofS_cons, if_neg e]
      omega
theorem sumS_nil : ∀ ks : List ByteArray, sumS [] ks = 0
  | [] => rfl
  | s :: ks => by
    have ih := sumS_nil ks
    simp only [sumS, List.map_cons, List.sum_cons, ofS_nil, List.length_nil] at ih ⊢
    omega
theorem sumS_all (ks : List ByteArray) (hn : ks.Nodup) : ∀ L : List One, (∀ o ∈ L, o.stream ∈ ks) → sumS L ks = L.length
  | [], _ => sumS_nil ks
  | o :: L, h => by
    rw [sumS_cons o L ks hn (h o (by simp)), sumS_all ks hn L (fun x hx => h x (List.mem_cons_of_mem _ hx)), List.length_cons]
    omega
theorem streams_sum {L : List One} {ks : List ByteArray} (h : Streams L ks) : sumS L ks = L.length := by
  refine sumS_all ks (h.1.imp fun {a b} hab e => by subst e; exact bLt_irrefl _ hab) L fun o ho => ?_
  rw [h.2]
  intro hc
  unfold ofS at hc
  rw [List.map_eq_nil_iff, List.filter_eq_nil_iff] at hc
  exact hc o ho (by simp)
theorem ofS_added (L : List One) (es : List Ev) (s : ByteArray) (p : Int) : ofS (L ++ es.map (mkOne s p)) s = ofS L s ++ es.map (fun e => (⟨p, e⟩ : Kp)) := by
  rw [ofS_append, ofS_mk, if_pos rfl, List.map_map]
  rfl
/-- The event that was added as the k-th. -/
theorem range_added (L : List One) (es : List Ev) (s : ByteArray) (p : Int) {k : Nat} (h1 : 1 ≤ k) (h2 : k - 1 < es.length) :
    (((ofS (L ++ es.map (mkOne s p)) s).drop (max (((ofS L s).length : Int) + (k : Int)) 1 - 1).toNat).take (1 : Int).toNat).map Kp.e = [es[k - 1]] := by
  rw [ofS_added, show (max (((ofS L s).length : Int) + (k : Int)) 1 - 1).toNat = (ofS L s).length + (k - 1) by omega, List.drop_append, List.drop_of_length_le (by omega), List.nil_append, Nat.add_sub_cancel_left,
    show (1 : Int).toNat = 1 from rfl, List.drop_eq_getElem_cons (by rw [List.length_map]; exact h2), List.take_succ_cons, List.take_zero]
  simp
theorem posOf_added (L : List One) (es : List Ev) (s : ByteArray) (p : Int) {k : Nat} (h1 : 1 ≤ k) (h2 : k - 1 < es.length) :
    posOf (ofS (L ++ es.map (mkOne s p)) s) (((ofS L s).length : Int) + (k : Int)) = p := by
  rw [ofS_added]
  unfold posOf
  rw [if_neg (by simp only [List.length_append, List.length_map]; omega), show (((ofS L s).length : Int) + (k : Int) - 1).toNat = (ofS L s).length + (k - 1) by omega, List.getElem?_append_right (by omega),
    Nat.add_sub_cancel_left, List.getElem?_map, List.getElem?_eq_getElem h2]
  rfl

theorem wrap_small {n : Int} (h0 : 0 ≤ n) (h1 : n < 9223372036854775808) : wrap64 n = n := by unfold wrap64; omega
def PlacesRel (w w1 : World) (l : List Ac) (i : Value) (wr : World) : Prop :=
  ∃ k : Nat, k ≤ l.length ∧ i = .int .i64 k ∧ IdxAt wr (w1.heap.size + 1) (addAll (l.take k)) (fun q => w1.heap.size ≤ q ∧ q < wr.heap.size) ∧ Below w.heap.size w wr

set_option maxRecDepth 4000 in
set_option maxHeartbeats 2000000 in
theorem places_any (w : World) (G : Nat → Prop) (v : Value) (l : List Ac) (h : Acts w G v l) (hG : ∀ k, G k → k < w.heap.size) :
    Calls Try.prog 5 #[v] w fun e w' => e = .returned (.bool true) ∧ Below w.heap.size w w' := by
  have hne := neqEv
  obtain ⟨A, c, rfl, hA1, hA2⟩ := h.1.shape
  unfold maxLen at hA2
  have HA := Lib.hid h
  clear h
  go_enter Try.func5, Try.ntmps5
  go_wp2_with fail
  refine (shown_any w).mono ?_
  rintro e w1 ⟨rfl, hB1⟩
  have HB1 := Lib.hid hB1
  have HA1 := Lib.hid (HA.out.keep (Keeps.of_fresh hB1 (fun k => w.heap.size ≤ k)) (fun k hk _ hx => by omega))
  clear hB1
  go_wp2_with fail
  refine (small_any w1 G _ l HA1.out).mono ?_
  rintro e w2 ⟨rfl, q, rfl⟩
  go_wp2_with fail
  refine (new_any (w1.drewN q)).mono ?_
  rintro e w2 ⟨rfl, hI2, hB2⟩
  have HI2 := Lib.hid hI2
  have HB2 := Lib.hid (HB1.out.trans (Below.mono ((⟨rfl, rfl, rfl, Nat.le_refl _, fun _ _ => rfl⟩ : Below (w1.drewN q).heap.size w1 (w1.drewN q)).trans hB2) HB1.out.size))
  clear hI2 hB2
  cases hsm : smallB l
  · go_wp2_with fail
    go_ret
    exact ⟨rfl, HB2.out⟩
  · have HSM := Lib.hid hsm
    go_wp2_with fail
    have h60 : l.length ≤ 60 ∧ l.all acOk = true := by simpa [smallB] using HSM.out
    have H60 := Lib.hid h60
    clear h60
    have hw1 : w.heap.size ≤ w1.heap.size := HB1.out.size
    go_loopw [6] (fun i wr => PlacesRel w w1 l i wr) (fun i _ => l.length - (intOf i).toNat)
    case atStart => exact ⟨0, Nat.zero_le _, rfl, HI2.out, HB2.out⟩
    case round =>
      obtain ⟨k, hk, rfl, hI, hB⟩ := hrel
      have HI := Lib.hid hI
      have HB := Lib.hid hB
      clear hI hB
      by_cases hlt : k < l.length
      · have hAr := HA.out.keep (Keeps.of_below HB.out) (fun k hk _ hx => by omega)
        have HAr := Lib.hid hAr
        obtain ⟨b, o, rfl, hGb, hbl, hxx⟩ := hAr.1.cell_ hlt
        obtain ⟨hev, hst, _⟩ := hAr.2 l[k] (List.getElem_mem hlt)
        obtain ⟨B, d, hevv, hB1, hB2⟩ := hev.shape
        have x0 := hxx 0 _ rfl
        have x3 := hxx 3 _ rfl
        have x4 := hxx 4 _ rfl
        rw [hevv] at x4 hev
        have HV := Lib.hid hev
        simp only [Nat.add_zero] at x0
        clear hxx hev hevv hAr
        go_wp2_with fail
        go_still_tail 16, (by kernel_rfl)
        change wpList _ _ _ _ _ wr.drew
        go_wp2_with fail
        have HL : Hid ((addAll (l.take k)).length ≤ 1200 ∧ l[k].evs.length ≤ 20 ∧ l[k].stream.size ≤ 300) := Lib.hid (by
          obtain ⟨q1, q2⟩ := H60.out
          have q3 := addAll_le (l.take k) (by rw [List.all_eq_true] at q2 ⊢; exact fun a ha => q2 a (List.mem_of_mem_take ha))
          have q4 : acOk l[k] = true := by rw [List.all_eq_true] at q2; exact q2 _ (List.getElem_mem hlt)
          simp only [acOk, Bool.and_eq_true, decide_eq_true_eq] at q4
          rw [List.length_take] at q3
          exact ⟨by omega, q4.1.2, q4.1.1⟩)
        refine (add_any wr.drew (w1.heap.size + 1) (addAll (l.take k)) (fun q => w1.heap.size ≤ q ∧ q < wr.heap.size) G HI.out.drew l[k].pos l[k].stream _ l[k].evs HV.out (fun q hq hx => by have := hG q hq; omega) (by unfold maxLen; omega) (by have := HL.out; omega)).mono ?_
        rintro e w3 ⟨rfl, hK3, hI3⟩
        have hB3 : Below w.heap.size w w3 := Below.keep HB.out.drew hK3 HB.out.size (fun q hq => by omega)
        have hs3 := hK3.size
        have hs2 := HB.out.size
        rw [heap_drew] at hs3
        simp only [heap_drew] at hI3
        have hlow : w1.heap.size ≤ wr.heap.size := by have := HI.out.lt (w1.heap.size + 1) HI.out.fp; omega
        have hI3' := hI3.mono (F' := fun q => w1.heap.size ≤ q ∧ q < w3.heap.size) (fun q hq => by rcases hq with hq | hq <;> omega) (fun q hq => hq.2)
        have hbl1 : b < w.heap.size := hG b hGb
        have hb1 : ¬ (w1.heap.size ≤ b ∧ b < wr.heap.size) := by omega
        have y0 := (hK3.cell (a := ⟨b, o + k * 5, none⟩) hbl hb1).trans x0
        have y3 := (hK3.cell (a := ⟨b, o + k * 5 + 3, none⟩) hbl hb1).trans x3
        have y4 := (hK3.cell (a := ⟨b, o + k * 5 + 4, none⟩) hbl hb1).trans x4
        have HV3 := Lib.hid ((HV.out.drewN 1).keep hK3 (fun q _ hq hx => by have := hG q hq; omega))
        have HB3 := Lib.hid hB3
        have HI3 := Lib.hid hI3'
        clear hI3 hI3' hB3 hK3 x0 x3 x4 HV
        have ht : addAll (l.take (k + 1)) = addAll (l.take k) ++ l[k].evs.map (mkOne l[k].stream l[k].pos) := by rw [List.take_succ_eq_append_getElem hlt, addAll_snoc]
        have HT := Lib.hid ht
        clear ht
        obtain ⟨L, hLe⟩ : ∃ L, addAll (l.take k) = L := ⟨_, rfl⟩
        rw [hLe] at HI3 HT HL ⊢
        clear hLe
        have hver : ofS (L ++ l[k].evs.map (mkOne l[k].stream l[k].pos)) l[k].stream = ofS L l[k].stream ++ l[k].evs.map (fun e => (⟨l[k].pos, e⟩ : Kp)) := ofS_added _ _ _ _
        obtain ⟨N, hN⟩ : ∃ N, (ofS L l[k].stream).length = N := ⟨_, rfl⟩
        have hNl : N ≤ 1200 := by have := ofS_le L l[k].stream; have := HL.out; omega
        have hve2 : (ofS (L ++ l[k].evs.map (mkOne l[k].stream l[k].pos)) l[k].stream).length = N + l[k].evs.length := by rw [hver, List.length_append, List.length_map, hN]
        have HVE := Lib.hid hve2
        have HN := Lib.hid hN
        rw [hN]
        clear hve2 hver hN
        have t1 : ((N : Int) + (l[k].evs.length : Int) != wrap64 ((N : Int) + (l[k].evs.length : Int))) = false := by rw [wrap_small (by omega) (by have := HL.out; omega)]; simp
        go_wp2_with fail
        have hI3 := HI3.out
        have hvc : ∀ n : Nat, Calls Try.prog 11 #[.pointer (some ⟨w1.heap.size + 1, 0, none⟩), .string l[k].stream] (w3.drewN n) fun e w' => e = .returned (.int .i64 ((N : Int) + (l[k].evs.length : Int))) ∧ w' = w3.drewN n := fun n =>
          (version_any (w3.drewN n) _ _ _ (hI3.drewN n) l[k].stream (by have := HL.out; unfold maxLen; omega)).mono fun _ _ h => ⟨by rw [h.1, HVE.out, Int.natCast_add], h.2.symm⟩
        have HVC := Lib.hid hvc
        have HJ3 := Lib.hid hI3
        clear hvc hI3
        go_quiet (refine Calls.quiet_of_same (HVC.out _))
        go_wp2_with fail
        have hLL : (L ++ l[k].evs.map (mkOne l[k].stream l[k].pos)).length ≤ 1220 := by rw [List.length_append, List.length_map]; have := HL.out; omega
        have HLL := Lib.hid hLL
        clear hLL t1
        have hn3 : ∀ n : Nat, (w3.drewN n).heap.size = w3.heap.size := fun _ => rfl
        have Hn3 := Lib.hid hn3
        clear hn3
        go_loopw [8] (fun j ws => ∃ m : Nat, 1 ≤ m ∧ m ≤ l[k].evs.length + 1 ∧ j = .int .i64 m ∧ Below w3.heap.size w3 ws) (fun j _ => l[k].evs.length + 1 - (intOf j).toNat)
        case atStart => exact ⟨1, by omega, by omega, rfl, ⟨rfl, rfl, rfl, Nat.le_refl _, fun _ _ => rfl⟩⟩
        case round =>
          obtain ⟨m, hm1, hm2, rfl, hBs⟩ := hrel
          have z3 := (hBs.cell (p := ⟨b, o + k * 5 + 3, none⟩) (Nat.lt_of_lt_of_le hbl hs3)).trans y3
          have z4 := (hBs.cell (p := ⟨b, o + k * 5 + 4, none⟩) (Nat.lt_of_lt_of_le hbl hs3)).trans y4
          have z0 := (hBs.cell (p := ⟨b, o + k * 5, none⟩) (Nat.lt_of_lt_of_le hbl hs3)).trans y0
          have HBs := Lib.hid hBs
          have HIs := Lib.hid (HJ3.out.fresh hBs)
          have HVs := Lib.hid (HV3.out.fresh hBs)
          clear hBs
          by_cases hml : m ≤ l[k].evs.length
          · have hm3 : m - 1 < l[k].evs.length := by omega
            have hm20 : m ≤ 20 := by have := HL.out; omega
            have hr := range_added L l[k].evs l[k].stream l[k].pos hm1 hm3
            have hp := posOf_added L l[k].evs l[k].stream l[k].pos hm1 hm3
            rw [HN.out] at hr hp
            have HR := Lib.hid hr
            have HP := Lib.hid hp
            clear hr hp
            have tw : wrap64 ((N : Int) + (m : Int)) = (N : Int) + (m : Int) := wrap_small (by omega) (by have := HL.out; omega)
            go_wp2_with fail
            refine (range_any wr _ _ _ HIs.out l[k].stream (by have := HL.out; unfold maxLen; omega) ((N : Int) + (m : Int)) 1 (by have := HLL.out; omega)).mono ?_
            rintro e w5 ⟨v5, rfl, hB5, hS5⟩
            rw [HR.out] at hS5
            obtain ⟨A5, c5, rfl, _, _⟩ := hS5.shape_ (n := 1) rfl
            obtain ⟨b6, o6, rfl, _, hb6l, hx6⟩ := hS5.cell_ (i := 0) (by show 0 < 1; omega)
            have g0 := hx6 0 _ rfl
            have g1 := hx6 1 _ rfl
            rw [Nat.zero_mul, Nat.add_zero] at g0 g1
            change w5.cell? ⟨b6, o6, none⟩ = some (.string l[k].evs[m - 1].kind) at g0
            change w5.cell? ⟨b6, o6 + 1, none⟩ = some (.string l[k].evs[m - 1].data) at g1
            obtain ⟨b7, o7, rfl, hG7, hb7l, hx7⟩ := HVs.out.cell_ hm3
            have g2 := (hB5.cell (p := ⟨b7, o7 + (m - 1) * 2, none⟩) hb7l).trans (hx7 0 _ rfl)
            have g3 := (hB5.cell (p := ⟨b7, o7 + (m - 1) * 2 + 1, none⟩) hb7l).trans (hx7 1 _ rfl)
            have hb5 : b < wr.heap.size := Nat.lt_of_lt_of_le hbl (Nat.le_trans hs3 HBs.out.size)
            have z3' := (hB5.cell (p := ⟨b, o + k * 5 + 3, none⟩) hb5).trans z3
            have z4' := (hB5.cell (p := ⟨b, o + k * 5 + 4, none⟩) hb5).trans z4
            have z0' := (hB5.cell (p := ⟨b, o + k * 5, none⟩) hb5).trans z0
            have tw2 : wrap64 ((m : Int) - 1) = ((m - 1 : Nat) : Int) := by rw [wrap_small (by omega) (by have := HL.out; omega)]; omega
            have hpc : ∀ n : Nat, Calls Try.prog 14 #[.pointer (some ⟨w1.heap.size + 1, 0, none⟩), .string l[k].stream, .int .i64 ((N : Int) + (m : Int))] (w5.drewN n) fun e w' => e = .returned (.int .i64 l[k].pos) ∧ w' = w5.drewN n := fun n =>
              (pos_any (w5.drewN n) _ _ _ ((HIs.out.fresh hB5).drewN n) l[k].stream (by have := HL.out; unfold maxLen; omega) _ (by have := HLL.out; omega)).mono fun _ _ h => ⟨by rw [h.1, HP.out], h.2.symm⟩
            have HPC := Lib.hid hpc
            have HB5 := Lib.hid hB5
            have hcmp : evNe l[k].evs[m - 1].kind l[k].evs[m - 1].data l[k].evs[m - 1].kind l[k].evs[m - 1].data = false := evNe_false rfl
            clear hpc hB5 hx6 hx7 hS5 z0 z3 z4
            have hpn : (l[k].pos != l[k].pos) = false := by simp
            have h63 : (m - 1 : Nat) < 9223372036854775807 := by have := HL.out; omega
            go_wp2_with fail
            go_quiet (refine Calls.quiet_of_same (HPC.out _))
            go_wp2_with fail
            go_roundw
            case rel => exact ⟨m + 1, by omega, by omega, by go_num, HBs.out.trans (Below.trans (HB5.out.mono HBs.out.size) ⟨rfl, rfl, rfl, Nat.le_refl _, fun _ _ => rfl⟩)⟩
            case measure => simp [intOf]; omega
          · have hme : m = l[k].evs.length + 1 := by omega
            have hdm : decide ((m : Int) ≤ (l[k].evs.length : Int)) = false := by simp; omega
            clear hme
            go_wp2_with fail
            go_roundw
            case rel =>
              refine ⟨k + 1, by omega, by go_num, ?_, HB3.out.trans (HBs.out.mono HB3.out.size)⟩
              rw [HT.out]
              exact HIs.out.mono (fun q hq => ⟨hq.1, Nat.lt_of_lt_of_le hq.2 HBs.out.size⟩) (fun q hq => hq.2)
            case measure => simp [intOf]; omega
      · have hkd : k = l.length := by omega
        subst hkd
        have hI := HI.out
        rw [List.take_length] at hI
        have hlen : (addAll l).length ≤ 1200 := by
          obtain ⟨q1, q2⟩ := H60.out
          have := addAll_le l q2
          omega
        have hss : ∀ o ∈ addAll l, o.stream.size ≤ 300 := addAll_stream H60.out.2
        generalize addAll l = L at hI hlen hss
        have HI0 := Lib.hid hI
        have Hss := Lib.hid hss
        clear hI hss HI
        go_wp2_with fail
        refine (names_any wr _ _ _ HI0.out (by omega)).mono ?_
        rintro e w3 ⟨v3, ks, rfl, hks, hB3, hS3⟩
        obtain ⟨A3, c3, rfl, _, hc3⟩ := hS3.shape
        unfold maxLen at hc3
        have HKS := Lib.hid hks
        have HI3 := Lib.hid (HI0.out.fresh hB3)
        have HB3 := Lib.hid (HB.out.trans (hB3.mono HB.out.size))
        have HS3 := Lib.hid hS3
        have hver : ∀ (j : Nat) (hj : j < ks.length) (n : Nat), Calls Try.prog 11 #[.pointer (some ⟨w1.heap.size + 1, 0, none⟩), .string ks[j]] (w3.drewN n) fun e w' => e = .returned (.int .i64 (ofS L ks[j]).length) ∧ w' = w3.drewN n := fun j hj n =>
          (version_any (w3.drewN n) _ _ _ (HI3.out.drewN n) ks[j] (by have := ofS_size Hss.out ((HKS.out.2 ks[j]).1 (List.getElem_mem hj)); unfold maxLen; omega)).mono fun _ _ h => ⟨h.1, h.2.symm⟩
        have HV := Lib.hid hver
        clear hks hB3 hS3 hver
        go_wp2_with fail
        go_loopw [11, 12] (fun sv i ws => ∃ j q : Nat, j ≤ ks.length ∧ i = .int .i64 j ∧ sv = .int .i64 (sumS L (ks.take j)) ∧ ws = w3.drewN q) (fun _ i _ => ks.length - (intOf i).toNat)
        case atStart => exact ⟨0, 0, Nat.zero_le _, rfl, rfl, rfl⟩
        case round =>
          obtain ⟨j, q, hj, rfl, rfl, rfl⟩ := hrel
          by_cases hjt : j < ks.length
          · obtain ⟨b4, o4, rfl, hb4, hb4l, hx4⟩ := HS3.out.cell_ hjt
            have x0 := hx4 0 _ rfl
            rw [Nat.add_zero, Nat.mul_one] at x0
            have hle : sumS L (ks.take (j + 1)) = sumS L (ks.take j) + (ofS L ks[j]).length := sumS_take L ks hjt
            have hS1 : sumS L (ks.take j) ≤ 1200 := by
              have h1 := sumS_le L ks j
              have h2 := streams_sum HKS.out
              omega
            have hone : 1 ≤ (ofS L ks[j]).length := by
              have := (HKS.out.2 ks[j]).1 (List.getElem_mem hjt)
              rcases Nat.eq_zero_or_pos (ofS L ks[j]).length with h | h
              · exact absurd (List.eq_nil_of_length_eq_zero h) this
              · exact h
            have hof := ofS_le L ks[j]
            have HLE := Lib.hid hle
            clear hle hx4
            have hver := HV.out j hjt
            obtain ⟨V, hV⟩ : ∃ V, (ofS L ks[j]).length = V := ⟨_, rfl⟩
            rw [hV] at HLE hone hof hver
            obtain ⟨S0, hS0⟩ : ∃ S0, sumS L (ks.take j) = S0 := ⟨_, rfl⟩
            rw [hS0] at HLE hS1 ⊢
            have HVV := Lib.hid hver
            clear hver hV hS0
            have hd1 : decide ((V : Int) < 1) = false := by simp; omega
            have tsum : wrap64 ((S0 : Int) + (V : Int)) = ((S0 + V : Nat) : Int) := by rw [wrap_small (by omega) (by omega)]; omega
            by_cases hj0 : j = 0
            · subst hj0
              rw [Nat.add_zero] at x0
              go_wp2_with fail
              refine (HVV.out q).mono ?_
              rintro e w4 ⟨rfl, rfl⟩
              go_wp2_with fail
              go_quiet (exact (HVV.out _).mono fun _ _ h => ⟨h.1, _, h.2⟩)
              go_wp2_with fail
              go_roundw
              case rel => exact ⟨1, _, by omega, by go_num, by rw [HLE.out]; first | rfl | rw [tsum], by first | rfl | exact World.drewN_drewN _ _ _⟩
              case measure => simp [intOf]; omega
            · have hj1 : j - 1 < ks.length := by omega
              have hjp : 0 < j := by omega
              have hdp : decide (0 < j) = true := by simpa using hjp
              obtain ⟨b5, o5, he5, _, _, hx5⟩ := HS3.out.cell_ hj1
              injection he5 with he5
              injection he5 with he5 he6
              subst he5 he6
              have x1 := hx5 0 _ rfl
              rw [Nat.add_zero, Nat.mul_one] at x1
              have hris : Op.bytesLess ks[j - 1].toList ks[j].toList = true := by
                have := List.pairwise_iff_getElem.1 HKS.out.1 (j - 1) j hj1 hjt (by omega)
                exact this
              have hr1 : Op.bytesLess ks[j].toList ks[j - 1].toList = false := by
                cases hb : Op.bytesLess ks[j].toList ks[j - 1].toList
                · rfl
                · exact absurd (bLt_trans (a := ks[j]) (b := ks[j - 1]) (c := ks[j]) hb hris) (bLt_irrefl _)
              have hr2 : (ks[j].toList == ks[j - 1].toList) = false := eqS_false (fun e => by rw [e] at hris; exact absurd hris (bLt_irrefl _))
              have hjm : wrap64 ((j : Int) - 1) = ((j - 1 : Nat) : Int) := by rw [wrap_small (by omega) (by omega)]; omega
              clear hx5
              go_wp2_with fail
              refine (HVV.out q).mono ?_
              rintro e w4 ⟨rfl, rfl⟩
              go_wp2_with fail
              go_quiet (exact (HVV.out _).mono fun _ _ h => ⟨h.1, _, h.2⟩)
              go_wp2_with fail
              go_roundw
              case rel => exact ⟨j + 1, _, by omega, by go_num, by rw [HLE.out]; first | rfl | rw [tsum], by first | rfl | exact World.drewN_drewN _ _ _⟩
              case measure => simp [intOf]; omega
          · have hje : j = ks.length := by omega
            subst hje
            have htot : sumS L ks = L.length := streams_sum HKS.out
            rw [List.take_length, htot]
            have HT := Lib.hid htot
            clear htot
            have hevc : ∀ n : Nat, Calls Try.prog 15 #[.pointer (some ⟨w1.heap.size + 1, 0, none⟩)] (w3.drewN n) fun e w' => e = .returned (.int .i64 L.length) ∧ w' = w3.drewN n := fun n =>
              (events_any (w3.drewN n) _ _ _ (HI3.out.drewN n)).mono fun _ _ h => ⟨h.1, h.2.symm⟩
            have HEV := Lib.hid hevc
            clear hevc
            go_wp2_with fail
            refine (HEV.out q).mono ?_
            rintro e w4 ⟨rfl, rfl⟩
            go_wp2_with fail
            go_ret
            exact ⟨rfl, HB3.out.trans ⟨rfl, rfl, rfl, Nat.le_refl _, fun _ _ => rfl⟩⟩
end Go.Proofs.Ytkckiijnooncdaa
