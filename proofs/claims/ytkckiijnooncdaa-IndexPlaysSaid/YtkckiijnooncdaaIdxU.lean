/- IndexApart: what the statement's function does: it answers true. -/
import Derived.Test.YtkckiijnooncdaaIdxF
import Derived.Test.YtkckiijnooncdaaIdxH
import Derived.Test.YtkckiijnooncdaaIdxS
import Derived.StillTailTactics
import Derived.Test.YtkckiijnooncdaaBlE
namespace Go.Proofs.Ytkckiijnooncdaa
attribute [local go_sem ↓] Go.wp_at_zero Go.wp_at_succ
open Go.RowKit Go.Bl

/-- The acts of one stream. -/
def mine (l : List Ac) (s : ByteArray) : List Ac := l.filter fun a => a.stream = s
theorem mine_snoc (l : List Ac) (a : Ac) (s : ByteArray) : mine (l ++ [a]) s = if a.stream = s then mine l s ++ [a] else mine l s := by
  by_cases h : a.stream = s <;> simp [mine, h]
theorem ofS_mk (es : List Ev) (t s : ByteArray) (p : Int) : ofS (es.map (mkOne t p)) s = if t = s then (es.map (mkOne t p)).map One.kp else [] := by
  by_cases h : t = s
  · rw [if_pos h]
    unfold ofS
    rw [List.filter_eq_self.2]
    intro o ho
    obtain ⟨e, _, rfl⟩ := List.mem_map.1 ho
    exact decide_eq_true h
  · rw [if_neg h]
    unfold ofS
    rw [List.filter_eq_nil_iff.2]
    · rfl
    · intro o ho
      obtain ⟨e, _, rfl⟩ := List.mem_map.1 ho
      simp [mkOne, h]
theorem ofS_addAll (s : ByteArray) : ∀ l : List Ac, ofS (addAll l) s = (addAll (mine l s)).map One.kp
  | [] => rfl
  | a :: l => by
    have ih := ofS_addAll s l
    have e1 : addAll (a :: l) = a.evs.map (mkOne a.stream a.pos) ++ addAll l := by simp [addAll]
    rw [e1, ofS_append, ih, ofS_mk]
    by_cases h : a.stream = s
    · rw [if_pos h]
      have e2 : mine (a :: l) s = a :: mine l s := by simp [mine, h]
      rw [e2, show addAll (a :: mine l s) = a.evs.map (mkOne a.stream a.pos) ++ addAll (mine l s) by simp [addAll], List.map_append]
    · rw [if_neg h]
      have e2 : mine (a :: l) s = mine l s := by simp [mine, h]
      rw [e2, List.nil_append]
theorem mine_mine (l : List Ac) (s : ByteArray) : mine (mine l s) s = mine l s := by simp [mine]
theorem ofS_mine (l : List Ac) (s : ByteArray) : ofS (addAll (mine l s)) s = (addAll (mine l s)).map One.kp := by rw [ofS_addAll, mine_mine]
theorem ofS_mine_ne (l : List Ac) {s t : ByteArray} (h : t ≠ s) : ofS (addAll (mine l s)) t = [] := by
  rw [ofS_addAll, show mine (mine l s) t = [] by
    unfold mine
    rw [List.filter_eq_nil_iff]
    intro a ha
    have := (List.mem_filter.1 ha).2
    simp only [decide_eq_true_eq] at this ⊢
    rw [this]
    exact fun e => h e.symm]
  rfl
/-- What a stream's acts told. -/
def evsOf (l : List Ac) (s : ByteArray) : List Ev := (addAll (mine l s)).map One.e
theorem evsOf_kp (l : List Ac) (s : ByteArray) : ((addAll (mine l s)).map One.kp).map Kp.e = evsOf l s := by simp [evsOf, One.kp]
theorem evsOf_mine (l : List Ac) (s : ByteArray) : (addAll (mine l s)).length = (evsOf l s).length := by simp [evsOf]
theorem evsOf_snoc (l : List Ac) (a : Ac) (s : ByteArray) : evsOf (l ++ [a]) s = if a.stream = s then evsOf l s ++ a.evs else evsOf l s := by
  unfold evsOf
  rw [mine_snoc]
  by_cases h : a.stream = s
  · rw [if_pos h, if_pos h, addAll_snoc, List.map_append]
    rw [List.map_map, show (One.e ∘ mkOne a.stream a.pos) = id from rfl, List.map_id]
  · rw [if_neg h, if_neg h]
theorem streams_mine {l : List Ac} {s : ByteArray} {ks : List ByteArray} (h : Streams (addAll (mine l s)) ks) : (evsOf l s = [] ∧ ks.length = 0) ∨ (0 < (evsOf l s).length ∧ ks.length = 1) := by
  obtain ⟨h1, h2⟩ := h
  by_cases he : evsOf l s = []
  · left
    refine ⟨he, ?_⟩
    rw [List.length_eq_zero_iff]
    apply List.eq_nil_iff_forall_not_mem.2
    intro t ht
    rw [h2] at ht
    by_cases hts : t = s
    · subst hts
      rw [ofS_mine] at ht
      exact ht (by unfold evsOf at he; rw [List.map_eq_nil_iff] at he ⊢; exact he)
    · exact ht (ofS_mine_ne l hts)
  · right
    refine ⟨List.length_pos_iff.2 he, ?_⟩
    have : ks = [s] := rising_ext h1 (List.pairwise_singleton _ _) (fun t => by
      rw [h2, List.mem_singleton]
      by_cases hts : t = s
      · subst hts
        rw [ofS_mine]
        simp only [ne_eq, List.map_eq_nil_iff, iff_true]
        unfold evsOf at he
        rwa [List.map_eq_nil_iff] at he
      · simp [hts, ofS_mine_ne l hts])
    rw [this]; rfl
theorem mine_take_le (l : List Ac) (s : ByteArray) : (mine l s).length ≤ l.length := List.length_filter_le _ _
theorem mine_all {l : List Ac} {s : ByteArray} (h : l.all acOk = true) : (mine l s).all acOk = true := by
  rw [List.all_eq_true] at h ⊢
  exact fun a ha => h a ((List.mem_filter.1 ha).1)
theorem evsOf_le {l : List Ac} (s : ByteArray) (h : l.all acOk = true) : (evsOf l s).length ≤ l.length * 20 := by
  rw [← evsOf_mine]
  have h1 := addAll_le (mine l s) (mine_all h)
  have h2 := mine_take_le l s
  omega

def ApartRel (w : World) (px py : Nat) (l : List Ac) (s : ByteArray) (vw i : Value) (wr : World) : Prop :=
  ∃ (k : Nat) (X Y : Nat → Prop), k ≤ l.length ∧ i = .int .i64 k ∧ IdxAt wr px (addAll (l.take k)) X ∧ IdxAt wr py (addAll (mine (l.take k) s)) Y ∧ (∀ b, X b → ¬ Y b) ∧ (∀ b, X b ∨ Y b → w.heap.size ≤ b) ∧
    Sl wr (fun b => w.heap.size ≤ b ∧ ¬ X b ∧ ¬ Y b) 2 evc vw (evsOf (l.take k) s) ∧ Below w.heap.size w wr

set_option maxRecDepth 4000 in
set_option maxHeartbeats 2000000 in
theorem apart_any (w : World) (G : Nat → Prop) (v : Value) (l : List Ac) (h : Acts w G v l) (hG : ∀ k, G k → k < w.heap.size) (s : ByteArray) (hs : s.size ≤ 140737488355328) :
    Calls Try.prog 4 #[v, .string s] w fun e w' => e = .returned (.bool true) ∧ Below w.heap.size w w' := by
  obtain ⟨A, c, rfl, hA1, hA2⟩ := h.1.shape
  unfold maxLen at hA2
  have HA := Lib.hid h
  clear h
  go_enter Try.func4, Try.ntmps4
  go_wp2_with fail
  refine (shown_any w).mono ?_
  rintro e w1 ⟨rfl, hB1⟩
  have HB1 := Lib.hid hB1
  have HA1 := Lib.hid (HA.out.keep (Keeps.of_fresh hB1 (fun k => w.heap.size ≤ k)) (fun k hk _ hx => by omega))
  clear hB1
  go_wp2_with fail
  refine (small_any w1 G _ l HA1.out).mono ?_
  rintro e w2 ⟨rfl, q, rfl⟩
  go_wp2_with fail
  refine (new_any (w1.drewN q)).mono ?_
  rintro e w2 ⟨rfl, hI2, hB2⟩
  have HI2 := Lib.hid hI2
  have HB2 := Lib.hid (HB1.out.trans (Below.mono ((⟨rfl, rfl, rfl, Nat.le_refl _, fun _ _ => rfl⟩ : Below (w1.drewN q).heap.size w1 (w1.drewN q)).trans hB2) HB1.out.size))
  clear hI2 hB2
  go_wp2_with fail
  refine (new_any w2).mono ?_
  rintro e w3 ⟨rfl, hI3, hB3⟩
  have HI3 := Lib.hid hI3
  have HX3 := Lib.hid (HI2.out.fresh hB3)
  have HB3 := Lib.hid (HB2.out.trans (hB3.mono HB2.out.size))
  clear hI3 hB3
  cases hsm : smallB l
  · go_wp2_with fail
    go_ret
    exact ⟨rfl, HB3.out⟩
  · by_cases h300 : s.size ≤ 300
    · have hd : decide ((300 : Int) < (s.size : Int)) = false := by simp; omega
      have HSM := Lib.hid hsm
      go_wp2_with fail
      have h60 : l.length ≤ 60 ∧ l.all acOk = true := by simpa [smallB] using HSM.out
      have H60 := Lib.hid h60
      clear h60 hd
      have hw1 : w.heap.size ≤ w1.heap.size := HB1.out.size
      have hw2 : w.heap.size ≤ w2.heap.size := HB2.out.size
      have HX0 : Hid (IdxAt w3 (w1.heap.size + 1) [] (fun k => w1.heap.size ≤ k ∧ k < w2.heap.size)) := Lib.hid HX3.out
      have HY0 : Hid (IdxAt w3 (w2.heap.size + 1) [] (fun k => w2.heap.size ≤ k ∧ k < w3.heap.size)) := Lib.hid HI3.out
      clear HI2 HI3 HX3
      go_loopw [9, 10] (fun vw i wr => ApartRel w (w1.heap.size + 1) (w2.heap.size + 1) l s vw i wr) (fun _ i _ => l.length - (intOf i).toNat)
      case atStart => exact ⟨0, _, _, Nat.zero_le _, rfl, HX0.out, HY0.out, fun b h1 h2 => by omega, fun b h => by omega, Sl.nil_ _ _ _ _, HB3.out⟩
      case round =>
        obtain ⟨k, X, Y, hk, rfl, hX, hY, hXY, hXYw, hW, hB⟩ := hrel
        have HX := Lib.hid hX
        have HY := Lib.hid hY
        have HXY := Lib.hid hXY
        have HXYw := Lib.hid hXYw
        have HB := Lib.hid hB
        obtain ⟨Aw, cw, rfl, _, hcw⟩ := hW.shape
        have HW := Lib.hid hW.bound
        clear hX hY hXY hXYw hB hW
        by_cases hlt : k < l.length
        · have hAr := HA.out.keep (Keeps.of_below HB.out) (fun k hk _ hx => by omega)
          have HAr := Lib.hid hAr
          obtain ⟨b, o, rfl, hGb, hbl, hxx⟩ := hAr.1.cell_ hlt
          obtain ⟨hev, hst, _⟩ := hAr.2 l[k] (List.getElem_mem hlt)
          obtain ⟨B, d, hevv, hB1, hB2⟩ := hev.shape
          have x0 := hxx 0 _ rfl
          have x3 := hxx 3 _ rfl
          have x4 := hxx 4 _ rfl
          rw [hevv] at x4 hev
          have HV := Lib.hid hev
          simp only [Nat.add_zero] at x0
          clear hxx hev hevv hAr
          go_wp2_with fail
          go_still_tail 16, (by kernel_rfl)
          change wpList _ _ _ _ _ wr.drew
          go_wp2_with fail
          have HL : Hid ((addAll (l.take k)).length ≤ 1200 ∧ (addAll (mine (l.take k) s)).length ≤ 1200 ∧ l[k].evs.length ≤ 20) := Lib.hid (by
            obtain ⟨q1, q2⟩ := H60.out
            have q5 : (l.take k).all acOk = true := by rw [List.all_eq_true] at q2 ⊢; exact fun a ha => q2 a (List.mem_of_mem_take ha)
            have q3 := addAll_le (l.take k) q5
            have q6 := evsOf_le s q5
            have q4 : acOk l[k] = true := by rw [List.all_eq_true] at q2; exact q2 _ (List.getElem_mem hlt)
            simp only [acOk, Bool.and_eq_true, decide_eq_true_eq] at q4
            rw [List.length_take] at q3 q6
            rw [evsOf_mine]
            omega)
          refine (add_any wr.drew (w1.heap.size + 1) (addAll (l.take k)) X G HX.out.drew l[k].pos l[k].stream _ l[k].evs HV.out (fun q hq hx => by have := hG q hq; have := HXYw.out q (.inl hx); omega) (by unfold maxLen; omega) (by have := HL.out; omega)).mono ?_
          rintro e w3 ⟨rfl, hK3, hI3⟩
          have hs2 := HB.out.size
          have hs3 := hK3.size
          have hB3 : Below w.heap.size w w3 := Below.keep HB.out.drew hK3 HB.out.size (fun q hq => HXYw.out q (.inl hq))
          have hY3 := (HY.out.drew).keep hK3 (fun q hy hx => HXY.out q hx hy)
          have hW3 := (HW.out.drewN 1).keep hK3 (fun q _ hq hx => hq.1.2.1 hx)
          rw [heap_drew] at hs3
          simp only [heap_drew] at hI3
          have HX3 : Hid (IdxAt w3 (w1.heap.size + 1) (addAll (l.take (k + 1))) (fun q => X q ∨ wr.heap.size ≤ q ∧ q < w3.heap.size)) := Lib.hid (by
            rw [List.take_succ_eq_append_getElem hlt, addAll_snoc]
            exact hI3)
          have HY3 := Lib.hid hY3
          have HW3 := Lib.hid hW3
          have HB3 := Lib.hid hB3
          have hbX : ¬ X b := fun hx => by have := hG b hGb; have := HXYw.out b (.inl hx); omega
          have y0 := (hK3.cell (a := ⟨b, o + k * 5, none⟩) hbl hbX).trans x0
          have y3 := (hK3.cell (a := ⟨b, o + k * 5 + 3, none⟩) hbl hbX).trans x3
          have y4 := (hK3.cell (a := ⟨b, o + k * 5 + 4, none⟩) hbl hbX).trans x4
          have HV3 := Lib.hid ((HV.out.drewN 1).keep hK3 (fun q _ hq hx => by have := hG q hq; have := HXYw.out q (.inl hx); omega))
          clear hI3 hB3 hK3 hY3 hW3 x0 x3 x4 HV
          by_cases hst : l[k].stream = s
          · have hd := eqS_true hst
            have HST := Lib.hid hst
            clear hst
            go_wp2_with fail
            go_still_tail 12, (by kernel_rfl)
            change wpList _ _ _ _ _ w3.drew
            go_wp2_with fail
            have hs4 := hs3
            refine (add_any w3.drew (w2.heap.size + 1) (addAll (mine (l.take k) s)) Y G HY3.out.drew l[k].pos s _ l[k].evs (HV3.out.drewN 1) (fun q hq hx => by have := hG q hq; have := HXYw.out q (.inr hx); omega) (by unfold maxLen; omega) (by have := HL.out; omega)).mono ?_
            rintro e w4 ⟨rfl, hK4, hI4⟩
            have hs4 := hK4.size
            have hw3 := HB3.out.size
            have hB4 : Below w.heap.size w w4 := Below.keep HB3.out.drew hK4 hw3 (fun q hq => HXYw.out q (.inr hq))
            have hXd : ∀ q, (X q ∨ wr.heap.size ≤ q ∧ q < w3.heap.size) → ¬ Y q := fun q hx hy => by
              rcases hx with hx | hx
              · exact HXY.out q hx hy
              · have := HY.out.lt q hy; omega
            have hX4 := (HX3.out.drew).keep hK4 (fun q hx hy => hXd q hx hy)
            have hW4 := (HW3.out.drewN 1).keep hK4 (fun q _ hq hx => hq.1.2.2 hx)
            rw [heap_drew] at hs4
            simp only [heap_drew] at hI4
            have hbY : ¬ Y b := fun hx => by have := hG b hGb; have := HXYw.out b (.inr hx); omega
            have hb3 : b < w3.heap.size := Nat.lt_of_lt_of_le hbl hs3
            have z4 := (hK4.cell (a := ⟨b, o + k * 5 + 4, none⟩) hb3 hbY).trans y4
            have HV4 := Lib.hid ((HV3.out.drewN 1).keep hK4 (fun q _ hq hx => by have := hG q hq; have := HXYw.out q (.inr hx); omega))
            have HY4 : Hid (IdxAt w4 (w2.heap.size + 1) (addAll (mine (l.take (k + 1)) s)) (fun q => Y q ∨ w3.heap.size ≤ q ∧ q < w4.heap.size)) := Lib.hid (by
              rw [List.take_succ_eq_append_getElem hlt, mine_snoc, if_pos HST.out, addAll_snoc, HST.out]
              exact hI4)
            have HX4 := Lib.hid hX4
            have HB4 := Lib.hid hB4
            have HXd := Lib.hid hXd
            have hn : ((ofS (addAll (mine (l.take k) s)) s).length : Int) = ((evsOf (l.take k) s).length : Int) := by rw [ofS_mine, List.length_map, evsOf_mine]
            rw [hn]
            have hn2 : (evsOf (l.take k) s).length ≤ 1200 := by rw [← evsOf_mine]; exact HL.out.2.1
            have HN := Lib.hid hn2
            have hne : evsOf (l.take (k + 1)) s = evsOf (l.take k) s ++ l[k].evs := by rw [List.take_succ_eq_append_getElem hlt, evsOf_snoc, if_pos HST.out]
            have HNE := Lib.hid hne
            have HW4 := Lib.hid hW4
            clear hI4 hB4 hK4 hX4 hW4 y0 y3 y4 HV3 hd hXd hn hn2 hne HW3 HX3 HY3
            obtain ⟨i0, hi0, hz0, hz1, hz2⟩ := info_parts infoEv
            have hw4 : w.heap.size ≤ w4.heap.size := HB4.out.size
            have tok : True := trivial
            go_wp2_with fail
            go_region_held3 (fun x => x.cell? ⟨b, o + k * 5 + 4, none⟩ = some (.slice B l[k].evs.length d))
              (first | go_keep)
              (first
                | (refine step_append_sl (by rfl) (.tmp 90) (.tmp 95) 28 (by rfl) w4.heap.size 41 i0 _ 2 32 Try.underlying28 hi0 hz0 hz1 hz2 rfl (by decide) v1 _ _ (by rfl) hown1 _ evc (fun _ => rfl) evc_one (.slice B l[k].evs.length d) l[k].evs (by rfl) (HV4.out.fresh hba.out) ?k7 ?k8 ?k9 ?_
                   case k7 => have := HN.out; have := HL.out; unfold maxLen; omega
                   case k8 => have := HN.out; have := HL.out; omega
                   case k9 => exact hba.out.size
                   intro v2 w2' hown2 hg2 hat2
                   have hbc : Hid (Below w4.heap.size w4 w2') := Lib.hid (hba.out.grown hg2 hba.out.size (fun q hq => hlow1.out q hq))
                   have z42 := (hbc.out.cell (p := ⟨b, o + k * 5 + 4, none⟩) (Nat.lt_of_lt_of_le hb3 hs4)).trans z4)
                | (refine step_append_sl (by rfl) (.tmp 88) (.tmp 89) 28 (by rfl) w4.heap.size 41 i0 _ 2 32 Try.underlying28 hi0 hz0 hz1 hz2 rfl (by decide) (.slice (some ⟨w4.heap.size, 0, none⟩) 0 0) 0 [] (by rfl) ?g4 _ evc (fun _ => rfl) evc_one (.slice Aw (evsOf (l.take k) s).length cw) (evsOf (l.take k) s) (by rfl) ((HW4.out.drewN 1).fresh ((Below.refl w4.heap.size w4.drew).alloc (Nat.le_refl _) _)) ?g7 ?g8 ?g9 ?_
                   case g4 => exact World.ownsRow_made w4.drew #[] 0 (Nat.le_refl _) (Nat.zero_le _) rfl
                   case g7 => have := HN.out; unfold maxLen; omega
                   case g8 => have := HN.out; omega
                   case g9 => simp
                   intro v1 w1' hown1 hg1 hat1
                   have hba : Hid (Below w4.heap.size w4 w1') := Lib.hid (((show Below w4.heap.size w4 w4.drew from ⟨rfl, rfl, rfl, Nat.le_refl _, fun _ _ => rfl⟩).alloc (Nat.le_refl _) _).grown hg1 (by simp) (fun q hq => by simp [Value.ownBlock] at hq; omega))
                   have hlow1 : Hid (∀ q, v1.ownBlock = some q → w4.heap.size ≤ q) := Lib.hid (fun q hq => by rcases hat1 with e | e <;> rw [e] at hq <;> simp [Value.ownBlock] at hq <;> omega)
                   have z41 := (hba.out.cell (p := ⟨b, o + k * 5 + 4, none⟩) (Nat.lt_of_lt_of_le hb3 hs4)).trans z4))
            go_wp2_with fail
            go_roundw
            case rel =>
              have hrow2 := hown2
              refine ⟨k + 1, _, _, by omega, by go_num, HX4.out.fresh hbc.out, HY4.out.fresh hbc.out, ?_, ?_, ?_, HB4.out.trans (hbc.out.mono hw4)⟩
              · intro q hq hy
                rcases hy with hy | hy
                · exact HXd.out q hq hy
                · rcases hq with hq | hq
                  · have := HX.out.lt q hq; omega
                  · omega
              · intro q hq
                rcases hq with (hq | hq) | (hq | hq)
                · exact HXYw.out q (.inl hq)
                · omega
                · exact HXYw.out q (.inr hq)
                · omega
              · rw [HNE.out]
                have e1 : (0 + (evsOf (l.take k) s).length + l[k].evs.length) = (evsOf (l.take k) s ++ l[k].evs).length := by simp
                rw [e1, List.nil_append, ← List.flatMap_append] at hrow2
                refine (Sl.of_own (enc := evc) (fun _ => rfl) hrow2).mono fun q hq hv => ?_
                have := (hrow2.lt q hv).1
                refine ⟨by omega, fun hx => ?_, fun hy => ?_⟩
                · rcases hx with hx | hx
                  · have := HX.out.lt q hx; omega
                  · omega
                · rcases hy with hy | hy
                  · have := HY.out.lt q hy; omega
                  · omega
            case measure => simp [intOf]; omega
          · have hd := eqS_false hst
            have HST := Lib.hid hst
            clear hst
            go_wp2_with fail
            go_roundw
            case rel =>
              refine ⟨k + 1, _, _, by omega, by go_num, HX3.out, by rw [List.take_succ_eq_append_getElem hlt, mine_snoc, if_neg HST.out]; exact HY3.out, ?_, ?_, ?_, HB3.out⟩
              · intro q hq hy
                rcases hq with hq | hq
                · exact HXY.out q hq hy
                · have := HY.out.lt q hy; omega
              · intro q hq
                rcases hq with (hq | hq) | hq
                · exact HXYw.out q (.inl hq)
                · omega
                · exact HXYw.out q (.inr hq)
              · rw [List.take_succ_eq_append_getElem hlt, evsOf_snoc, if_neg HST.out]
                exact HW3.out.mono fun q _ hq => ⟨hq.1.1, fun hx => by rcases hx with hx | hx; exact hq.1.2.1 hx; have := hq.2; omega, hq.1.2.2⟩
            case measure => simp [intOf]; omega
        · have hkd : k = l.length := by omega
          subst hkd
          have HL : Hid ((addAll l).length ≤ 1200 ∧ (addAll (mine l s)).length ≤ 1200 ∧ (evsOf l s).length ≤ 1200) := Lib.hid (by
            obtain ⟨q1, q2⟩ := H60.out
            have q3 := addAll_le l q2
            have q6 := evsOf_le s q2
            rw [evsOf_mine]
            omega)
          have hX := HX.out
          have hY := HY.out
          have hW := HW.out
          rw [List.take_length] at hX hY hW ⊢
          have hO : ofS (addAll l) s = (addAll (mine l s)).map One.kp := ofS_addAll s l
          have hO2 := ofS_mine l s
          have hE : (((addAll (mine l s)).map One.kp).map Kp.e) = evsOf l s := evsOf_kp l s
          have hLn : (addAll (mine l s)).length = (evsOf l s).length := evsOf_mine l s
          have hst : ∀ ks, Streams (addAll (mine l s)) ks → (evsOf l s = [] ∧ ks.length = 0) ∨ (0 < (evsOf l s).length ∧ ks.length = 1) := fun ks h => streams_mine h
          generalize addAll (mine l s) = M at hO hO2 hY hE hLn hst HL
          generalize evsOf l s = W at hE hLn hW hst HL ⊢
          have HX0 := Lib.hid hX
          have HY0 := Lib.hid hY
          have HW0 := Lib.hid hW
          have HO := Lib.hid hO
          have HO2 := Lib.hid hO2
          have HE := Lib.hid hE
          have HLn := Lib.hid hLn
          have Hst := Lib.hid hst
          clear hX hY hW hO hO2 hE hLn hst HX HY HW
          go_wp2_with fail
          refine (version_any wr _ _ _ HX0.out s (by unfold maxLen; omega)).mono ?_
          rintro e w3 ⟨he, rfl⟩
          rw [HO.out, List.length_map, HLn.out] at he
          subst he
          go_wp2_with fail
          refine (range_any wr _ _ _ HX0.out s (by unfold maxLen; omega) 1 10000 (by have := HL.out; omega)).mono ?_
          rintro e w4 ⟨v4, rfl, hB4, hS4⟩
          rw [HO.out, show (max (1 : Int) 1 - 1).toNat = 0 from rfl, List.drop_zero, show (10000 : Int).toNat = 10000 from rfl, List.take_of_length_le (by rw [List.length_map]; have := HL.out; omega), HE.out] at hS4
          have HX4 := Lib.hid (HX0.out.fresh hB4)
          have HY4 := Lib.hid (HY0.out.fresh hB4)
          have HW4 := Lib.hid (HW0.out.fresh hB4)
          have HB4 := Lib.hid (HB.out.trans (hB4.mono HB.out.size))
          have hsame := same_any w4 _ _ v4 _ _ _ hS4 HW4.out
          rw [decide_eq_true rfl] at hsame
          have Hsame := Lib.hid hsame
          clear hS4 hsame hB4
          go_wp2_with fail
          refine Hsame.out.mono ?_
          rintro e w5 ⟨rfl, q5, rfl⟩
          go_wp2_with fail
          refine (range_any (w4.drewN q5) _ _ _ (HY4.out.drewN q5) s (by unfold maxLen; omega) 0 10000 (by have := HL.out; omega)).mono ?_
          rintro e w6 ⟨v6, rfl, hB6, hS6⟩
          rw [HO2.out, show (max (0 : Int) 1 - 1).toNat = 0 from rfl, List.drop_zero, show (10000 : Int).toNat = 10000 from rfl, List.take_of_length_le (by rw [List.length_map, HLn.out]; have := HL.out; omega), HE.out] at hS6
          have HY6 := Lib.hid ((HY4.out.drewN q5).fresh hB6)
          have HW6 := Lib.hid ((HW4.out.drewN q5).fresh hB6)
          have HB6 := Lib.hid ((HB4.out.trans ⟨rfl, rfl, rfl, Nat.le_refl _, fun _ _ => rfl⟩ : Below w.heap.size w (w4.drewN q5)).trans (hB6.mono HB4.out.size))
          have hsame := same_any w6 _ _ v6 _ _ _ hS6 HW6.out
          rw [decide_eq_true rfl] at hsame
          have Hsame := Lib.hid hsame
          clear hS6 hsame hB6
          go_wp2_with fail
          refine Hsame.out.mono ?_
          rintro e w7 ⟨rfl, q7, rfl⟩
          go_wp2_with fail
          refine (events_any (w6.drewN q7) _ _ _ (HY6.out.drewN q7)).mono ?_
          rintro e w8 ⟨he, rfl⟩
          rw [HLn.out] at he
          subst he
          go_wp2_with fail
          refine (names_any (w6.drewN q7) _ _ _ (HY6.out.drewN q7) (by rw [HLn.out]; have := HL.out; omega)).mono ?_
          rintro e w9 ⟨v9, ks, rfl, hks, hB9, hS9⟩
          have HB9 := Lib.hid ((HB6.out.trans ⟨rfl, rfl, rfl, Nat.le_refl _, fun _ _ => rfl⟩ : Below w.heap.size w (w6.drewN q7)).trans (hB9.mono HB6.out.size))
          obtain ⟨A9, c9, rfl, _⟩ := hS9.shape
          have hcase := Hst.out ks hks
          have hb1 : ((ks.length : Int) == 1) = decide (0 < W.length) := by
            rcases hcase with ⟨a, b⟩ | ⟨a, b⟩
            · rw [b, a]; rfl
            · rw [b, decide_eq_true (by omega)]; rfl
          cases hdw : decide (0 < W.length)
          · rw [hdw] at hb1
            clear hS9 hB9 hks hcase
            go_wp2_with fail
            go_ret
            exact ⟨rfl, HB9.out⟩
          · rw [hdw] at hb1
            clear hS9 hB9 hks hcase
            go_wp2_with fail
            go_ret
            exact ⟨rfl, HB9.out⟩
    · have hd : decide ((300 : Int) < (s.size : Int)) = true := by simp; omega
      go_wp2_with fail
      go_ret
      exact ⟨rfl, HB3.out⟩
end Go.Proofs.Ytkckiijnooncdaa
