/- sameTexts; the document's Names. -/
import Derived.Test.YthebmbhdlkldiaaGreatDoorIdxD
import Derived.Test.YthebmbhdlkldiaaGreatDoorIdxC
import Derived.Test.YthebmbhdlkldiaaGreatDoorBlD
/- The document's index (a row of all events): Version, Pos, Range, Add. -/
namespace Go.Proofs.YthebmbhdlkldiaaGreatDoor.Idx
open Go.RowKit Go.Bl

def onec (o : One) : List Value := [.string o.stream, .int .i64 o.pos, .string o.e.kind, .string o.e.data]
/-- Block p of w is the document's index of the events L. -/
def RefAt (w : World) (p : Nat) (L : List One) (F : Nat → Prop) : Prop :=
  ∃ v, w.heap[p]? = some (.cells #[v] 148 (0, 0)) ∧ Sl w F 4 onec v L ∧ F p ∧ ∀ k, F k → k < w.heap.size
theorem RefAt.keep {w w' : World} {p : Nat} {L : List One} {F G : Nat → Prop} (h : RefAt w p L F) (hk : Keeps G w w') (hd : ∀ k, F k → ¬ G k) : RefAt w' p L F := by
  obtain ⟨v, h1, h2, h3, h4⟩ := h
  exact ⟨v, hk.grownTo h1 (hd _ h3), h2.keep hk (fun k _ hF => hd k hF), h3, fun k hF => Nat.lt_of_lt_of_le (h4 k hF) hk.size⟩
theorem RefAt.fresh {w w' : World} {p : Nat} {L : List One} {F : Nat → Prop} (h : RefAt w p L F) (hk : Below w.heap.size w w') : RefAt w' p L F :=
  h.keep (Keeps.of_fresh hk fun _ => False) (fun _ _ => id)
theorem RefAt.drewN {w : World} {p : Nat} {L : List One} {F : Nat → Prop} (h : RefAt w p L F) (n : Nat) : RefAt (w.drewN n) p L F := h.keep (G := fun _ => False) ((Keeps.refl _ _).drewN n) (fun _ _ => id)
theorem RefAt.drew {w : World} {p : Nat} {L : List One} {F : Nat → Prop} (h : RefAt w p L F) : RefAt w.drew p L F := h.keep (G := fun _ => False) ((Keeps.refl _ _).drew) (fun _ _ => id)

theorem ofS_snoc (L : List One) (o : One) (s : ByteArray) : ofS (L ++ [o]) s = if o.stream = s then ofS L s ++ [o.kp] else ofS L s := by
  rw [ofS_append]
  by_cases h : o.stream = s <;> simp [ofS, h]
theorem ofS_take_succ (L : List One) (s : ByteArray) {k : Nat} (hk : k < L.length) : ofS (L.take (k + 1)) s = if L[k].stream = s then ofS (L.take k) s ++ [L[k].kp] else ofS (L.take k) s := by
  rw [List.take_succ_eq_append_getElem hk, ofS_snoc]
theorem eqS_true {a b : ByteArray} (h : a = b) : (a.toList == b.toList) = true := by subst h; simp
theorem eqS_false {a b : ByteArray} (h : a ≠ b) : (a.toList == b.toList) = false := by
  rw [beq_eq_false_iff_ne]; intro e; exact h ((bytes_inj a b).mp e)

set_option maxHeartbeats 400000 in
theorem rversion_any (w : World) (p : Nat) (L : List One) (F : Nat → Prop) (h : RefAt w p L F) (s : ByteArray) (_hb : L.length ≤ 1073741824) :
    Calls Tryz.prog 52 #[.pointer (some ⟨p, 0, none⟩), .string s] w fun e w' => e = .returned (.int .i64 (ofS L s).length) ∧ w = w' := by
  obtain ⟨v, h1, h2, -, -⟩ := h
  obtain ⟨A, c, rfl, hc1, hc2⟩ := h2.shape
  have c0 : w.cell? ⟨p, 0, none⟩ = some (.slice A L.length c) := cell_of_row w p 0 _ _ _ h1
  have HS := Lib.hid h2
  unfold maxLen at hc2
  clear h1 h2
  go_enter Tryz.func52, Tryz.ntmps52
  go_wp2_with fail
  go_loop [5, 6] (fun n i => ∃ k : Nat, k ≤ L.length ∧ i = .int .i64 k ∧ n = .int .i64 (ofS (L.take k) s).length) (fun _ i => L.length - (intOf i).toNat)
  case atStart => exact ⟨0, Nat.zero_le _, rfl, rfl⟩
  case round =>
    obtain ⟨k, hk, rfl, rfl⟩ := hrel
    have hle := ofS_le (L.take k) s
    rw [List.length_take] at hle
    by_cases hlt : k < L.length
    · obtain ⟨b, o, rfl, _, _, hxx⟩ := HS.out.cell_ hlt
      have x0 := hxx 0 _ rfl
      simp only [Nat.add_zero] at x0
      clear hxx
      have hsn := Lib.hid (ofS_take_succ L s hlt)
      by_cases he : L[k].stream = s
      · have hd := eqS_true he
        have HE := Lib.hid he
        clear he
        go_wp2_with fail
        go_round
        case rel => exact ⟨k + 1, by omega, by go_num, by rw [hsn.out, if_pos HE.out]; simp⟩
        case measure => simp [intOf]; omega
      · have hd := eqS_false he
        have HE := Lib.hid he
        clear he
        go_wp2_with fail
        go_round
        case rel => exact ⟨k + 1, by omega, by go_num, by rw [hsn.out, if_neg HE.out]⟩
        case measure => simp [intOf]; omega
    · have hkd : k = L.length := by omega
      subst hkd
      go_wp2_with fail
      go_ret
      exact ⟨rfl, rfl⟩

theorem posOf_none {l : List Kp} {n : Int} (h : n < 1 ∨ (l.length : Int) < n) : posOf l n = 0 := by unfold posOf; rw [if_pos h]

set_option maxHeartbeats 400000 in
theorem rpos_any (w : World) (p : Nat) (L : List One) (F : Nat → Prop) (h : RefAt w p L F) (s : ByteArray) (n : Int) (_hb : L.length ≤ 1073741824) :
    Calls Tryz.prog 54 #[.pointer (some ⟨p, 0, none⟩), .string s, .int .i64 n] w fun e w' => e = .returned (.int .i64 (posOf (ofS L s) n)) ∧ w = w' := by
  obtain ⟨v, h1, h2, -, -⟩ := h
  obtain ⟨A, c, rfl, hc1, hc2⟩ := h2.shape
  have c0 : w.cell? ⟨p, 0, none⟩ = some (.slice A L.length c) := cell_of_row w p 0 _ _ _ h1
  have HS := Lib.hid h2
  unfold maxLen at hc2
  clear h1 h2
  go_enter Tryz.func54, Tryz.ntmps54
  go_wp2_with fail
  go_loop [7, 8] (fun m i => ∃ k : Nat, k ≤ L.length ∧ i = .int .i64 k ∧ m = .int .i64 (ofS (L.take k) s).length ∧ (n < 1 ∨ ((ofS (L.take k) s).length : Int) < n)) (fun _ i => L.length - (intOf i).toNat)
  case atStart => exact ⟨0, Nat.zero_le _, rfl, rfl, by simp [ofS]; omega⟩
  case round =>
    obtain ⟨k, hk, rfl, rfl, hn⟩ := hrel
    have hle := ofS_le (L.take k) s
    rw [List.length_take] at hle
    have HN := Lib.hid hn
    clear hn
    by_cases hlt : k < L.length
    · obtain ⟨b, o, rfl, _, _, hxx⟩ := HS.out.cell_ hlt
      have x0 := hxx 0 _ rfl
      have x1 := hxx 1 _ rfl
      simp only [Nat.add_zero] at x0
      clear hxx
      have hsn := Lib.hid (ofS_take_succ L s hlt)
      by_cases he : L[k].stream = s
      · have hd := eqS_true he
        have HE := Lib.hid he
        clear he
        by_cases hm : ((ofS (L.take k) s).length : Int) + 1 = n
        · have hd2 : (((ofS (L.take k) s).length : Int) + 1 == n) = true := by rw [beq_iff_eq]; exact hm
          have HM := Lib.hid hm
          clear hm
          have hL : posOf (ofS L s) n = L[k].pos := by
            have e1 : ofS L s = ofS (L.take (k + 1)) s ++ ofS (L.drop (k + 1)) s := by rw [← ofS_append, List.take_append_drop]
            rw [hsn.out, if_pos HE.out] at e1
            rw [← HM.out]
            unfold posOf
            rw [if_neg (by rw [e1]; simp; omega), e1, show ((((ofS (L.take k) s).length : Int) + 1 - 1)).toNat = (ofS (L.take k) s).length by omega]
            simp [One.kp]
          have HL := Lib.hid hL
          clear hL
          go_wp2_with fail
          go_ret
          rw [HL.out]
          exact ⟨rfl, rfl⟩
        · have hd2 : (((ofS (L.take k) s).length : Int) + 1 == n) = false := by rw [beq_eq_false_iff_ne]; exact hm
          have HM := Lib.hid hm
          clear hm
          go_wp2_with fail
          go_round
          case rel => exact ⟨k + 1, by omega, by go_num, by rw [hsn.out, if_pos HE.out]; simp, by
            have q1 := HN.out; have q2 := HM.out
            rw [hsn.out, if_pos HE.out]; simp; omega⟩
          case measure => simp [intOf]; omega
      · have hd := eqS_false he
        have HE := Lib.hid he
        clear he
        go_wp2_with fail
        go_round
        case rel => exact ⟨k + 1, by omega, by go_num, by rw [hsn.out, if_neg HE.out], by rw [hsn.out, if_neg HE.out]; exact HN.out⟩
        case measure => simp [intOf]; omega
    · have hkd : k = L.length := by omega
      subst hkd
      go_wp2_with fail
      go_ret
      have := HN.out
      rw [List.take_of_length_le (Nat.le_refl _)] at this
      rw [posOf_none this]
      exact ⟨rfl, rfl⟩

def rangeOf (l : List Kp) (fr most : Int) : List Ev := ((l.drop (max fr 1 - 1).toNat).take most.toNat).map Kp.e

/-- One event more: what a range tells then. -/
theorem rangeOf_snoc (l : List Kp) (x : Kp) (fr most : Int) :
    rangeOf (l ++ [x]) fr most = if fr ≤ (l.length : Int) + 1 ∧ ((rangeOf l fr most).length : Int) < most then rangeOf l fr most ++ [x.e] else rangeOf l fr most := by
  unfold rangeOf
  have hm : (max fr 1 - 1).toNat ≤ l.length ↔ fr ≤ (l.length : Int) + 1 := by omega
  by_cases h1 : (max fr 1 - 1).toNat ≤ l.length
  · rw [List.drop_append_of_le_length h1]
    have hlen : ((l.drop (max fr 1 - 1).toNat).take most.toNat).length = min most.toNat (l.length - (max fr 1 - 1).toNat) := by simp
    by_cases h2 : ((((l.drop (max fr 1 - 1).toNat).take most.toNat).map Kp.e).length : Int) < most
    · rw [if_pos ⟨hm.1 h1, h2⟩]
      rw [List.length_map, hlen] at h2
      rw [List.take_of_length_le (by simp; omega), List.take_of_length_le (by simp; omega), List.map_append]
      rfl
    · rw [if_neg (fun h => h2 h.2)]
      rw [List.length_map, hlen] at h2
      rw [List.take_append_of_le_length (by simp; omega)]
  · rw [if_neg (fun h => h1 (hm.2 h.1)), List.drop_eq_nil_of_le (by simp; omega), List.drop_eq_nil_of_le (by omega)]

set_option maxHeartbeats 1000000 in
theorem rrange_any (w : World) (p : Nat) (L : List One) (F : Nat → Prop) (h : RefAt w p L F) (s : ByteArray) (fr most : Int) (hb : L.length ≤ 1073741824) :
    Calls Tryz.prog 53 #[.pointer (some ⟨p, 0, none⟩), .string s, .int .i64 fr, .int .i64 most] w fun e w' => ∃ v, e = .returned v ∧ Below w.heap.size w w' ∧ Sl w' (fun b => w.heap.size ≤ b) 2 evc v (rangeOf (ofS L s) fr most) := by
  obtain ⟨v, h1, h2, -, -⟩ := h
  obtain ⟨A, c, rfl, hc1, hc2⟩ := h2.shape
  have c0 : w.cell? ⟨p, 0, none⟩ = some (.slice A L.length c) := cell_of_row w p 0 _ _ _ h1
  have hp : p < w.heap.size := (Array.getElem?_eq_some_iff.1 h1).1
  have HS := Lib.hid h2
  unfold maxLen at hc2
  obtain ⟨i0, hi0, hz0, hz1, hz2⟩ := info_parts infoEv
  have C0 := Lib.hid c0
  clear h1 h2 c0
  go_enter Tryz.func53, Tryz.ntmps53
  go_wp2_with fail
  go_loopw [9, 10, 11] (fun v n i wr => ∃ k : Nat, k ≤ L.length ∧ i = .int .i64 k ∧ n = .int .i64 (ofS (L.take k) s).length ∧ wr.ownsRow w.heap.size 77 2 v (rangeOf (ofS (L.take k) s) fr most).length ((rangeOf (ofS (L.take k) s) fr most).flatMap evc) ∧ Below w.heap.size w wr) (fun _ _ i _ => L.length - (intOf i).toNat)
  case atStart => exact ⟨0, Nat.zero_le _, rfl, rfl, by simpa [ofS, rangeOf] using World.ownsRow_nil _ _ _ _, Below.refl _ _⟩
  case round =>
    obtain ⟨k, hk, rfl, rfl, hrow, hB⟩ := hrel
    have hle := ofS_le (L.take k) s
    rw [List.length_take] at hle
    have hsz := hB.size
    have c0 := (hB.cell (p := ⟨p, 0, none⟩) hp).trans C0.out
    have HB := Lib.hid hB
    obtain ⟨a1, c1, rfl, hd1, hd2⟩ := row_shape hrow
    have hrl : (rangeOf (ofS (L.take k) s) fr most).length ≤ (ofS (L.take k) s).length := by
      unfold rangeOf; simp; omega
    have Hrow := Lib.hid hrow
    clear hrow hB
    by_cases hlt : k < L.length
    · obtain ⟨b, o, rfl, _, hbl, hxx⟩ := HS.out.cell_ hlt
      have x0 := (HB.out.cell (p := ⟨b, _, none⟩) hbl).trans (hxx 0 _ rfl)
      have x2 := (HB.out.cell (p := ⟨b, _, none⟩) hbl).trans (hxx 2 _ rfl)
      have x3 := (HB.out.cell (p := ⟨b, _, none⟩) hbl).trans (hxx 3 _ rfl)
      simp only [Nat.add_zero] at x0
      clear hxx
      have hsn := Lib.hid (ofS_take_succ L s hlt)
      by_cases he : L[k].stream = s
      · have hd := eqS_true he
        have HE := Lib.hid he
        clear he
        have hro := rangeOf_snoc (ofS (L.take k) s) L[k].kp fr most
        have hro' := hsn.out
        rw [if_pos HE.out] at hro'
        rw [← hro'] at hro
        have HRO := Lib.hid hro
        have HRS := Lib.hid hro'
        clear hro hro'
        by_cases t1 : fr ≤ ((ofS (L.take k) s).length : Int) + 1
        · by_cases t2 : ((rangeOf (ofS (L.take k) s) fr most).length : Int) < most
          · have hnews := World.news_of_block (cs := #[.string L[k].e.kind, .string L[k].e.data]) (t := 77) (fr := (0, 0)) (heap_alloc_new wr _)
            have Hnews := Lib.hid hnews
            clear hnews
            go_wp2_with (at_builtin; refine wpList_append_own _ rfl _ _ 46 rfl w.heap.size 77 i0 _ 2 32 Tryz.underlying46 hi0 hz0 hz1 hz2 rfl (by decide) _ _ _ rfl (Hrow.out.alloc _) ⟨wr.heap.size, 0, none⟩ 1 1 [.string L[k].e.kind, .string L[k].e.data] rfl rfl Hnews.out (by simp [Value.oneCell']) (by unfold maxLen; omega) (by omega) (by simp; omega) ?_; intro v' w1 hown' hgrow _; have Hown := Lib.hid hown'; clear hown')
            go_roundw
            case rel =>
              refine ⟨k + 1, by omega, by go_num, by rw [HRS.out]; simp, ?_, ?_⟩
              · rw [HRO.out, if_pos ⟨t1, t2⟩, List.length_append, List.flatMap_append]
                exact Hown.out
              · exact (HB.out.alloc hsz _).grown hgrow (by simp; omega) (fun q hq => (Hrow.out.lt q hq).1)
            case measure => simp [intOf]; omega
          · have d1 : decide (fr ≤ ((ofS (L.take k) s).length : Int) + 1) = true := by simpa using t1
            go_wp2_with fail
            go_roundw
            case rel => exact ⟨k + 1, by omega, by go_num, by rw [HRS.out]; simp, by rw [HRO.out, if_neg (fun h => t2 h.2)]; exact Hrow.out, HB.out⟩
            case measure => simp [intOf]; omega
        · have d1 : decide (fr ≤ ((ofS (L.take k) s).length : Int) + 1) = false := by simpa using t1
          go_wp2_with fail
          go_roundw
          case rel => exact ⟨k + 1, by omega, by go_num, by rw [HRS.out]; simp, by rw [HRO.out, if_neg (fun h => t1 h.1)]; exact Hrow.out, HB.out⟩
          case measure => simp [intOf]; omega
      · have hd := eqS_false he
        have HE := Lib.hid he
        clear he
        go_wp2_with fail
        go_roundw
        case rel => exact ⟨k + 1, by omega, by go_num, by rw [hsn.out, if_neg HE.out], by rw [hsn.out, if_neg HE.out]; exact Hrow.out, HB.out⟩
        case measure => simp [intOf]; omega
    · have hkd : k = L.length := by omega
      subst hkd
      go_wp2_with fail
      go_ret
      have h := Hrow.out
      simp only [List.take_length] at h ⊢
      exact ⟨_, rfl, HB.out, (Sl.of_own (enc := evc) (fun _ => rfl) h).mono fun q hq hv => (h.lt q hv).1⟩

theorem infoOne : (Tryz.prog.info? 167).map (fun i => (i.zero, i.size, i.bytes)) = some (some (.agg #[.string ByteArray.empty, .int .i64 0, .string ByteArray.empty, .string ByteArray.empty]), 4, 56) := by kernel_rfl
theorem onec_one (x : One) (u : Value) (h : u ∈ onec x) : u.oneCell' = true := by
  simp only [onec, List.mem_cons, List.not_mem_nil, or_false] at h
  rcases h with rfl | rfl | rfl | rfl <;> rfl

set_option maxHeartbeats 1000000 in
theorem radd_any (w : World) (p : Nat) (L : List One) (F G : Nat → Prop) (h : RefAt w p L F) (pos : Int) (s : ByteArray) (ev : Value) (es : List Ev) (hes : Sl w G 2 evc ev es) (hb : L.length + es.length ≤ 1073741824) :
    Calls Tryz.prog 84 #[.pointer (some ⟨p, 0, none⟩), .int .i64 pos, .string s, ev] w fun e w' => e = .returned (.int .i64 (ofS L s).length) ∧ Keeps (fun q => q = p) w w' ∧
      RefAt w' p (L ++ es.map (mkOne s pos)) (fun k => F k ∨ (w.heap.size ≤ k ∧ k < w'.heap.size)) := by
  obtain ⟨Ae, ce, rfl, he1, he2⟩ := hes.shape
  have H := Lib.hid h
  have HE := Lib.hid hes
  obtain ⟨v, h1, h2, hF, hlt⟩ := h
  obtain ⟨A, c, rfl, hc1, hc2⟩ := h2.shape
  have c0 : w.cell? ⟨p, 0, none⟩ = some (.slice A L.length c) := cell_of_row w p 0 _ _ _ h1
  have hp : p < w.heap.size := (Array.getElem?_eq_some_iff.1 h1).1
  have HS := Lib.hid h2
  have HF := Lib.hid hF
  have HLT := Lib.hid hlt
  have H1 := Lib.hid h1
  unfold maxLen at hc2 he2
  obtain ⟨i0, hi0, hz0, hz1, hz2⟩ := info_parts infoOne
  clear h1 h2 hF hlt hes
  go_enter Tryz.func84, Tryz.ntmps84
  go_wp2_with fail
  refine (rversion_any w p L F H.out s (by omega)).mono ?_
  rintro e w1 ⟨rfl, rfl⟩
  have hown0 := World.ownsRow_made (base := w.heap.size) (e := 167) (size := 4) w #[] 0 (Nat.le_refl _) (Nat.zero_le _) rfl
  have Hown0 := Lib.hid hown0
  have HX := Lib.hid (HS.out.fresh ((Below.refl _ _).alloc (Nat.le_refl _) (.cells #[] 167)))
  clear hown0
  go_wp2_with (at_builtin; refine wpList_append_sl _ (by rfl) _ _ 146 (by rfl) w.heap.size 167 i0 _ 4 56 Tryz.underlying146 hi0 hz0 hz1 hz2 rfl (by decide) _ 0 [] (by rfl) Hown0.out _ onec (fun _ => rfl) onec_one _ L (by rfl) HX.out (by unfold maxLen; omega) (by omega) (by simp) ?_; intro v1 w1 hown1 hg1 hat1; have Hown1 := Lib.hid hown1; clear hown1)
  have hB1 : Below w.heap.size w w1 := ((Below.refl _ w).alloc (Nat.le_refl _) _).grown hg1 (by simp) (fun q hq => by simp [Value.ownBlock] at hq; omega)
  have HB1 := Lib.hid hB1
  clear hg1 hat1 hB1
  go_loopw [10, 11] (fun v i wr => ∃ k : Nat, k ≤ es.length ∧ i = .int .i64 k ∧ wr.ownsRow w.heap.size 167 4 v (L.length + k) ((L ++ (es.take k).map (mkOne s pos)).flatMap onec) ∧ Below w.heap.size w wr) (fun _ i _ => es.length - (intOf i).toNat)
  case atStart => exact ⟨0, Nat.zero_le _, rfl, by simpa using Hown1.out, HB1.out⟩
  case round =>
    obtain ⟨k, hk, rfl, hrow, hB⟩ := hrel
    have hsz := hB.size
    have HB := Lib.hid hB
    obtain ⟨a1, c1, rfl, hd1, hd2⟩ := row_shape hrow
    have Hrow := Lib.hid hrow
    clear hrow hB
    by_cases hlt : k < es.length
    · obtain ⟨b, o, rfl, _, hbl, hxx⟩ := HE.out.cell_ hlt
      have x0 := (HB.out.cell (p := ⟨b, _, none⟩) hbl).trans (hxx 0 _ rfl)
      have x1 := (HB.out.cell (p := ⟨b, _, none⟩) hbl).trans (hxx 1 _ rfl)
      simp only [Nat.add_zero] at x0
      clear hxx
      have hnews := World.news_of_block (cs := #[.string s, .int .i64 pos, .string es[k].kind, .string es[k].data]) (t := 167) (fr := (0, 0)) (heap_alloc_new wr _)
      have Hnews := Lib.hid hnews
      clear hnews
      go_wp2_with (at_builtin; refine wpList_append_own _ rfl _ _ 146 rfl w.heap.size 167 i0 _ 4 56 Tryz.underlying146 hi0 hz0 hz1 hz2 rfl (by decide) _ _ _ rfl (Hrow.out.alloc _) ⟨wr.heap.size, 0, none⟩ 1 1 [.string s, .int .i64 pos, .string es[k].kind, .string es[k].data] rfl rfl Hnews.out (by simp [Value.oneCell']) (by unfold maxLen; omega) (by omega) (by simp; omega) ?_; intro v' w1 hown' hgrow _; have Hown := Lib.hid hown'; clear hown')
      go_roundw
      case rel =>
        refine ⟨k + 1, by omega, by go_num, ?_, ?_⟩
        · rw [List.take_succ_eq_append_getElem hlt, List.map_append, ← List.append_assoc, List.flatMap_append]
          exact Hown.out
        · exact (HB.out.alloc hsz _).grown hgrow (by simp; omega) (fun q hq => (Hrow.out.lt q hq).1)
      case measure => simp [intOf]; omega
    · have hkd : k = es.length := by omega
      subst hkd
      have hblk : wr.heap[p]? = some (.cells #[.slice A L.length c] 148 (0, 0)) := (HB.out.block p hp).trans H1.out
      have hcp : wr.cell? ⟨p, 0, none⟩ = some (.slice A L.length c) := cell_of_row wr p 0 _ _ _ hblk
      have hfr : wr.frozen? ⟨p, 0, none⟩ = false := by simp [World.frozen?, hblk]
      have HBL := Lib.hid hblk
      clear hblk
      go_wp2_with fail
      go_ret
      have h := Hrow.out
      have hblk := HBL.out
      have hsize : (wr.setCell ⟨p, 0, none⟩ (.slice a1 (L.length + es.length) c1)).heap.size = wr.heap.size := by simp [World.setCell]
      have hkk : Keeps (fun q => q = p) wr (wr.setCell ⟨p, 0, none⟩ (.slice a1 (L.length + es.length) c1)) := Keeps.setCell (p := ⟨p, 0, none⟩) (Keeps.refl (fun q => q = p) wr) (fun _ => rfl) _
      have hrows : Sl wr (fun q => (Value.slice a1 (L.length + es.length) c1).ownBlock = some q) 4 onec (.slice a1 (L.length + es.length) c1) (L ++ es.map (mkOne s pos)) := by
        rw [List.take_of_length_le (Nat.le_refl _)] at h
        have := Sl.of_own (enc := onec) (l := L ++ es.map (mkOne s pos)) (v := .slice a1 (L.length + es.length) c1) (fun _ => rfl) (base := w.heap.size) (e := 167) (w := wr) (by simpa using h)
        exact this
      refine ⟨rfl, (Keeps.of_fresh HB.out _).andThen hkk (fun _ _ => id), .slice a1 (L.length + es.length) c1, ?_, ?_, .inl HF.out, ?_⟩
      · simp [World.setCell, Array.getElem?_modify, hblk]
      · refine (hrows.keep hkk (fun q _ hq hx => ?_)).mono (fun q hq hv => .inr ⟨(h.lt q hv).1, hq⟩)
        subst hx
        have := (h.lt q hq).1
        omega
      · rw [hsize]
        intro q hq
        rcases hq with hq | hq
        · have := HLT.out q hq; omega
        · exact hq.2
end Go.Proofs.YthebmbhdlkldiaaGreatDoor.Idx

namespace Go.Proofs.YthebmbhdlkldiaaGreatDoor.Idx
open Go.RowKit Go.Bl

/-! ### the document's Names -/
def ltB (a b : ByteArray) : Bool := Op.bytesLess a.toList b.toList
theorem ltB_iff {a b : ByteArray} : ltB a b = true ↔ bLt a b := Iff.rfl
/-- How many of the texts stand ahead of s. -/
def ahead : List ByteArray → ByteArray → Nat
  | [], _ => 0
  | x :: ks, s => if ltB x s then ahead ks s + 1 else 0
def insName (ks : List ByteArray) (s : ByteArray) : List ByteArray := if ks[ahead ks s]? = some s then ks else ks.take (ahead ks s) ++ [s] ++ ks.drop (ahead ks s)
def namesOf (L : List One) : List ByteArray := L.foldl (fun ks o => insName ks o.stream) []
theorem namesOf_snoc (L : List One) (o : One) : namesOf (L ++ [o]) = insName (namesOf L) o.stream := by simp [namesOf]

theorem bLt_trans {a b c : ByteArray} (h : bLt a b) (k : bLt b c) : bLt a c := by rw [bLt_iff] at *; exact List.lt_trans h k
theorem bLt_irrefl (a : ByteArray) : ¬ bLt a a := by rw [bLt_iff]; exact List.lt_irrefl _
theorem bLt_total {a b : ByteArray} (h : a ≠ b) : bLt a b ∨ bLt b a := by
  rw [bLt_iff, bLt_iff]
  rcases List.le_total a.toList b.toList with h1 | h1
  · rcases List.le_iff_lt_or_eq.1 h1 with h2 | h2
    · exact .inl h2
    · exact absurd ((bytes_inj a b).mp h2) h
  · rcases List.le_iff_lt_or_eq.1 h1 with h2 | h2
    · exact .inr h2
    · exact absurd ((bytes_inj b a).mp h2).symm h

theorem ahead_le : ∀ (ks : List ByteArray) (s : ByteArray), ahead ks s ≤ ks.length
  | [], _ => Nat.le_refl _
  | x :: ks, s => by
    unfold ahead
    split
    · have := ahead_le ks s; simp only [List.length_cons]; omega
    · simp
theorem ahead_eq : ∀ {ks : List ByteArray} {s : ByteArray} {j : Nat}, j ≤ ks.length → (∀ i x, i < j → ks[i]? = some x → bLt x s) → (∀ x, ks[j]? = some x → ¬ bLt x s) → ahead ks s = j
  | [], s, j, hj, _, _ => by simp at hj; simp [ahead, hj]
  | x :: ks, s, 0, _, _, h2 => by
    have hx : ltB x s = false := by cases hb : ltB x s; rfl; exact absurd (ltB_iff.1 hb) (h2 x rfl)
    simp [ahead, hx]
  | x :: ks, s, j + 1, hj, h1, h2 => by
    have hx : ltB x s = true := ltB_iff.2 (h1 0 x (by omega) rfl)
    unfold ahead
    rw [if_pos hx, ahead_eq (j := j) (by simpa using hj) (fun i y hi hy => h1 (i + 1) y (by omega) (by simpa using hy)) (fun y hy => h2 y (by simpa using hy))]
theorem take_ahead_lt : ∀ (ks : List ByteArray) (s : ByteArray), ∀ x ∈ ks.take (ahead ks s), bLt x s
  | [], _, x, hx => by simp at hx
  | y :: ks, s, x, hx => by
    unfold ahead at hx
    split at hx
    · rename_i hy
      rw [List.take_succ_cons] at hx
      rcases List.mem_cons.1 hx with rfl | hx
      · exact ltB_iff.1 hy
      · exact take_ahead_lt ks s x hx
    · simp at hx
theorem at_ahead : ∀ {ks : List ByteArray} {s : ByteArray} (h : ahead ks s < ks.length), ¬ bLt ks[ahead ks s] s
  | [], _, h => by simp at h
  | y :: ks, s, h => by
    by_cases hy : ltB y s = true
    · have e : ahead (y :: ks) s = ahead ks s + 1 := by simp [ahead, hy]
      have h' : ahead ks s < ks.length := by rw [e] at h; simpa using h
      have := at_ahead h'
      simpa [e] using this
    · have e : ahead (y :: ks) s = 0 := by simp [ahead, hy]
      simp only [e, List.getElem_cons_zero]
      exact fun hb => hy (ltB_iff.2 hb)

theorem rising_ins {ks : List ByteArray} (s : ByteArray) (h : Rising ks) : Rising (insName ks s) ∧ ∀ x, x ∈ insName ks s ↔ x = s ∨ x ∈ ks := by
  unfold insName
  split
  · rename_i he
    refine ⟨h, fun x => ⟨.inr, ?_⟩⟩
    rintro (rfl | hx)
    · exact List.mem_of_getElem? he
    · exact hx
  · rename_i he
    have hsplit := List.take_append_drop (ahead ks s) ks
    have hr : (ks.take (ahead ks s) ++ ks.drop (ahead ks s)).Pairwise bLt := by rw [hsplit]; exact h
    obtain ⟨q1, q2, q3⟩ := List.pairwise_append.1 hr
    have hd : ∀ x ∈ ks.drop (ahead ks s), bLt s x := by
      intro x hx
      by_cases hlt : ahead ks s < ks.length
      · rw [List.drop_eq_getElem_cons hlt] at hx q2
        have hne : s ≠ ks[ahead ks s] := fun e => he (by rw [List.getElem?_eq_getElem hlt, ← e])
        have h0 : bLt s ks[ahead ks s] := (bLt_total hne).resolve_right (at_ahead hlt)
        rcases List.mem_cons.1 hx with rfl | hx
        · exact h0
        · exact bLt_trans h0 ((List.pairwise_cons.1 q2).1 x hx)
      · rw [List.drop_eq_nil_of_le (by omega)] at hx; cases hx
    refine ⟨?_, fun x => ?_⟩
    · refine List.pairwise_append.2 ⟨List.pairwise_append.2 ⟨q1, by simp, fun a ha b hb => ?_⟩, q2, fun a ha b hb => ?_⟩
      · simp at hb; subst hb; exact take_ahead_lt ks b a ha
      · rcases List.mem_append.1 ha with ha | ha
        · exact q3 a ha b hb
        · simp at ha; subst ha; exact hd b hb
    · rw [List.mem_append, List.mem_append, List.mem_singleton]
      conv => rhs; rw [← hsplit, List.mem_append]
      constructor
      · rintro ((h | h) | h)
        · exact .inr (.inl h)
        · exact .inl h
        · exact .inr (.inr h)
      · rintro (h | h | h)
        · exact .inl (.inr h)
        · exact .inl (.inl h)
        · exact .inr h

theorem namesOf_from : ∀ (L M : List One) (ks : List ByteArray), Rising ks → (∀ s, s ∈ ks ↔ ofS M s ≠ []) → Rising (L.foldl (fun ks o => insName ks o.stream) ks) ∧ ∀ s, s ∈ L.foldl (fun ks o => insName ks o.stream) ks ↔ ofS (M ++ L) s ≠ []
  | [], M, ks, h1, h2 => by simpa using ⟨h1, h2⟩
  | o :: L, M, ks, h1, h2 => by
    obtain ⟨q1, q2⟩ := rising_ins o.stream h1
    have := namesOf_from L (M ++ [o]) (insName ks o.stream) q1 (fun s => by
      rw [q2, h2, ofS_snoc]
      by_cases h : o.stream = s
      · simp [h]
      · simp [h, Ne.symm h])
    simpa using this
theorem namesOf_spec (L : List One) : Rising (namesOf L) ∧ ∀ s, s ∈ namesOf L ↔ ofS L s ≠ [] := by
  have := namesOf_from L [] [] List.Pairwise.nil (fun s => by simp [ofS])
  simpa [namesOf] using this
theorem rising_ext : ∀ {xs ys : List ByteArray}, Rising xs → Rising ys → (∀ s, s ∈ xs ↔ s ∈ ys) → xs = ys
  | [], [], _, _, _ => rfl
  | [], y :: ys, _, _, h => absurd ((h y).2 (by simp)) (by simp)
  | x :: xs, [], _, _, h => absurd ((h x).1 (by simp)) (by simp)
  | x :: xs, y :: ys, hx, hy, h => by
    obtain ⟨a1, a2⟩ := List.pairwise_cons.1 hx
    obtain ⟨b1, b2⟩ := List.pairwise_cons.1 hy
    have e : x = y := by
      rcases List.mem_cons.1 ((h x).1 (by simp)) with e | e
      · exact e
      · rcases List.mem_cons.1 ((h y).2 (by simp)) with e' | e'
        · exact e'.symm
        · exact absurd (bLt_trans (a1 y e') (b1 x e)) (bLt_irrefl x)
    subst e
    rw [rising_ext a2 b2 (fun s => ?_)]
    have := h s
    rw [List.mem_cons, List.mem_cons] at this
    constructor
    · intro hs
      rcases this.1 (.inr hs) with e | e
      · subst e; exact absurd (a1 s hs) (bLt_irrefl s)
      · exact e
    · intro hs
      rcases this.2 (.inr hs) with e | e
      · subst e; exact absurd (b1 s hs) (bLt_irrefl s)
      · exact e
end Go.Proofs.YthebmbhdlkldiaaGreatDoor.Idx
