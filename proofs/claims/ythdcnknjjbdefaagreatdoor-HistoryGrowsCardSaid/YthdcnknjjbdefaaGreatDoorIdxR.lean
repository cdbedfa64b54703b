/- The document's index (a row of all events): Version, Pos, Range, Add. -/
import Derived.Test.YthdcnknjjbdefaaGreatDoorIdxD
import Derived.Test.YthdcnknjjbdefaaGreatDoorIdxC
namespace Go.Proofs.YthdcnknjjbdefaaGreatDoor.Idx
open Go.RowKit Go.Bl

def onec (o : One) : List Value := [.string o.stream, .int .i64 o.pos, .string o.e.kind, .string o.e.data]
/-- Block p of w is the document's index of the events L. -/
def RefAt (w : World) (p : Nat) (L : List One) (F : Nat → Prop) : Prop :=
  ∃ v, w.heap[p]? = some (.cells #[v] 78 (0, 0)) ∧ Sl w F 4 onec v L ∧ F p ∧ ∀ k, F k → k < w.heap.size
theorem RefAt.keep {w w' : World} {p : Nat} {L : List One} {F G : Nat → Prop} (h : RefAt w p L F) (hk : Keeps G w w') (hd : ∀ k, F k → ¬ G k) : RefAt w' p L F := by
  obtain ⟨v, h1, h2, h3, h4⟩ := h
  exact ⟨v, hk.grownTo h1 (hd _ h3), h2.keep hk (fun k _ hF => hd k hF), h3, fun k hF => Nat.lt_of_lt_of_le (h4 k hF) hk.size⟩
theorem RefAt.fresh {w w' : World} {p : Nat} {L : List One} {F : Nat → Prop} (h : RefAt w p L F) (hk : Below w.heap.size w w') : RefAt w' p L F :=
  h.keep (Keeps.of_fresh hk fun _ => False) (fun _ _ => id)
theorem RefAt.drewN {w : World} {p : Nat} {L : List One} {F : Nat → Prop} (h : RefAt w p L F) (n : Nat) : RefAt (w.drewN n) p L F := h.keep (G := fun _ => False) ((Keeps.refl _ _).drewN n) (fun _ _ => id)
theorem RefAt.drew {w : World} {p : Nat} {L : List One} {F : Nat → Prop} (h : RefAt w p L F) : RefAt w.drew p L F := h.keep (G := fun _ => False) ((Keeps.refl _ _).drew) (fun _ _ => id)

theorem ofS_snoc (L : List One) (o : One) (s : ByteArray) : ofS (L ++ [o]) s = if o.stream = s then ofS L s ++ [o.kp] else ofS L s := by
  rw [ofS_append]
  by_cases h : o.stream = s <;> simp [ofS, h]
theorem ofS_take_succ (L : List One) (s : ByteArray) {k : Nat} (hk : k < L.length) : ofS (L.take (k + 1)) s = if L[k].stream = s then ofS (L.take k) s ++ [L[k].kp] else ofS (L.take k) s := by
  rw [List.take_succ_eq_append_getElem hk, ofS_snoc]
theorem eqS_true {a b : ByteArray} (h : a = b) : (a.toList == b.toList) = true := by subst h; simp
theorem eqS_false {a b : ByteArray} (h : a ≠ b) : (a.toList == b.toList) = false := by
  rw [beq_eq_false_iff_ne]; intro e; exact h ((bytes_inj a b).mp e)

set_option maxHeartbeats 400000 in
theorem rversion_any (w : World) (p : Nat) (L : List One) (F : Nat → Prop) (h : RefAt w p L F) (s : ByteArray) (_hb : L.length ≤ 1073741824) :
    Calls Tryz.prog 18 #[.pointer (some ⟨p, 0, none⟩), .string s] w fun e w' => e = .returned (.int .i64 (ofS L s).length) ∧ w = w' := by
  obtain ⟨v, h1, h2, -, -⟩ := h
  obtain ⟨A, c, rfl, hc1, hc2⟩ := h2.shape
  have c0 : w.cell? ⟨p, 0, none⟩ = some (.slice A L.length c) := cell_of_row w p 0 _ _ _ h1
  have HS := Lib.hid h2
  unfold maxLen at hc2
  clear h1 h2
  go_enter Tryz.func18, Tryz.ntmps18
  go_wp2_with fail
  go_loop [5, 6] (fun n i => ∃ k : Nat, k ≤ L.length ∧ i = .int .i64 k ∧ n = .int .i64 (ofS (L.take k) s).length) (fun _ i => L.length - (intOf i).toNat)
  case atStart => exact ⟨0, Nat.zero_le _, rfl, rfl⟩
  case round =>
    obtain ⟨k, hk, rfl, rfl⟩ := hrel
    have hle := ofS_le (L.take k) s
    rw [List.length_take] at hle
    by_cases hlt : k < L.length
    · obtain ⟨b, o, rfl, _, _, hxx⟩ := HS.out.cell_ hlt
      have x0 := hxx 0 _ rfl
      simp only [Nat.add_zero] at x0
      clear hxx
      have hsn := Lib.hid (ofS_take_succ L s hlt)
      by_cases he : L[k].stream = s
      · have hd := eqS_true he
        have HE := Lib.hid he
        clear he
        go_wp2_with fail
        go_round
        case rel => exact ⟨k + 1, by omega, by go_num, by rw [hsn.out, if_pos HE.out]; simp⟩
        case measure => simp [intOf]; omega
      · have hd := eqS_false he
        have HE := Lib.hid he
        clear he
        go_wp2_with fail
        go_round
        case rel => exact ⟨k + 1, by omega, by go_num, by rw [hsn.out, if_neg HE.out]⟩
        case measure => simp [intOf]; omega
    · have hkd : k = L.length := by omega
      subst hkd
      go_wp2_with fail
      go_ret
      exact ⟨rfl, rfl⟩

theorem posOf_none {l : List Kp} {n : Int} (h : n < 1 ∨ (l.length : Int) < n) : posOf l n = 0 := by unfold posOf; rw [if_pos h]

def rangeOf (l : List Kp) (fr most : Int) : List Ev := ((l.drop (max fr 1 - 1).toNat).take most.toNat).map Kp.e

/-- One event more: what a range tells then. -/
theorem rangeOf_snoc (l : List Kp) (x : Kp) (fr most : Int) :
    rangeOf (l ++ [x]) fr most = if fr ≤ (l.length : Int) + 1 ∧ ((rangeOf l fr most).length : Int) < most then rangeOf l fr most ++ [x.e] else rangeOf l fr most := by
  unfold rangeOf
  have hm : (max fr 1 - 1).toNat ≤ l.length ↔ fr ≤ (l.length : Int) + 1 := by omega
  by_cases h1 : (max fr 1 - 1).toNat ≤ l.length
  · rw [List.drop_append_of_le_length h1]
    have hlen : ((l.drop (max fr 1 - 1).toNat).take most.toNat).length = min most.toNat (l.length - (max fr 1 - 1).toNat) := by simp
    by_cases h2 : ((((l.drop (max fr 1 - 1).toNat).take most.toNat).map Kp.e).length : Int) < most
    · rw [if_pos ⟨hm.1 h1, h2⟩]
      rw [List.length_map, hlen] at h2
      rw [List.take_of_length_le (by simp; omega), List.take_of_length_le (by simp; omega), List.map_append]
      rfl
    · rw [if_neg (fun h => h2 h.2)]
      rw [List.length_map, hlen] at h2
      rw [List.take_append_of_le_length (by simp; omega)]
  · rw [if_neg (fun h => h1 (hm.2 h.1)), List.drop_eq_nil_of_le (by simp; omega), List.drop_eq_nil_of_le (by omega)]

set_option maxHeartbeats 1000000 in
theorem rrange_any (w : World) (p : Nat) (L : List One) (F : Nat → Prop) (h : RefAt w p L F) (s : ByteArray) (fr most : Int) (hb : L.length ≤ 1073741824) :
    Calls Tryz.prog 34 #[.pointer (some ⟨p, 0, none⟩), .string s, .int .i64 fr, .int .i64 most] w fun e w' => ∃ v, e = .returned v ∧ Below w.heap.size w w' ∧ Sl w' (fun b => w.heap.size ≤ b) 2 evc v (rangeOf (ofS L s) fr most) := by
  obtain ⟨v, h1, h2, -, -⟩ := h
  obtain ⟨A, c, rfl, hc1, hc2⟩ := h2.shape
  have c0 : w.cell? ⟨p, 0, none⟩ = some (.slice A L.length c) := cell_of_row w p 0 _ _ _ h1
  have hp : p < w.heap.size := (Array.getElem?_eq_some_iff.1 h1).1
  have HS := Lib.hid h2
  unfold maxLen at hc2
  obtain ⟨i0, hi0, hz0, hz1, hz2⟩ := info_parts infoEv
  have C0 := Lib.hid c0
  clear h1 h2 c0
  go_enter Tryz.func34, Tryz.ntmps34
  go_wp2_with fail
  go_loopw [9, 10, 11] (fun v n i wr => ∃ k : Nat, k ≤ L.length ∧ i = .int .i64 k ∧ n = .int .i64 (ofS (L.take k) s).length ∧ wr.ownsRow w.heap.size 68 2 v (rangeOf (ofS (L.take k) s) fr most).length ((rangeOf (ofS (L.take k) s) fr most).flatMap evc) ∧ Below w.heap.size w wr) (fun _ _ i _ => L.length - (intOf i).toNat)
  case atStart => exact ⟨0, Nat.zero_le _, rfl, rfl, by simpa [ofS, rangeOf] using World.ownsRow_nil _ _ _ _, Below.refl _ _⟩
  case round =>
    obtain ⟨k, hk, rfl, rfl, hrow, hB⟩ := hrel
    have hle := ofS_le (L.take k) s
    rw [List.length_take] at hle
    have hsz := hB.size
    have c0 := (hB.cell (p := ⟨p, 0, none⟩) hp).trans C0.out
    have HB := Lib.hid hB
    obtain ⟨a1, c1, rfl, hd1, hd2⟩ := row_shape hrow
    have hrl : (rangeOf (ofS (L.take k) s) fr most).length ≤ (ofS (L.take k) s).length := by
      unfold rangeOf; simp; omega
    have Hrow := Lib.hid hrow
    clear hrow hB
    by_cases hlt : k < L.length
    · obtain ⟨b, o, rfl, _, hbl, hxx⟩ := HS.out.cell_ hlt
      have x0 := (HB.out.cell (p := ⟨b, _, none⟩) hbl).trans (hxx 0 _ rfl)
      have x2 := (HB.out.cell (p := ⟨b, _, none⟩) hbl).trans (hxx 2 _ rfl)
      have x3 := (HB.out.cell (p := ⟨b, _, none⟩) hbl).trans (hxx 3 _ rfl)
      simp only [Nat.add_zero] at x0
      clear hxx
      have hsn := Lib.hid (ofS_take_succ L s hlt)
      by_cases he : L[k].stream = s
      · have hd := eqS_true he
        have HE := Lib.hid he
        clear he
        have hro := rangeOf_snoc (ofS (L.take k) s) L[k].kp fr most
        have hro' := hsn.out
        rw [if_pos HE.out] at hro'
        rw [← hro'] at hro
        have HRO := Lib.hid hro
        have HRS := Lib.hid hro'
        clear hro hro'
        by_cases t1 : fr ≤ ((ofS (L.take k) s).length : Int) + 1
        · by_cases t2 : ((rangeOf (ofS (L.take k) s) fr most).length : Int) < most
          · have hnews := World.news_of_block (cs := #[.string L[k].e.kind, .string L[k].e.data]) (t := 68) (fr := (0, 0)) (heap_alloc_new wr _)
            have Hnews := Lib.hid hnews
            clear hnews
            go_wp2_with (at_builtin; refine wpList_append_own _ rfl _ _ 30 rfl w.heap.size 68 i0 _ 2 32 Tryz.underlying30 hi0 hz0 hz1 hz2 rfl (by decide) _ _ _ rfl (Hrow.out.alloc _) ⟨wr.heap.size, 0, none⟩ 1 1 [.string L[k].e.kind, .string L[k].e.data] rfl rfl Hnews.out (by simp [Value.oneCell']) (by unfold maxLen; omega) (by omega) (by simp; omega) ?_; intro v' w1 hown' hgrow _; have Hown := Lib.hid hown'; clear hown')
            go_roundw
            case rel =>
              refine ⟨k + 1, by omega, by go_num, by rw [HRS.out]; simp, ?_, ?_⟩
              · rw [HRO.out, if_pos ⟨t1, t2⟩, List.length_append, List.flatMap_append]
                exact Hown.out
              · exact (HB.out.alloc hsz _).grown hgrow (by simp; omega) (fun q hq => (Hrow.out.lt q hq).1)
            case measure => simp [intOf]; omega
          · have d1 : decide (fr ≤ ((ofS (L.take k) s).length : Int) + 1) = true := by simpa using t1
            go_wp2_with fail
            go_roundw
            case rel => exact ⟨k + 1, by omega, by go_num, by rw [HRS.out]; simp, by rw [HRO.out, if_neg (fun h => t2 h.2)]; exact Hrow.out, HB.out⟩
            case measure => simp [intOf]; omega
        · have d1 : decide (fr ≤ ((ofS (L.take k) s).length : Int) + 1) = false := by simpa using t1
          go_wp2_with fail
          go_roundw
          case rel => exact ⟨k + 1, by omega, by go_num, by rw [HRS.out]; simp, by rw [HRO.out, if_neg (fun h => t1 h.1)]; exact Hrow.out, HB.out⟩
          case measure => simp [intOf]; omega
      · have hd := eqS_false he
        have HE := Lib.hid he
        clear he
        go_wp2_with fail
        go_roundw
        case rel => exact ⟨k + 1, by omega, by go_num, by rw [hsn.out, if_neg HE.out], by rw [hsn.out, if_neg HE.out]; exact Hrow.out, HB.out⟩
        case measure => simp [intOf]; omega
    · have hkd : k = L.length := by omega
      subst hkd
      go_wp2_with fail
      go_ret
      have h := Hrow.out
      simp only [List.take_length] at h ⊢
      exact ⟨_, rfl, HB.out, (Sl.of_own (enc := evc) (fun _ => rfl) h).mono fun q hq hv => (h.lt q hv).1⟩

theorem infoOne : (Tryz.prog.info? 88).map (fun i => (i.zero, i.size, i.bytes)) = some (some (.agg #[.string ByteArray.empty, .int .i64 0, .string ByteArray.empty, .string ByteArray.empty]), 4, 56) := by kernel_rfl
theorem onec_one (x : One) (u : Value) (h : u ∈ onec x) : u.oneCell' = true := by
  simp only [onec, List.mem_cons, List.not_mem_nil, or_false] at h
  rcases h with rfl | rfl | rfl | rfl <;> rfl

set_option maxHeartbeats 1000000 in
theorem radd_any (w : World) (p : Nat) (L : List One) (F G : Nat → Prop) (h : RefAt w p L F) (pos : Int) (s : ByteArray) (ev : Value) (es : List Ev) (hes : Sl w G 2 evc ev es) (hb : L.length + es.length ≤ 1073741824) :
    Calls Tryz.prog 32 #[.pointer (some ⟨p, 0, none⟩), .int .i64 pos, .string s, ev] w fun e w' => e = .returned (.int .i64 (ofS L s).length) ∧ Keeps (fun q => q = p) w w' ∧
      RefAt w' p (L ++ es.map (mkOne s pos)) (fun k => F k ∨ (w.heap.size ≤ k ∧ k < w'.heap.size)) := by
  obtain ⟨Ae, ce, rfl, he1, he2⟩ := hes.shape
  have H := Lib.hid h
  have HE := Lib.hid hes
  obtain ⟨v, h1, h2, hF, hlt⟩ := h
  obtain ⟨A, c, rfl, hc1, hc2⟩ := h2.shape
  have c0 : w.cell? ⟨p, 0, none⟩ = some (.slice A L.length c) := cell_of_row w p 0 _ _ _ h1
  have hp : p < w.heap.size := (Array.getElem?_eq_some_iff.1 h1).1
  have HS := Lib.hid h2
  have HF := Lib.hid hF
  have HLT := Lib.hid hlt
  have H1 := Lib.hid h1
  unfold maxLen at hc2 he2
  obtain ⟨i0, hi0, hz0, hz1, hz2⟩ := info_parts infoOne
  clear h1 h2 hF hlt hes
  go_enter Tryz.func32, Tryz.ntmps32
  go_wp2_with fail
  refine (rversion_any w p L F H.out s (by omega)).mono ?_
  rintro e w1 ⟨rfl, rfl⟩
  have hown0 := World.ownsRow_made (base := w.heap.size) (e := 88) (size := 4) w #[] 0 (Nat.le_refl _) (Nat.zero_le _) rfl
  have Hown0 := Lib.hid hown0
  have HX := Lib.hid (HS.out.fresh ((Below.refl _ _).alloc (Nat.le_refl _) (.cells #[] 88)))
  clear hown0
  go_wp2_with (at_builtin; refine wpList_append_sl _ (by rfl) _ _ 76 (by rfl) w.heap.size 88 i0 _ 4 56 Tryz.underlying76 hi0 hz0 hz1 hz2 rfl (by decide) _ 0 [] (by rfl) Hown0.out _ onec (fun _ => rfl) onec_one _ L (by rfl) HX.out (by unfold maxLen; omega) (by omega) (by simp) ?_; intro v1 w1 hown1 hg1 hat1; have Hown1 := Lib.hid hown1; clear hown1)
  have hB1 : Below w.heap.size w w1 := ((Below.refl _ w).alloc (Nat.le_refl _) _).grown hg1 (by simp) (fun q hq => by simp [Value.ownBlock] at hq; omega)
  have HB1 := Lib.hid hB1
  clear hg1 hat1 hB1
  go_loopw [10, 11] (fun v i wr => ∃ k : Nat, k ≤ es.length ∧ i = .int .i64 k ∧ wr.ownsRow w.heap.size 88 4 v (L.length + k) ((L ++ (es.take k).map (mkOne s pos)).flatMap onec) ∧ Below w.heap.size w wr) (fun _ i _ => es.length - (intOf i).toNat)
  case atStart => exact ⟨0, Nat.zero_le _, rfl, by simpa using Hown1.out, HB1.out⟩
  case round =>
    obtain ⟨k, hk, rfl, hrow, hB⟩ := hrel
    have hsz := hB.size
    have HB := Lib.hid hB
    obtain ⟨a1, c1, rfl, hd1, hd2⟩ := row_shape hrow
    have Hrow := Lib.hid hrow
    clear hrow hB
    by_cases hlt : k < es.length
    · obtain ⟨b, o, rfl, _, hbl, hxx⟩ := HE.out.cell_ hlt
      have x0 := (HB.out.cell (p := ⟨b, _, none⟩) hbl).trans (hxx 0 _ rfl)
      have x1 := (HB.out.cell (p := ⟨b, _, none⟩) hbl).trans (hxx 1 _ rfl)
      simp only [Nat.add_zero] at x0
      clear hxx
      have hnews := World.news_of_block (cs := #[.string s, .int .i64 pos, .string es[k].kind, .string es[k].data]) (t := 88) (fr := (0, 0)) (heap_alloc_new wr _)
      have Hnews := Lib.hid hnews
      clear hnews
      go_wp2_with (at_builtin; refine wpList_append_own _ rfl _ _ 76 rfl w.heap.size 88 i0 _ 4 56 Tryz.underlying76 hi0 hz0 hz1 hz2 rfl (by decide) _ _ _ rfl (Hrow.out.alloc _) ⟨wr.heap.size, 0, none⟩ 1 1 [.string s, .int .i64 pos, .string es[k].kind, .string es[k].data] rfl rfl Hnews.out (by simp [Value.oneCell']) (by unfold maxLen; omega) (by omega) (by simp; omega) ?_; intro v' w1 hown' hgrow _; have Hown := Lib.hid hown'; clear hown')
      go_roundw
      case rel =>
        refine ⟨k + 1, by omega, by go_num, ?_, ?_⟩
        · rw [List.take_succ_eq_append_getElem hlt, List.map_append, ← List.append_assoc, List.flatMap_append]
          exact Hown.out
        · exact (HB.out.alloc hsz _).grown hgrow (by simp; omega) (fun q hq => (Hrow.out.lt q hq).1)
      case measure => simp [intOf]; omega
    · have hkd : k = es.length := by omega
      subst hkd
      have hblk : wr.heap[p]? = some (.cells #[.slice A L.length c] 78 (0, 0)) := (HB.out.block p hp).trans H1.out
      have hcp : wr.cell? ⟨p, 0, none⟩ = some (.slice A L.length c) := cell_of_row wr p 0 _ _ _ hblk
      have hfr : wr.frozen? ⟨p, 0, none⟩ = false := by simp [World.frozen?, hblk]
      have HBL := Lib.hid hblk
      clear hblk
      go_wp2_with fail
      go_ret
      have h := Hrow.out
      have hblk := HBL.out
      have hsize : (wr.setCell ⟨p, 0, none⟩ (.slice a1 (L.length + es.length) c1)).heap.size = wr.heap.size := by simp [World.setCell]
      have hkk : Keeps (fun q => q = p) wr (wr.setCell ⟨p, 0, none⟩ (.slice a1 (L.length + es.length) c1)) := Keeps.setCell (p := ⟨p, 0, none⟩) (Keeps.refl (fun q => q = p) wr) (fun _ => rfl) _
      have hrows : Sl wr (fun q => (Value.slice a1 (L.length + es.length) c1).ownBlock = some q) 4 onec (.slice a1 (L.length + es.length) c1) (L ++ es.map (mkOne s pos)) := by
        rw [List.take_of_length_le (Nat.le_refl _)] at h
        have := Sl.of_own (enc := onec) (l := L ++ es.map (mkOne s pos)) (v := .slice a1 (L.length + es.length) c1) (fun _ => rfl) (base := w.heap.size) (e := 88) (w := wr) (by simpa using h)
        exact this
      refine ⟨rfl, (Keeps.of_fresh HB.out _).andThen hkk (fun _ _ => id), .slice a1 (L.length + es.length) c1, ?_, ?_, .inl HF.out, ?_⟩
      · simp [World.setCell, Array.getElem?_modify, hblk]
      · refine (hrows.keep hkk (fun q _ hq hx => ?_)).mono (fun q hq hv => .inr ⟨(h.lt q hv).1, hq⟩)
        subst hx
        have := (h.lt q hq).1
        omega
      · rw [hsize]
        intro q hq
        rcases hq with hq | hq
        · have := HLT.out q hq; omega
        · exact hq.2
end Go.Proofs.YthdcnknjjbdefaaGreatDoor.Idx
