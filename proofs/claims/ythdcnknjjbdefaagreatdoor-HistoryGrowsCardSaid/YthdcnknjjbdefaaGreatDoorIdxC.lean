/- The index: Add. -/
import Derived.Test.YthdcnknjjbdefaaGreatDoorIdxB
import Derived.Deep.RegionHeld3
import Derived.Deep.DrawnRows
namespace Go.Proofs.YthdcnknjjbdefaaGreatDoor.Idx
open Go.RowKit Go.Bl
attribute [local go_sem ↓] Go.wp_at_zero Go.wp_at_succ

theorem infoKept : (Tryz.prog.info? 134).map (fun i => (i.zero, i.size, i.bytes)) = some (some (.agg #[.int .i64 0, .string ByteArray.empty, .string ByteArray.empty]), 3, 40) := by kernel_rfl

theorem IdxIn.bm_ne {w : World} {p : Nat} {L : List One} {ev : Int} {F : Nat → Prop} {bm : Nat} {V : ByteArray → Value} {n : Nat} (h : IdxIn w p L ev F bm V n) {s : ByteArray} (e : (V s).ownBlock = some bm) : False := by
  obtain ⟨D, ⟨es, clock, h1, _⟩, _⟩ := h.map
  obtain ⟨_, h2⟩ := h.rows s
  rcases h2 with ⟨h2, _⟩ | ⟨g, cap, cur, h2, _, h3, _⟩
  · rw [h2] at e; simp [Value.ownBlock] at e
  · rw [h2] at e
    simp [Value.ownBlock] at e
    subst e
    rw [h1] at h3
    simp at h3

theorem IdxIn.p_ne {w : World} {p : Nat} {L : List One} {ev : Int} {F : Nat → Prop} {bm : Nat} {V : ByteArray → Value} {n : Nat} (h : IdxIn w p L ev F bm V n) (e : p = bm) : False := by
  obtain ⟨D, ⟨es, clock, h1, _⟩, _⟩ := h.map
  have h2 := h.blk
  rw [e, h1] at h2
  simp at h2

def mkOne (s : ByteArray) (pos : Int) (e : Ev) : One := ⟨s, pos, e⟩

theorem ownsRow.keep {w w' : World} {G : Nat → Prop} {base : Nat} {e : TypeId} {k : Nat} {v : Value} {n : Nat} {xs : List Value} (h : w.ownsRow base e k v n xs) (hk : Keeps G w w') (hv : ∀ b, v.ownBlock = some b → ¬ G b) : w'.ownsRow base e k v n xs := by
  obtain ⟨h1, h2⟩ := h
  refine ⟨h1, ?_⟩
  rcases h2 with h2 | ⟨g, cap, cur, e1, e2, e3, e4⟩
  · exact .inl h2
  · exact .inr ⟨g, cap, cur, e1, e2, hk.grownTo e3 (hv g (by rw [e1]; rfl)), e4⟩

theorem ite_succ_le (c : Prop) [Decidable c] (n : Nat) : (if c then n else n + 1) ≤ n + 1 := by split <;> omega

/-- One event more: what the append and the store leave is an index again. -/
theorem IdxIn.add1 {wr w1 w2 : World} {p : Nat} {L1 : List One} {ev : Int} {F1 F2 : Nat → Prop} {bm : Nat} {V : ByteArray → Value} {n n2 m gg cap : Nat} {s : ByteArray} {pos : Int} {e : Ev} {xs : List Value}
    (h : IdxIn wr p L1 ev F1 bm V n) (hg1 : Keeps (fun q => (V s).ownBlock = some q) wr w1) (hm : (ofS L1 s).length = m) (hxs : (ofS L1 s).flatMap kpc = xs)
    (hown : w1.ownsRow 0 134 3 (.slice (some ⟨gg, 0, none⟩) (m + 1) cap) (m + 1) (xs ++ kpc ⟨pos, e⟩)) (hat : (V s).ownBlock = some gg ∨ wr.heap.size ≤ gg)
    (hmap : MapV w2 Tryz.prog 9 strLit bm n2 (fun y => if y = s then some (.slice (some ⟨gg, 0, none⟩) (m + 1) cap) else if ofS L1 y = [] then none else some (V y))) (hn2 : n2 ≤ n + 1)
    (hg2 : w1.grownBy w2 (some bm)) (hF : ∀ k, F1 k → F2 k) (hF2 : F2 gg) (hlt : ∀ k, F2 k → k < w2.heap.size) :
    IdxIn w2 p (L1 ++ [⟨s, pos, e⟩]) ev F2 bm (fun t => if t = s then .slice (some ⟨gg, 0, none⟩) (m + 1) cap else V t) n2 := by
  have hk2 := Keeps.of_grown hg2
  have hofs : ∀ t, ofS (L1 ++ [⟨s, pos, e⟩]) t = if t = s then ofS L1 t ++ [(⟨pos, e⟩ : Kp)] else ofS L1 t := by
    intro t
    rw [ofS_append]
    by_cases ht : t = s
    · subst ht; simp [ofS, One.kp]
    · simp [ofS, ht, Ne.symm ht]
  have hpn : ¬ (V s).ownBlock = some p := fun x => by
    obtain ⟨_, h2⟩ := h.rows s
    rcases h2 with ⟨h2, _⟩ | ⟨g, c, cur, h2, _, h3, _⟩
    · rw [h2] at x; simp [Value.ownBlock] at x
    · rw [h2] at x
      simp [Value.ownBlock] at x
      subst x
      rw [h.blk] at h3
      simp at h3
  have hggp : ∀ t, t ≠ s → (V t).ownBlock ≠ some gg := by
    intro t ht hx
    rcases hat with hat | hat
    · exact ht (h.apart t s gg hx hat)
    · have := (h.rows t).lt gg hx
      omega
  refine ⟨?_, ?_, ?_, ?_, ?_, ?_, hF _ h.fp, hF _ h.fm, ?_, hlt⟩
  · exact hk2.grownTo (hg1.grownTo h.blk hpn) (fun x => h.p_ne (by simpa using x.symm))
  · have hg : (fun t => if ofS (L1 ++ [⟨s, pos, e⟩]) t = [] then none else some (if t = s then Value.slice (some ⟨gg, 0, none⟩) (m + 1) cap else V t)) =
        (fun y => if y = s then some (.slice (some ⟨gg, 0, none⟩) (m + 1) cap) else if ofS L1 y = [] then none else some (V y)) := by
      funext t
      rw [hofs]
      by_cases ht : t = s <;> simp [ht]
    rw [hg]
    exact hmap
  · have := h.le
    simp only [List.length_append, List.length_cons, List.length_nil]
    omega
  · intro t
    rw [hofs]
    by_cases ht : t = s
    · subst ht
      simp only [if_true]
      have h1 : (ofS L1 t ++ [(⟨pos, e⟩ : Kp)]).length = m + 1 := by simp [hm]
      rw [h1, List.flatMap_append, hxs]
      have : w2.ownsRow 0 134 3 (.slice (some ⟨gg, 0, none⟩) (m + 1) cap) (m + 1) (xs ++ kpc ⟨pos, e⟩) := ownsRow.keep hown hk2 (fun b hb hx => by
        obtain ⟨D, ⟨es, clock, q1, _⟩, _⟩ := hmap
        obtain ⟨_, q2⟩ := hown
        rcases q2 with ⟨q2, _⟩ | ⟨g, c, cur, q2, _, q3, _⟩
        · simp at q2
        · injection q2 with q2
          injection q2 with q2
          simp [Value.ownBlock] at hb
          injection q2 with q2
          subst q2 hb
          have hbm := (h.map).lt
          simp at hx
          subst hx
          rcases hat with hat | hat
          · exact h.bm_ne hat
          · omega)
      simpa using this
    · simp only [if_neg ht]
      refine ownsRow.keep (ownsRow.keep (h.rows t) hg1 (fun b hb hx => ht (h.apart t s b hb hx))) hk2 (fun b hb hx => ?_)
      simp at hx
      subst hx
      exact h.bm_ne hb
  · intro t ht
    rw [hofs] at ht
    by_cases hts : t = s
    · simp [hts] at ht
    · simp only [if_neg hts] at ht ⊢
      exact h.nil t ht
  · intro t u b
    by_cases ht : t = s <;> by_cases hu : u = s
    · intros; rw [ht, hu]
    · simp only [if_pos ht, if_neg hu, Value.ownBlock, Option.some.injEq]
      intro hb hx
      subst hb
      exact absurd hx (hggp u hu)
    · simp only [if_pos hu, if_neg ht, Value.ownBlock, Option.some.injEq]
      intro hx hb
      subst hb
      exact absurd hx (hggp t ht)
    · simp only [if_neg hu, if_neg ht]
      exact h.apart t u b
  · intro t b
    by_cases ht : t = s
    · simp only [if_pos ht, Value.ownBlock, Option.some.injEq]
      intro hb; subst hb; exact hF2
    · simp only [if_neg ht]
      exact fun hb => hF _ (h.fv t b hb)

set_option maxRecDepth 8000 in
set_option maxHeartbeats 400000 in
theorem add_any (w : World) (p : Nat) (L : List One) (F G : Nat → Prop) (h : IdxAt w p L F) (pos : Int) (s : ByteArray) (ev : Value) (es : List Ev) (hes : Sl w G 2 evc ev es) (hG : ∀ b, G b → ¬ F b)
    (hs : s.size ≤ maxLen) (hb : L.length + es.length ≤ 1073741824) :
    Calls Tryz.prog 76 #[.pointer (some ⟨p, 0, none⟩), .int .i64 pos, .string s, ev] w fun e w' => e = .returned (.int .i64 (ofS L s).length) ∧ Keeps F w w' ∧
      IdxAt w' p (L ++ es.map (mkOne s pos)) (fun k => F k ∨ (w.heap.size ≤ k ∧ k < w'.heap.size)) := by
  obtain ⟨bm, V, n, h⟩ := h
  have c0 := h.c0
  have hl := h.look s hs
  obtain ⟨a0, cc0, hv0, _⟩ := row_shape (h.rows s)
  rw [hv0] at hl
  obtain ⟨A, c, rfl, h1, h2⟩ := hes.shape
  have H := Lib.hid h
  have HE := Lib.hid hes
  clear h hes hv0
  unfold maxLen at h2
  go_enter Tryz.func76, Tryz.ntmps76
  go_wp2_with fail
  clear hl c0
  obtain ⟨i0, hi0, hz0, hz1, hz2⟩ := info_parts infoKept
  go_loopw [21] (fun i wr => ∃ (k : Nat) (V : ByteArray → Value) (n : Nat), k ≤ es.length ∧ i = .int .i64 k ∧ IdxIn wr p (L ++ (es.take k).map (mkOne s pos)) L.length (fun k => F k ∨ (w.heap.size ≤ k ∧ k < wr.heap.size)) bm V n ∧ Keeps F w wr) (fun i _ => es.length - (intOf i).toNat)
  case atStart =>
    refine ⟨0, V, n, Nat.zero_le _, rfl, ?_, Keeps.refl _ _⟩
    have := H.out
    simp only [List.take_zero, List.map_nil, List.append_nil]
    exact ⟨this.blk, this.map, this.le, this.rows, this.nil, this.apart, .inl this.fp, .inl this.fm, fun s b h => .inl (this.fv s b h), fun k hk => by rcases hk with hk | hk; exact this.lt k hk; exact hk.2⟩
  case round =>
    obtain ⟨k, V', n', hk, rfl, hI, hK⟩ := hrel
    have HI := Lib.hid hI
    clear hI
    by_cases hlt : k < es.length
    · obtain ⟨b, o, rfl, hGb, hbl, hc⟩ := HE.out.cell_ hlt
      have e0 := (hK.cell (a := ⟨b, _, none⟩) hbl (hG b hGb)).trans (hc 0 _ rfl)
      have e1 := (hK.cell (a := ⟨b, _, none⟩) hbl (hG b hGb)).trans (hc 1 _ rfl)
      simp only [Nat.add_zero] at e0
      clear hc
      have hrow := HI.out.rows s
      have hpn := HI.out.fp
      have hbmlt := HI.out.map.lt
      have hplt := HI.out.lt p hpn
      have hlen : (ofS (L ++ (es.take k).map (mkOne s pos)) s).length ≤ 1073741824 := by
        have := ofS_le (L ++ (es.take k).map (mkOne s pos)) s
        simp only [List.length_append, List.length_map, List.length_take] at this
        omega
      generalize hm : (ofS (L ++ (es.take k).map (mkOne s pos)) s).length = m at hrow hlen
      generalize hxs : (ofS (L ++ (es.take k).map (mkOne s pos)) s).flatMap kpc = xs at hrow
      obtain ⟨a1, c1, hv1, _⟩ := row_shape hrow
      have hvb : (V' s).ownBlock ≠ some wr.heap.size := fun e => by have := (hrow.lt _ e).2; omega
      have hvp : (V' s).ownBlock ≠ some p := fun e => by
        obtain ⟨_, h2⟩ := hrow
        rcases h2 with ⟨h2, _⟩ | ⟨g, cap, cur, h2, _, h3, _⟩
        · rw [h2] at e; simp [Value.ownBlock] at e
        · rw [h2] at e
          simp [Value.ownBlock] at e
          subst e
          rw [HI.out.blk] at h3
          simp at h3
      have hlk : ∀ (x : World), Keeps (fun _ => False) wr x → (Instr.lookup 125 (.map (some bm)) (.string s) false).run Tryz.prog x = .ok (V' s) x := fun x hx => (HI.out.keep hx fun _ _ => id).look s hs
      rw [hv1] at hrow hlk hvb hvp
      have hcp := HI.out.c0
      have hpbm : some p ≠ some bm := fun e => HI.out.p_ne (by simpa using e)
      have hzbm : some wr.heap.size ≠ some bm := by simp; omega
      have HV1 := Lib.hid hv1
      have HM := Lib.hid hm
      have HX := Lib.hid hxs
      clear hm hxs hv1
      have hlk0 : (Instr.lookup 125 (.map (some bm)) (.string s) false).run Tryz.prog (wr.alloc (.cells #[.string es[k].kind, .string es[k].data] 68)).drew = .ok (.slice a1 m c1) _ := hlk _ (((Keeps.refl _ _).alloc _).drew)
      have hlk1 : ∀ o, (Instr.lookup 125 (.map (some bm)) (.string s) false).run Tryz.prog ((wr.alloc (.cells #[.string es[k].kind, .string es[k].data] 68)).alloc o).drew = .ok (.slice a1 m c1) _ := fun o => hlk _ ((((Keeps.refl _ _).alloc _).alloc _).drew)
      have HLK := Lib.hid hlk
      have Hrow := Lib.hid hrow
      have hnews := World.news_of_block (cs := #[.int .i64 pos, .string es[k].kind, .string es[k].data]) (t := 134) (fr := (0, 0)) (heap_alloc_new (wr.alloc (.cells #[.string es[k].kind, .string es[k].data] 68)) _)
      rw [World.size_alloc] at hnews
      have Hnews := Lib.hid hnews
      clear hlk hrow hnews
      have hc2 : (wr.alloc (.cells #[.string es[k].kind, .string es[k].data] 68)).cell? ⟨wr.heap.size, 0, none⟩ = some (.string es[k].kind) := by go_simp
      go_wp2_with fail
      go_region_held3 (fun x => x.cell? ⟨p, 0, none⟩ = some (.map (some bm)) ∧ x.cell? ⟨wr.heap.size, 0, none⟩ = some (.string es[k].kind) ∧ x.cell? ⟨wr.heap.size, 1, none⟩ = some (.string es[k].data))
        (first | go_keep | (go_split_ands; refine ⟨hgr2.cell ?_ hpbm, hgr2.cell ?_ hzbm, hgr2.cell ?_ hzbm⟩ <;> assumption) | (go_split_ands; refine ⟨hgrow.cell ?_ ?_, hgrow.cell ?_ ?_, hgrow.cell ?_ ?_⟩ <;> first | assumption | exact Ne.symm hvp | exact Ne.symm hvb))
        (first
          | (obtain ⟨w2, hrun, hmap2, hgr2, hsz2, hdr2⟩ := MapV.store (HI.out.map.keep (((((Keeps.refl (fun q => (Value.slice a1 m c1).ownBlock = some q) wr).alloc _).alloc _).drew).grown hgrow (fun q hq _ => hq)) (fun hq => (HI.out.bm_ne (by rw [HV1.out]; exact hq)))) law strLit_inj Tryz.underlying125 (by have := HI.out.le; simp at this; unfold maxLen; omega) (key_ok s hs) (.slice (some ⟨gg, 0, none⟩) (m + 1) cap)
             rw [hrun]
             go_simp)
          | (refine step_append_lies _ (by rfl) _ _ 131 (by rfl) 0 134 i0 _ 3 40 Tryz.underlying131 hi0 hz0 hz1 hz2 rfl (by omega) (.slice a1 m c1) m xs (by rfl) (((Hrow.out.alloc _).alloc _).drew) ⟨wr.heap.size + 1, 0, none⟩ 1 1 [.int .i64 pos, .string es[k].kind, .string es[k].data] (by rfl) (by rfl) Hnews.out (by simp [Value.oneCell']) (by omega) (by unfold maxLen; omega) (by omega) (Nat.zero_le _) (wr.heap.size + 1 + 1) (by simp) ?_; intro gg cap w1 hown1 hgrow hat hglt))
      all_goals go_wp2_with fail
      all_goals
        go_roundw
        case measure => simp [intOf]; omega
        case rel =>
          have hg1 : Keeps (fun q => (V' s).ownBlock = some q) wr w1 := by
            rw [HV1.out]
            exact ((((Keeps.refl _ _).alloc _).alloc _).drew).grown hgrow (fun q hq _ => hq)
          have hle1 : wr.heap.size ≤ w1.heap.size := hg1.size
          have hI2 := HI.out.add1 (e := es[k]) (F2 := fun q => F q ∨ (w.heap.size ≤ q ∧ q < w2.heap.size)) hg1 HM.out HX.out hown1 (by rw [HV1.out]; rcases hat with x | x; exact .inl x; exact .inr (by omega)) hmap2 (ite_succ_le _ _) hgr2
            (fun q hq => hq.imp id (fun x => ⟨x.1, by omega⟩)) (by
              rcases hat with x | x
              · rcases HI.out.fv s gg (by rw [HV1.out]; exact x) with y | y
                · exact .inl y
                · exact .inr ⟨y.1, by omega⟩
              · exact .inr ⟨by have := hK.size; omega, by omega⟩) (fun q hq => by
              rcases hq with x | x
              · have := H.out.lt q x; have := hK.size; omega
              · exact x.2)
          rw [List.append_assoc, show (es.take k).map (mkOne s pos) ++ [(⟨s, pos, es[k]⟩ : One)] = (es.take (k + 1)).map (mkOne s pos) by rw [List.take_succ_eq_append_getElem hlt, List.map_append]; rfl] at hI2
          have hK2 : Keeps F w w2 := by
            refine (hK.andThen hg1 ?_).andThen (Keeps.of_grown hgr2) ?_
            · intro q hq hx
              rcases HI.out.fv s q hx with y | y
              · exact y
              · omega
            · intro q hq hx
              injection hx with hx
              subst hx
              rcases HI.out.fm with y | y
              · exact y
              · omega
          exact ⟨k + 1, _, _, by omega, by go_num, hI2, hK2⟩
    · have hkd : k = es.length := by omega
      subst hkd
      have hcp := HI.out.c1
      have hfr : wr.frozen? ⟨p, 1, none⟩ = false := by have := HI.out.blk; simp [World.frozen?, this]
      go_wp2_with fail
      go_ret
      have hI := HI.out
      rw [List.take_of_length_le (Nat.le_refl _)] at hI
      refine ⟨rfl, hK.setCell (fun hq => by rcases hI.fp with y | y; exact y; exact absurd hq (by simp; omega)) _, bm, V', n', ?_⟩
      have hblk := hI.blk
      rw [show (wr.setCell ⟨p, 1, none⟩ (.int .i64 (L.length + es.length))).heap.size = wr.heap.size by simp [World.setCell]]
      have hkk : Keeps (fun q => q = p) wr (wr.setCell ⟨p, 1, none⟩ (.int .i64 (L.length + es.length))) := Keeps.setCell (p := ⟨p, 1, none⟩) (Keeps.refl (fun q => q = p) wr) (fun _ => rfl) _
      refine ⟨?_, hI.map.keep hkk (fun x => hI.p_ne x.symm), hI.le, fun t => ownsRow.keep (hI.rows t) hkk (fun b hb hx => ?_), hI.nil, hI.apart, hI.fp, hI.fm, hI.fv, ?_⟩
      · simp [World.setCell, Array.getElem?_modify, hblk]
      · subst hx
        obtain ⟨_, h2⟩ := hI.rows t
        rcases h2 with ⟨h2, _⟩ | ⟨g, c, cur, h2, _, h3, _⟩
        · rw [h2] at hb; simp [Value.ownBlock] at hb
        · rw [h2] at hb
          simp [Value.ownBlock] at hb
          subst hb
          rw [hblk] at h3
          simp at h3
      · intro q hq
        have := hI.lt q hq
        simpa [World.setCell] using this
end Go.Proofs.YthdcnknjjbdefaaGreatDoor.Idx
