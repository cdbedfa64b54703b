/- StateApart: what the statement's function does: it answers true. Under the tables that utf8 lays. -/
import Derived.Test.YtlfhokcjbgpjhaaDoorStaH
import Derived.Test.YtlfhokcjbgpjhaaDoorIdxD
namespace Go.Proofs.YtlfhokcjbgpjhaaDoor
open Go.RowKit Go.Bl
attribute [local go_sem ↓] Go.wp_at_zero Go.wp_at_succ

theorem not_next {s : St} {a : Ent} (hh : ¬ (rightB a = true ∧ a.pos = s.ap + 1)) : (applyS s a).1 = s ∧ ((applyS s a).2.2 = 1 ∨ (applyS s a).2.2 = 11) := by
  have := apply_err (s := s) (a := a) (by
    by_cases h1 : rightB a = true
    · exact .inr (fun h2 => hh ⟨h1, h2⟩)
    · exact .inl (by simpa using h1))
  exact ⟨this.1, this.2.2⟩
theorem apart_other (s : St) (a : Ent) {t : ByteArray} (ht : t ≠ a.stream) : Idx.ofS (applyS s a).1.L t = Idx.ofS s.L t := by
  by_cases hh : rightB a = true ∧ a.pos = s.ap + 1
  · rcases apply_next hh.1 hh.2 with ⟨o, _, _, _, e⟩ | ⟨_, _, e⟩ | ⟨_, _, _, e⟩ <;> rw [e]
    show Idx.ofS (freshL s a) t = _
    unfold freshL addS
    split
    · rfl
    · rw [Idx.ofS_append, ofS_mk_other _ (fun e => ht e.symm), List.append_nil]
  · rw [(not_next hh).1]
theorem apart_same (s : St) (a : Ent) (h : (applyS s a).2.1.code ≠ 1) : (applyS s a).1.L = s.L := by
  by_cases hh : rightB a = true ∧ a.pos = s.ap + 1
  · rcases apply_next hh.1 hh.2 with ⟨o, _, _, _, e⟩ | ⟨_, _, e⟩ | ⟨_, _, _, e⟩ <;> rw [e] at h ⊢
    show freshL s a = _
    have h : (freshO s a).code ≠ 1 := h
    unfold freshO at h
    unfold freshL
    split
    · rfl
    · rename_i hc
      rw [if_neg hc] at h
      exact absurd rfl h
  · rw [(not_next hh).1]
theorem len_le_sub {α : Type} [DecidableEq α] : ∀ (xs ys : List α), xs.Nodup → (∀ x ∈ xs, x ∈ ys) → xs.length ≤ ys.length
  | [], ys, _, _ => Nat.zero_le _
  | x :: xs, ys, hn, hs => by
    rw [List.nodup_cons] at hn
    have hx := hs x List.mem_cons_self
    have := len_le_sub xs (ys.erase x) hn.2 (fun y hy => (List.mem_erase_of_ne (fun e => hn.1 (by rw [← e]; exact hy))).2 (hs y (List.mem_cons_of_mem _ hy)))
    rw [List.length_erase_of_mem hx] at this
    have := List.length_pos_of_mem hx
    simp only [List.length_cons]
    omega
theorem streams_grow {L L' : List Idx.One} {ks ks' : List ByteArray} (h : Idx.Streams L ks) (h' : Idx.Streams L' ks') {st : ByteArray} (hs : ∀ t, t ≠ st → Idx.ofS L' t = Idx.ofS L t) : ks'.length ≤ ks.length + 1 := by
  have hn : ks'.Nodup := h'.1.imp fun {a b} hab e => by subst e; exact Idx.bLt_irrefl_ _ hab
  have := len_le_sub ks' (st :: ks) hn (fun x hx => by
    by_cases e : x = st
    · rw [e]; exact List.mem_cons_self
    · refine List.mem_cons_of_mem _ ((h.2 x).2 ?_)
      rw [← hs x e]
      exact (h'.2 x).1 hx)
  simpa using this

theorem _root_.Go.Bl.El.stepW {α : Type} {P : Program} {t e : TypeId} {size bytes : Nat} {enc : α → List Value} (E : El P t e size bytes enc) (w : World) {ops : Array Oper} {o : Oper} {a : Act} {K : Act → World → Prop} {Q : Exit → Act → World → Prop} {X : Prop} (hgd : o.guard = none) (s x : Operand)
    (ho : o.op = .call { callee := .builtin .append, args := #[s, x], argTypes := #[t, t] })
    (base : Nat) (v : Value) (l : List α) (hs : a.eval s = v) (hown : Own w base e size enc v l)
    (F : Nat → Prop) (vx : Value) (m : List α) (hvx : a.eval x = vx) (hx : Sl w F size enc vx m)
    (hn : l.length + m.length ≤ maxLen ∧ (l.length + m.length) * bytes ≤ 140737488355328) (hbase : base ≤ w.heap.size)
    (h : ∀ v' w', Own w' base e size enc v' (l ++ m) → w.grownBy w' v.ownBlock → AtOf w v v' → K (a.put o.dst v') w') :
    if Region.wanted o (yielded ops a.tmps) = true then Oper.wp P o a w K Q else X := by
  obtain ⟨z, hi, hzs⟩ := E.hi
  obtain ⟨i, hi, h1, h2, h3⟩ := info_parts hi
  refine step_append_sl hgd s x t ho base e i z size bytes E.ht hi h1 h2 h3 hzs E.sz v l.length (l.flatMap enc) hs hown F enc E.len E.one vx m hvx hx hn.1
    hn.2 hbase (fun v' w' q1 q2 q3 => h v' w' ?_ q2 q3)
  rw [← List.flatMap_append, ← List.length_append] at q1
  exact q1

theorem eqS_true_ {a b : ByteArray} (h : a = b) : (a.toList == b.toList) = true := by subst h; simp
theorem eqS_false_ {a b : ByteArray} (h : a ≠ b) : (a.toList == b.toList) = false := by
  rw [beq_eq_false_iff_ne]
  intro e
  rw [Idx.bytes_inj] at e
  exact h e
theorem keep4 {w3 : World} {b k n : Nat} {x0 x1 x2 x3 u : Value} (hl : k < w3.heap.size) (hne : ¬ k = b) (h : w3.cell? ⟨k, n, none⟩ = some u) :
    ((((w3.setCell ⟨b, 0, none⟩ x0).setCell ⟨b, 1, none⟩ x1).setCell ⟨b, 2, none⟩ x2).setCell ⟨b, 3, none⟩ x3).cell? ⟨k, n, none⟩ = some u :=
  (Keeps.cell (a := ⟨k, n, none⟩) (((((Keeps.refl (fun q => q = b) w3).setCell (p := ⟨b, 0, none⟩) (fun _ => rfl) x0).setCell (p := ⟨b, 1, none⟩) (fun _ => rfl) x1).setCell (p := ⟨b, 2, none⟩) (fun _ => rfl) x2).setCell (p := ⟨b, 3, none⟩) (fun _ => rfl) x3) hl hne).trans h
/-- What 'o, f := s.Apply(..)' leaves beside a state that is not written. -/
def ApCut (w0 : World) (p q : Nat) (s s' : St) (Fq Wq : Nat → Prop) (r1 r2 r3 r4 r5 : Int) (s1 s2 : Value) (wx : World) : Prop :=
  ∃ g F' W', s1 = .pointer (some ⟨g, 0, none⟩) ∧ s2 = .int .i64 r5 ∧ wx.heap[g]? = some (.cells #[.int .i64 r1, .int .i64 r2, .int .i64 r3, .int .i64 r4] 37 (0, 0)) ∧ StAt wx p s' F' W' ∧ StAt wx q s Fq Wq ∧ Below w0.heap.size w0 wx
theorem ApCut.new {w0 w3 : World} {p q : Nat} {s s' : St} {Fq Wq F' W' : Nat → Prop} {r1 r2 r3 r4 r5 : Int} (hB : Below w0.heap.size w0 w3) (h1 : StAt w3 p s' F' W') (h2 : StAt w3 q s Fq Wq) :
    ApCut w0 p q s s' Fq Wq r1 r2 r3 r4 r5 (.pointer (some ⟨w3.heap.size, 0, none⟩)) (.int .i64 r5) (w3.alloc (.cells #[.int .i64 r1, .int .i64 r2, .int .i64 r3, .int .i64 r4] 37)) :=
  ⟨_, F', W', rfl, rfl, heap_alloc_new w3 _, h1.fresh ((Below.refl _ _).alloc (Nat.le_refl _) _), h2.fresh ((Below.refl _ _).alloc (Nat.le_refl _) _), hB.alloc hB.size _⟩
theorem ApCut.old {w0 w3 : World} {p q g : Nat} {s s' : St} {Fq Wq F' W' : Nat → Prop} {r1 r2 r3 r4 r5 : Int} {a b c d : Value} (hB : Below w0.heap.size w0 w3) (h1 : StAt w3 p s' F' W') (h2 : StAt w3 q s Fq Wq)
    (hblk : w3.heap[g]? = some (.cells #[a, b, c, d] 37 (0, 0))) (hg : w0.heap.size ≤ g ∧ ¬ F' g ∧ ¬ Fq g) :
    ApCut w0 p q s s' Fq Wq r1 r2 r3 r4 r5 (.pointer (some ⟨g, 0, none⟩)) (.int .i64 r5) ((((w3.setCell ⟨g, 0, none⟩ (.int .i64 r1)).setCell ⟨g, 1, none⟩ (.int .i64 r2)).setCell ⟨g, 2, none⟩ (.int .i64 r3)).setCell ⟨g, 3, none⟩ (.int .i64 r4)) := by
  have hks : Keeps (fun q => q = g) w3 _ := ((((Keeps.refl (fun q => q = g) w3).setCell (p := ⟨g, 0, none⟩) (fun _ => rfl) (.int .i64 r1)).setCell (p := ⟨g, 1, none⟩) (fun _ => rfl) (.int .i64 r2)).setCell (p := ⟨g, 2, none⟩) (fun _ => rfl) (.int .i64 r3)).setCell (p := ⟨g, 3, none⟩) (fun _ => rfl) (.int .i64 r4)
  exact ⟨_, F', W', rfl, rfl, setCell_block' (o := 3) (setCell_block' (o := 2) (setCell_block' (o := 1) (setCell_block' (o := 0) hblk _) _) _) _, h1.keep hks (fun k hk e => hg.2.1 (e ▸ hk)), h2.keep hks (fun k hk e => hg.2.2 (e ▸ hk)), hB.trans (hks.below hB.size (fun k e => by omega))⟩

set_option maxRecDepth 10000 in
set_option maxHeartbeats 4000000 in
theorem apart_any (w : World) (hT : Tabs w) (v : Value) (l : List Ent) (h : EntsOk w (fun b => b < w.heap.size) v l) (bt : Ent) (hp0 : bt.pos = 0 ∧ bt.epoch = 0) (hb : EntOk w (fun b => b < w.heap.size) bt) (hlb : l.length * 80 ≤ 140737488351232) :
    Calls Tryd.prog 6 #[v, .agg #[.string bt.stream, .int .i64 bt.expect, .int .i64 bt.session, .int .i64 bt.seq, bt.evv]] w fun x w' => x = .returned (.bool true) ∧ Below w.heap.size w w' := by
  obtain ⟨A, c, rfl, hA1, hA2⟩ := h.1.shape
  obtain ⟨B9, d9, hv9, hB1, hB2⟩ := hb.1.shape
  unfold maxLen at hA2 hB2
  have HTb := Lib.hid hT
  have HA := Lib.hid h
  have HBT := Lib.hid hb
  obtain ⟨L, hL⟩ := lift_ents l (fun a ha => by
    obtain ⟨A', c', hv, _, _⟩ := (h.2 a ha).1.shape
    rw [hv]; rfl)
  have hLl : L.length = l.length := by rw [← hL, List.length_map]
  have hSL : Sl w (fun b => b < w.heap.size) 7 ensc (.slice A l.length c) L := (sl_map (enc := entc) (fun x : EntS => x.val)).2 (by rw [hL]; exact h.1)
  have one : bt.evv.oneCell' = true := by rw [hv9]; rfl
  have hB0 : Below w.heap.size w (w.alloc (.cells #[.string bt.stream, .int .i64 bt.expect, .int .i64 bt.session, .int .i64 bt.seq, .slice B9 bt.evs.length d9] 30)) := (Below.refl _ _).alloc (Nat.le_refl _) _
  have hblk := heap_alloc_new w (.cells #[.string bt.stream, .int .i64 bt.expect, .int .i64 bt.session, .int .i64 bt.seq, .slice B9 bt.evs.length d9] 30)
  have HLL := Lib.hid hLl
  have HLm := Lib.hid hL
  have HP0 := Lib.hid hp0
  rw [hv9]
  have HV9 := Lib.hid hv9
  have HLB := Lib.hid hlb
  clear hT h hb hL hLl hv9 hp0 hlb
  go_enter Tryd.func6, Tryd.ntmps6
  go_upto_region 1 with (fail)
  generalize w.alloc (.cells #[.string bt.stream, .int .i64 bt.expect, .int .i64 bt.session, .int .i64 bt.seq, .slice B9 bt.evs.length d9] 30) = w0 at hB0 hblk ⊢
  have HB0 := Lib.hid hB0
  have HBK := Lib.hid hblk
  clear hB0 hblk
  go_wp2_with fail
  refine (shown_any w0 (HTb.out.fresh HB0.out)).mono ?_
  rintro e wa ⟨rfl, hBa⟩
  have hbk := (Keeps.of_fresh hBa (fun _ => False)).grownTo HBK.out id
  have HBa0 := Lib.hid hBa
  have HBa := Lib.hid (HB0.out.trans (hBa.mono HB0.out.size))
  have HBKa := Lib.hid hbk
  clear hBa
  have y0 : wa.cell? ⟨w.heap.size, 0, none⟩ = some (.string bt.stream) := cell_of_row wa _ 0 _ _ _ hbk
  have y1 : wa.cell? ⟨w.heap.size, 1, none⟩ = some (.int .i64 bt.expect) := cell_of_row wa _ 1 _ _ _ hbk
  have y2 : wa.cell? ⟨w.heap.size, 2, none⟩ = some (.int .i64 bt.session) := cell_of_row wa _ 2 _ _ _ hbk
  have y3 : wa.cell? ⟨w.heap.size, 3, none⟩ = some (.int .i64 bt.seq) := cell_of_row wa _ 3 _ _ _ hbk
  have y4 : wa.cell? ⟨w.heap.size, 4, none⟩ = some (.slice B9 bt.evs.length d9) := cell_of_row wa _ 4 _ _ _ hbk
  have HSL := Lib.hid (hSL.fresh HBa.out)
  clear hSL hbk hA1 hA2 hB1 hB2
  go_upto_region 2 with (fail)
  go_cut [6] (fun s6 wx => s6 = .bool (fitsB (l ++ [bt])) ∧ Below wa.heap.size wa wx)
  case first =>
    have hWd : Below wa.heap.size wa wa.drew := ⟨rfl, rfl, rfl, Nat.le_refl _, fun _ _ => rfl⟩
    have hnew0 := World.new_ne wa _ y0
    have hbw0 := World.block_lt_of_cell? _ _ y0
    have HCS : Hid ((#[.int .i64 0, .int .i64 0, .string bt.stream, .int .i64 bt.expect, .int .i64 bt.session, .int .i64 bt.seq, .slice B9 bt.evs.length d9] : Array Value).toList = ensc ⟨bt, one⟩) := Lib.hid (by
      show _ = entc bt
      simp only [entc, HP0.out.1, HP0.out.2, HV9.out])
    have HEO : Hid (∀ wz, Below wa.heap.size wa wz → ∀ a ∈ l ++ [bt], EntOk wz (fun _ => True) a) := Lib.hid (fun wz hz a ha => by
      have hw := HBa.out.trans (hz.mono HBa.out.size)
      have key : EntOk w (fun b => b < w.heap.size) a := by
        rcases List.mem_append.1 ha with q | q
        · exact HA.out.2 a q
        · rw [List.mem_singleton.1 q]; exact HBT.out
      have := key.fresh hw
      exact ⟨this.1.mono (fun _ _ _ => trivial), this.2⟩)
    have HLEN : Hid (([] : List EntS).length + L.length ≤ maxLen ∧ (([] : List EntS).length + L.length) * 80 ≤ 140737488355328) := Lib.hid (by have := HLL.out; have := HLB.out; unfold maxLen; simp only [List.length_nil]; omega)
    have HLEN2 : Hid ((([] : List EntS) ++ L).length + [(⟨bt, one⟩ : EntS)].length ≤ maxLen ∧ ((([] : List EntS) ++ L).length + [(⟨bt, one⟩ : EntS)].length) * 80 ≤ 140737488355328) := Lib.hid (by have := HLL.out; have := HLB.out; unfold maxLen; simp only [List.nil_append, List.length_cons, List.length_nil]; omega)
    go_wp2_with fail
    go_region_held3 (fun x => x.cell? ⟨w.heap.size, 0, none⟩ = some (.string bt.stream) ∧ x.cell? ⟨w.heap.size, 1, none⟩ = some (.int .i64 bt.expect) ∧ x.cell? ⟨w.heap.size, 2, none⟩ = some (.int .i64 bt.session) ∧ x.cell? ⟨w.heap.size, 3, none⟩ = some (.int .i64 bt.seq) ∧ x.cell? ⟨w.heap.size, 4, none⟩ = some (.slice B9 bt.evs.length d9))
      (first | exact ⟨by assumption, by assumption, by assumption, by assumption, by assumption⟩ | go_keep)
      (first
        | (go_at_call 8
           refine (fits_all _ _ _ _ HE2.out).mono ?_
           rintro e w3 ⟨rfl, hB3⟩
           have HB3 := Lib.hid (HB2.out.trans (hB3.mono HB2.out.size))
           have p0 : w3.cell? ⟨w.heap.size, 0, none⟩ = _ := (HB3.out.cell (p := ⟨w.heap.size, 0, none⟩) hbw0).trans y0
           have p1 : w3.cell? ⟨w.heap.size, 1, none⟩ = _ := (HB3.out.cell (p := ⟨w.heap.size, 1, none⟩) hbw0).trans y1
           have p2 : w3.cell? ⟨w.heap.size, 2, none⟩ = _ := (HB3.out.cell (p := ⟨w.heap.size, 2, none⟩) hbw0).trans y2
           have p3 : w3.cell? ⟨w.heap.size, 3, none⟩ = _ := (HB3.out.cell (p := ⟨w.heap.size, 3, none⟩) hbw0).trans y3
           have p4 : w3.cell? ⟨w.heap.size, 4, none⟩ = _ := (HB3.out.cell (p := ⟨w.heap.size, 4, none⟩) hbw0).trans y4
           clear hB3)
        | (refine elEns.stepW _ (by rfl) (.tmp 18) (.tmp 21) (by rfl) wa.heap.size v1 ([] ++ L) (by rfl) ?o2 (fun _ => True) _ [⟨bt, one⟩] (by rfl) ?s2 ?l2 ?b2 ?_
           case o2 => first | exact HOW1.out | exact HOW1.out.fresh ((Below.refl _ _).alloc (Nat.le_refl _) _)
           case s2 => first | exact (Sl.single (heap_alloc_new w1' _) HCS.out).mono (fun _ _ _ => trivial) | exact (Sl.single HBB.out HCS.out).mono (fun _ _ _ => trivial)
           case l2 => exact HLEN2.out
           case b2 => first | exact HBA.out.size | exact Nat.le_trans HBA.out.size (by simp)
           intro v2 w2' hown2 hg2 hat2
           have hbc : Below wa.heap.size wa w2' := by
             first
             | exact HBA.out.grown hg2 HBA.out.size (fun q hq => HLW.out q hq)
             | exact (HBA.out.alloc HBA.out.size _).grown hg2 (Nat.le_trans HBA.out.size (by simp)) (fun q hq => HLW.out q hq)
           have HB2 := Lib.hid hbc
           have hE2 := (sl_map (enc := entc) (fun x : EntS => x.val)).1 (hown2.sl (fun _ => rfl))
           rw [List.nil_append, List.map_append, HLm.out] at hE2
           have HE2 : Hid (EntsOk w2' (fun _ => True) v2 (l ++ [bt])) := Lib.hid ⟨hE2.mono (fun _ _ _ => trivial), HEO.out w2' hbc⟩
           have r0 : w2'.cell? ⟨w.heap.size, 0, none⟩ = _ := (hbc.cell (p := ⟨w.heap.size, 0, none⟩) hbw0).trans y0
           have r1 : w2'.cell? ⟨w.heap.size, 1, none⟩ = _ := (hbc.cell (p := ⟨w.heap.size, 1, none⟩) hbw0).trans y1
           have r2 : w2'.cell? ⟨w.heap.size, 2, none⟩ = _ := (hbc.cell (p := ⟨w.heap.size, 2, none⟩) hbw0).trans y2
           have r3 : w2'.cell? ⟨w.heap.size, 3, none⟩ = _ := (hbc.cell (p := ⟨w.heap.size, 3, none⟩) hbw0).trans y3
           have r4 : w2'.cell? ⟨w.heap.size, 4, none⟩ = _ := (hbc.cell (p := ⟨w.heap.size, 4, none⟩) hbw0).trans y4
           clear hbc hE2 hown2 hg2 hat2)
        | (refine elEns.stepW _ (by rfl) (.tmp 16) (.tmp 17) (by rfl) wa.heap.size (.slice (some ⟨wa.heap.size, 0, none⟩) 0 0) [] (by rfl) (Own.made wa.drew (Nat.le_refl _) _ _ _) _ (.slice A l.length c) L (by rfl) (HSL.out.fresh (hWd.alloc (Nat.le_refl _) _)) HLEN.out (by first | (simp; done) | (simp; omega)) ?_
           intro v1 w1' hown1 hg1 hat1
           have hba : Below wa.heap.size wa w1' := (hWd.alloc (Nat.le_refl _) _).grown hg1 (by first | (simp; done) | (simp; omega)) (fun q hq => by injection hq with hq; subst hq; first | exact Nat.le_refl _ | simp)
           have q0 : w1'.cell? ⟨w.heap.size, 0, none⟩ = _ := (hba.cell (p := ⟨w.heap.size, 0, none⟩) hbw0).trans y0
           have q1 : w1'.cell? ⟨w.heap.size, 1, none⟩ = _ := (hba.cell (p := ⟨w.heap.size, 1, none⟩) hbw0).trans y1
           have q2 : w1'.cell? ⟨w.heap.size, 2, none⟩ = _ := (hba.cell (p := ⟨w.heap.size, 2, none⟩) hbw0).trans y2
           have q3 : w1'.cell? ⟨w.heap.size, 3, none⟩ = _ := (hba.cell (p := ⟨w.heap.size, 3, none⟩) hbw0).trans y3
           have q4 : w1'.cell? ⟨w.heap.size, 4, none⟩ = _ := (hba.cell (p := ⟨w.heap.size, 4, none⟩) hbw0).trans y4
           have hlow1 : ∀ q, v1.ownBlock = some q → wa.heap.size ≤ q := fun q hq => (hown1.lt q hq).1
           have HBA := Lib.hid hba
           have HLW := Lib.hid hlow1
           have HOW1 := Lib.hid hown1
           clear hba hlow1 hown1 hg1 hat1)
        | (refine elEns.stepW _ (by rfl) (.tmp 16) (.tmp 17) (by rfl) wa.heap.size (.slice (some ⟨wa.heap.size, 0, none⟩) 0 0) [] (by rfl) ((Own.made wa.drew (Nat.le_refl _) _ _ _).fresh ((Below.refl _ _).alloc (Nat.le_refl _) _)) _ (.slice A l.length c) L (by rfl) (HSL.out.fresh ((hWd.alloc (Nat.le_refl _) _).alloc (by simp) _)) HLEN.out (by first | (simp; done) | (simp; omega)) ?_
           intro v1 w1' hown1 hg1 hat1
           have hba : Below wa.heap.size wa w1' := ((hWd.alloc (Nat.le_refl _) _).alloc (by simp) _).grown hg1 (by first | (simp; done) | (simp; omega)) (fun q hq => by injection hq with hq; subst hq; first | exact Nat.le_refl _ | simp)
           have HBB : Hid (w1'.heap[wa.heap.size + 1]? = some (.cells #[.int .i64 0, .int .i64 0, .string bt.stream, .int .i64 bt.expect, .int .i64 bt.session, .int .i64 bt.seq, .slice B9 bt.evs.length d9] 32 (0, 0))) := Lib.hid (by
             have h0 := heap_alloc_new (wa.drew.alloc (.cells #[] 32)) (.cells #[.int .i64 0, .int .i64 0, .string bt.stream, .int .i64 bt.expect, .int .i64 bt.session, .int .i64 bt.seq, .slice B9 bt.evs.length d9] 32)
             rw [World.size_alloc] at h0
             exact (Keeps.of_grown hg1).grownTo h0 (fun e => by
               have e : some wa.heap.size = some (wa.heap.size + 1) := e
               injection e with e; omega))
           have q0 : w1'.cell? ⟨w.heap.size, 0, none⟩ = _ := (hba.cell (p := ⟨w.heap.size, 0, none⟩) hbw0).trans y0
           have q1 : w1'.cell? ⟨w.heap.size, 1, none⟩ = _ := (hba.cell (p := ⟨w.heap.size, 1, none⟩) hbw0).trans y1
           have q2 : w1'.cell? ⟨w.heap.size, 2, none⟩ = _ := (hba.cell (p := ⟨w.heap.size, 2, none⟩) hbw0).trans y2
           have q3 : w1'.cell? ⟨w.heap.size, 3, none⟩ = _ := (hba.cell (p := ⟨w.heap.size, 3, none⟩) hbw0).trans y3
           have q4 : w1'.cell? ⟨w.heap.size, 4, none⟩ = _ := (hba.cell (p := ⟨w.heap.size, 4, none⟩) hbw0).trans y4
           have hlow1 : ∀ q, v1.ownBlock = some q → wa.heap.size ≤ q := fun q hq => (hown1.lt q hq).1
           have HBA := Lib.hid hba
           have HLW := Lib.hid hlow1
           have HOW1 := Lib.hid hown1
           clear hba hlow1 hown1 hg1 hat1)
        | (refine elEns.stepW _ (by rfl) (.tmp 16) (.tmp 17) (by rfl) wa.heap.size (.slice (some ⟨wa.heap.size + 1, 0, none⟩) 0 0) [] (by rfl) (by have h0 := Own.made (base := wa.heap.size) (wa.drew.alloc (.cells #[.int .i64 0, .int .i64 0, .string bt.stream, .int .i64 bt.expect, .int .i64 bt.session, .int .i64 bt.seq, .slice B9 bt.evs.length d9] 32)) (by simp) 32 7 ensc; rw [World.size_alloc] at h0; exact h0) _ (.slice A l.length c) L (by rfl) (HSL.out.fresh ((hWd.alloc (Nat.le_refl _) _).alloc (by simp) _)) HLEN.out (by first | (simp; done) | (simp; omega)) ?_
           intro v1 w1' hown1 hg1 hat1
           have hba : Below wa.heap.size wa w1' := ((hWd.alloc (Nat.le_refl _) _).alloc (by simp) _).grown hg1 (by first | (simp; done) | (simp; omega)) (fun q hq => by injection hq with hq; subst hq; first | exact Nat.le_refl _ | simp)
           have HBB : Hid (w1'.heap[wa.heap.size]? = some (.cells #[.int .i64 0, .int .i64 0, .string bt.stream, .int .i64 bt.expect, .int .i64 bt.session, .int .i64 bt.seq, .slice B9 bt.evs.length d9] 32 (0, 0))) := Lib.hid (by
             have h0 := (Keeps.of_fresh ((Below.refl _ (wa.drew.alloc (.cells #[.int .i64 0, .int .i64 0, .string bt.stream, .int .i64 bt.expect, .int .i64 bt.session, .int .i64 bt.seq, .slice B9 bt.evs.length d9] 32))).alloc (Nat.le_refl _) (.cells #[] 32)) (fun _ => False)).grownTo (heap_alloc_new wa.drew (.cells #[.int .i64 0, .int .i64 0, .string bt.stream, .int .i64 bt.expect, .int .i64 bt.session, .int .i64 bt.seq, .slice B9 bt.evs.length d9] 32)) id
             exact (Keeps.of_grown hg1).grownTo h0 (fun e => by
               have e : some (wa.heap.size + 1) = some wa.heap.size := e
               injection e with e
               omega))
           have q0 : w1'.cell? ⟨w.heap.size, 0, none⟩ = _ := (hba.cell (p := ⟨w.heap.size, 0, none⟩) hbw0).trans y0
           have q1 : w1'.cell? ⟨w.heap.size, 1, none⟩ = _ := (hba.cell (p := ⟨w.heap.size, 1, none⟩) hbw0).trans y1
           have q2 : w1'.cell? ⟨w.heap.size, 2, none⟩ = _ := (hba.cell (p := ⟨w.heap.size, 2, none⟩) hbw0).trans y2
           have q3 : w1'.cell? ⟨w.heap.size, 3, none⟩ = _ := (hba.cell (p := ⟨w.heap.size, 3, none⟩) hbw0).trans y3
           have q4 : w1'.cell? ⟨w.heap.size, 4, none⟩ = _ := (hba.cell (p := ⟨w.heap.size, 4, none⟩) hbw0).trans y4
           have hlow1 : ∀ q, v1.ownBlock = some q → wa.heap.size ≤ q := fun q hq => (hown1.lt q hq).1
           have HBA := Lib.hid hba
           have HLW := Lib.hid hlow1
           have HOW1 := Lib.hid hown1
           clear hba hlow1 hown1 hg1 hat1))
    all_goals go_wp2_with fail
    all_goals go_meet
    all_goals exact ⟨rfl, HB3.out⟩
  case rest =>
    obtain ⟨rfl, hBc⟩ := hcut
    have HBc := Lib.hid (HBa0.out.trans (hBc.mono HBa0.out.size))
    have hwlt : w.heap.size < w0.heap.size := (Array.getElem?_eq_some_iff.1 HBK.out).1
    have HA0 : Hid (EntsOk w0 (fun b => b < w0.heap.size) (.slice A l.length c) l) := Lib.hid (by
      have h0 := HA.out.fresh HB0.out
      exact ⟨h0.1.mono (fun k hk _ => hk), fun a ha => ⟨(h0.2 a ha).1.mono (fun k hk _ => hk), (h0.2 a ha).2⟩⟩)
    have HT0 := Lib.hid (HTb.out.fresh HB0.out)
    have HBT0 : Hid (EntOk w0 (fun b => b < w0.heap.size) bt) := Lib.hid ⟨(HBT.out.fresh HB0.out).1.mono (fun k hk _ => hk), HBT.out.2⟩
    have HA := HA0
    have HTb := HT0
    clear hBc y0 y1 y2 y3 y4 HA0 HT0 HSL HBKa
    go_wp2_with fail
    refine (snew_any wc).mono ?_
    rintro e wd ⟨p, W0, rfl, _, hW0, hS0, hBd⟩
    have HBd := Lib.hid (HBc.out.trans (hBd.mono HBc.out.size))
    have HS0 := Lib.hid hS0
    clear hBd hS0 hW0
    cases hfb : fitsB (l ++ [bt])
    · go_wp2_with fail
      go_ret
      exact ⟨rfl, HB0.out.trans (HBd.out.mono HB0.out.size)⟩
    have hfa := fitsB_at hfb
    rw [List.length_append] at hfa
    have HFB : Hid (fitsB l = true) := Lib.hid (by
      unfold fitsB
      rw [Bool.and_eq_true, decide_eq_true_eq, List.all_eq_true]
      exact ⟨by omega, fun a ha => hfa.2 a (List.mem_append_left _ ha)⟩)
    have HFT := Lib.hid (entF_at (hfa.2 bt (List.mem_append_right _ (by simp))))
    have hl40 := (fitsB_at HFB.out).1
    clear hfa hfb
    go_wp2_with fail
    go_loopw [8, 9] (fun i _ wr => PlayRel (fun s => ∀ o ∈ s.L, o.stream.size ≤ 300) w0 p l.length i wr) (fun i _ _ => l.length - (intOf i).toNat)
    case atStart => exact ⟨0, St.new, _, W0, Nat.zero_le _, rfl, HS0.out, fun j hj => Nat.le_trans HBc.out.size hj.1, by simp [St.new], by simp [St.new], by simp [St.new], by simp [St.new], HBd.out⟩
    case round =>
      obtain ⟨k, s, F, W, hk, rfl, hS, hF, hI, hL, hTL, hap, hB⟩ := hrel
      have HSlt := Lib.hid hS.lt
      by_cases hlt : k < l.length
      ·
        have HB := Lib.hid hB
        have hAr := HA.out.fresh hB
        obtain ⟨b, o, rfl, _, _, hxx⟩ := hAr.1.cell_ hlt
        have hbo := hAr.2 l[k] (List.getElem_mem hlt)
        have hst := hbo.2.2.1
        have hfl := entF_at ((fitsB_at HFB.out).2 l[k] (List.getElem_mem hlt))
        generalize hea : l[k] = a at *
        obtain ⟨B, d, hv, _, _⟩ := hbo.1.shape
        have x0 := hxx 0 _ rfl
        have x1 := hxx 1 _ rfl
        have x2 := hxx 2 _ rfl
        have x3 := hxx 3 _ rfl
        have x4 := hxx 4 _ rfl
        have x5 := hxx 5 _ rfl
        have x6 := hxx 6 _ rfl
        rw [hv] at x6
        simp only [Nat.add_zero] at x0
        have HBO := Lib.hid hbo
        have HV := Lib.hid hv
        have HFL := Lib.hid hfl
        have HEA := Lib.hid hea
        have HI := Lib.hid hI
        have HL := Lib.hid hL
        have HTL := Lib.hid hTL
        have HF := Lib.hid hF
        clear hxx hAr hbo hv hea hI hL hTL hF hfl
        have hB1 : Below wr.heap.size wr (wr.alloc (.cells #[.int .i64 a.pos, .int .i64 a.epoch, .string a.stream, .int .i64 a.expect, .int .i64 a.session, .int .i64 a.seq, .slice B a.evs.length d] 32)) := (Below.refl _ wr).alloc (Nat.le_refl _) _
        have hblk := heap_alloc_new wr (.cells #[.int .i64 a.pos, .int .i64 a.epoch, .string a.stream, .int .i64 a.expect, .int .i64 a.session, .int .i64 a.seq, .slice B a.evs.length d] 32)
        go_upto_region 10 with (fail)
        generalize wr.alloc (.cells #[.int .i64 a.pos, .int .i64 a.epoch, .string a.stream, .int .i64 a.expect, .int .i64 a.session, .int .i64 a.seq, .slice B a.evs.length d] 32) = w1 at hB1 hblk ⊢
        have y0 : w1.cell? ⟨wr.heap.size, 0, none⟩ = some (.int .i64 a.pos) := cell_of_row w1 _ 0 _ _ _ hblk
        have g0 : w1.frozen? ⟨wr.heap.size, 0, none⟩ = false := frozen_block hblk 0
        have HS1 := Lib.hid (hS.fresh hB1)
        have HB1 := Lib.hid hB1
        clear x0 x1 x2 x3 x4 x5 x6 hS hB1 hB
        go_wp2_with fail
        refine (applied_any w1 p s F W HS1.out).mono ?_
        rintro e w1' ⟨rfl, rfl⟩
        have hw1 : s.ap + 1 < 1000000 := by omega
        have hw2 : 0 ≤ s.ap + 1 := by omega
        go_upto_region 11 with (fail)
        have hk2 := setCell_block' (o := 0) (v := .int .i64 (s.ap + 1)) hblk
        have hkS : Keeps (fun q => q = wr.heap.size) w1 _ := (Keeps.refl (fun q => q = wr.heap.size) w1).setCell (p := ⟨wr.heap.size, 0, none⟩) (fun _ => rfl) (.int .i64 (s.ap + 1))
        generalize w1.setCell ⟨wr.heap.size, 0, none⟩ (.int .i64 (s.ap + 1)) = w2 at hk2 hkS ⊢
        have y0 : w2.cell? ⟨wr.heap.size, 0, none⟩ = some (.int .i64 (s.ap+1)) := cell_of_row w2 _ 0 _ _ _ hk2
        have y1 : w2.cell? ⟨wr.heap.size, 1, none⟩ = some (.int .i64 (a.epoch)) := cell_of_row w2 _ 1 _ _ _ hk2
        have y2 : w2.cell? ⟨wr.heap.size, 2, none⟩ = some (.string (a.stream)) := cell_of_row w2 _ 2 _ _ _ hk2
        have y3 : w2.cell? ⟨wr.heap.size, 3, none⟩ = some (.int .i64 (a.expect)) := cell_of_row w2 _ 3 _ _ _ hk2
        have y4 : w2.cell? ⟨wr.heap.size, 4, none⟩ = some (.int .i64 (a.session)) := cell_of_row w2 _ 4 _ _ _ hk2
        have y5 : w2.cell? ⟨wr.heap.size, 5, none⟩ = some (.int .i64 (a.seq)) := cell_of_row w2 _ 5 _ _ _ hk2
        have y6 : w2.cell? ⟨wr.heap.size, 6, none⟩ = some (.slice B a.evs.length d) := cell_of_row w2 _ 6 _ _ _ hk2
        have hb2 : Below wr.heap.size wr w2 := Below.keep HB1.out hkS HB1.out.size (fun q hq => by omega)
        have HB2 := Lib.hid (HB.out.trans (hb2.mono HB.out.size))
        have HSf := Lib.hid (HS1.out.keep hkS (fun q hq e => by have := HSlt.out q hq; omega))
        have hbt : BatchOk w2 (fun q => q < w0.heap.size) (a.at_ (s.ap + 1)) := by
          have hb := HBO.out.fresh hb2
          exact ⟨hb.1, hb.2.1, hb.2.2.1, by have := HFL.out.2.1; show a.evs.length ≤ _; omega⟩
        have hcall := apply_any w2 (HTb.out.fresh HB2.out) p s F W HSf.out _ (a.at_ (s.ap + 1)) hbt (fun q hq e => by have := HF.out q (HSf.out.wf q e); omega) (by omega) (by have := HFL.out.2.1; have := HL.out; show _ + a.evs.length ≤ _; omega) (by have := HTL.out; omega)
        rw [show (a.at_ (s.ap + 1)).evv = .slice B a.evs.length d from HV.out] at hcall
        have HC := Lib.hid hcall
        have HBT := Lib.hid hbt
        clear hcall hbt hblk g0 hb2 hk2 hkS hw1 hw2
        go_wp2_with fail
        refine HC.out.mono ?_
        rintro e w3 ⟨rfl, hAp⟩
        go_wp2_with fail
        go_roundw
        case rel => exact PlayRel.step hlt HF.out HB2.out HSf.out (apply_str (a := a.at_ (s.ap + 1)) HI.out (show a.stream.size ≤ 300 from HFL.out.1)) HL.out HTL.out hap hAp (by go_num)
        case measure => simp [intOf]; omega
      · have hkd : k = l.length := by omega
        subst hkd
        have HS := Lib.hid hS
        have HB := Lib.hid hB
        have HF := Lib.hid hF
        have HI := Lib.hid hI
        have hLb : s.L.length ≤ 1000 := by omega
        have hTb : s.T.length ≤ 1000 := by omega
        have hap2 : 0 ≤ s.ap ∧ s.ap ≤ 1000 := by omega
        clear hS hB hF hI hL hTL hk hlt hap
        obtain ⟨wA, rfl⟩ : ∃ x, x = wr := ⟨_, rfl⟩
        go_wp2_with fail
        refine (sclone_any wA p s F W HS.out (by omega) (by omega)).mono ?_
        rintro e wq ⟨q, Wq, rfl, hq, hWq, hBq, hSq⟩
        have HSp := Lib.hid (HS.out.fresh hBq)
        have HSq := Lib.hid hSq
        have HBq := Lib.hid (HB.out.trans (hBq.mono HB.out.size))
        have hzq := hBq.size
        clear hWq hBq hSq hq
        have hbk := (Keeps.of_fresh HBq.out (fun _ => False)).grownTo HBK.out id
        have y0 : wq.cell? ⟨w.heap.size, 0, none⟩ = some (.string bt.stream) := cell_of_row wq _ 0 _ _ _ hbk
        have y1 : wq.cell? ⟨w.heap.size, 1, none⟩ = some (.int .i64 bt.expect) := cell_of_row wq _ 1 _ _ _ hbk
        have y2 : wq.cell? ⟨w.heap.size, 2, none⟩ = some (.int .i64 bt.session) := cell_of_row wq _ 2 _ _ _ hbk
        have y3 : wq.cell? ⟨w.heap.size, 3, none⟩ = some (.int .i64 bt.seq) := cell_of_row wq _ 3 _ _ _ hbk
        have y4 : wq.cell? ⟨w.heap.size, 4, none⟩ = some (.slice B9 bt.evs.length d9) := cell_of_row wq _ 4 _ _ _ hbk
        have hbw0 := World.block_lt_of_cell? _ _ y0
        have hnew0 := World.new_ne wq _ y0
        have hw1 : IntKind.i64.wrap (s.ap + 1) = s.ap + 1 := IntWalk.i64_in _ (by omega)
        obtain ⟨ae, hae⟩ : ∃ ae : Ent, ae = ⟨s.ap + 1, 9, bt.stream, bt.expect, bt.session, bt.seq, bt.evv, bt.evs⟩ := ⟨_, rfl⟩
        have happ := fun wz (hz : Below wq.heap.size wq wz) => applied_any wz p s F W (HSp.out.fresh hz)
        have hapl := fun wz (hz : Below wq.heap.size wq wz) => apply_any wz (HTb.out.fresh (HBq.out.trans (hz.mono HBq.out.size))) p s F W (HSp.out.fresh hz) (fun k => k < w0.heap.size) ae (by
          subst hae
          have h0 := HBT0.out.fresh (HBq.out.trans (hz.mono HBq.out.size))
          exact ⟨h0.1, h0.2.1, h0.2.2.1, by have := HFT.out.2.1; show bt.evs.length ≤ _; omega⟩) (fun b hb hw => by have := HF.out b (HS.out.wf b hw); omega) (by omega) (by have := HFT.out.2.1; subst hae; show _ + bt.evs.length ≤ _; omega) (by omega)
        rcases hrr : applyS s ae with ⟨s', ⟨r1, r2, r3, r4⟩, r5⟩
        rw [hrr] at hapl
        rw [hae] at hapl
        have hv9' : bt.evv = .slice B9 bt.evs.length d9 := HV9.out
        simp only [hv9'] at hapl
        have HAPP := Lib.hid happ
        have HAPL := Lib.hid hapl
        have HRR := Lib.hid hrr
        have HAE := Lib.hid hae
        have hFlt := Lib.hid HS.out.lt
        clear happ hapl hrr hae hbk hv9'
        go_wp2_with fail
        go_upto_region 15 with (fail)
        go_cut [11, 12] (fun s11 s12 wx => ApCut w0 p q s s' (fun k => F k ∧ ¬W k ∨ wA.heap.size ≤ k ∧ k < wq.heap.size) Wq r1 r2 r3 r4 r5 s11 s12 wx)
        case first =>
          have hWd : Below wq.heap.size wq wq.drew := ⟨rfl, rfl, rfl, Nat.le_refl _, fun _ _ => rfl⟩
          have HNB : Hid (¬ W w.heap.size) := Lib.hid (fun e => by have := HF.out _ (HS.out.wf _ e); omega)
          have HNQ : Hid (¬ W wq.heap.size) := Lib.hid (fun e => by have := hFlt.out _ (HS.out.wf _ e); omega)
          have HDQ : Hid (∀ k, (F k ∧ ¬W k ∨ wA.heap.size ≤ k ∧ k < wq.heap.size) → ¬ W k) := Lib.hid (fun k hk e => by
            rcases hk with hk | hk
            · exact hk.2 e
            · have := hFlt.out _ (HS.out.wf _ e); omega)
          have HNG : Hid (¬ (F wq.heap.size ∧ ¬W wq.heap.size ∨ wA.heap.size ≤ wq.heap.size ∧ wq.heap.size < wq.heap.size)) := Lib.hid (fun e => by
            rcases e with e | e
            · have := hFlt.out _ e.1; omega
            · omega)
          have HBW := Lib.hid hbw0
          have HNE : Hid (¬ w.heap.size = wq.heap.size) := Lib.hid (by omega)
          have HZQ := Lib.hid hzq
          clear hLb hTb hap2 hl40 hwlt hzq hbw0
          go_wp2_with fail
          go_region_held3 (fun x => x.cell? ⟨w.heap.size, 0, none⟩ = some (.string bt.stream) ∧ x.cell? ⟨w.heap.size, 1, none⟩ = some (.int .i64 bt.expect) ∧ x.cell? ⟨w.heap.size, 2, none⟩ = some (.int .i64 bt.session) ∧ x.cell? ⟨w.heap.size, 3, none⟩ = some (.int .i64 bt.seq) ∧ x.cell? ⟨w.heap.size, 4, none⟩ = some (.slice B9 bt.evs.length d9))
            (first | with_reducible exact ⟨keep4 HL3.out HNE.out v0, keep4 HL3.out HNE.out v1, keep4 HL3.out HNE.out v2, keep4 HL3.out HNE.out v3, keep4 HL3.out HNE.out v4⟩ | with_reducible exact ⟨v0, v1, v2, v3, v4⟩ | go_keep)
            (first
              | (go_at_call 11
                 refine (HAPP.out _ (by first | exact hWd | exact hWd.alloc (Nat.le_refl _) _)).mono ?_
                 rintro e wz ⟨rfl, rfl⟩)
              | (go_at_call 12
                 refine (HAPL.out _ (by first | exact hWd | exact hWd.alloc (Nat.le_refl _) _)).mono ?_
                 rintro e w3 ⟨rfl, W3, hW3, hS3, hK3⟩
                 have hKq : Keeps W wq w3 := by
                   first
                   | exact ((Keeps.refl W wq).drew).trans hK3
                   | exact (((Keeps.refl W wq).drew).alloc _).trans hK3
                 have v0 : w3.cell? ⟨w.heap.size, 0, none⟩ = _ := (hKq.cell (a := ⟨w.heap.size, 0, none⟩) HBW.out HNB.out).trans y0
                 have v1 : w3.cell? ⟨w.heap.size, 1, none⟩ = _ := (hKq.cell (a := ⟨w.heap.size, 1, none⟩) HBW.out HNB.out).trans y1
                 have v2 : w3.cell? ⟨w.heap.size, 2, none⟩ = _ := (hKq.cell (a := ⟨w.heap.size, 2, none⟩) HBW.out HNB.out).trans y2
                 have v3 : w3.cell? ⟨w.heap.size, 3, none⟩ = _ := (hKq.cell (a := ⟨w.heap.size, 3, none⟩) HBW.out HNB.out).trans y3
                 have v4 : w3.cell? ⟨w.heap.size, 4, none⟩ = _ := (hKq.cell (a := ⟨w.heap.size, 4, none⟩) HBW.out HNB.out).trans y4
                 try
                   (have hblk := hK3.grownTo (heap_alloc_new wq.drew (.cells #[.int .i64 0, .int .i64 0, .int .i64 0, .int .i64 0] 37)) HNQ.out
                    have q0 : w3.cell? ⟨wq.heap.size, 0, none⟩ = some (.int .i64 0) := cell_of_row w3 _ 0 _ _ _ hblk
                    have q1 : w3.cell? ⟨wq.heap.size, 1, none⟩ = some (.int .i64 0) := cell_of_row w3 _ 1 _ _ _ hblk
                    have q2 : w3.cell? ⟨wq.heap.size, 2, none⟩ = some (.int .i64 0) := cell_of_row w3 _ 2 _ _ _ hblk
                    have q3 : w3.cell? ⟨wq.heap.size, 3, none⟩ = some (.int .i64 0) := cell_of_row w3 _ 3 _ _ _ hblk
                    have f0 : w3.frozen? ⟨wq.heap.size, 0, none⟩ = false := frozen_block hblk 0
                    have f1 : w3.frozen? ⟨wq.heap.size, 1, none⟩ = false := frozen_block hblk 1
                    have f2 : w3.frozen? ⟨wq.heap.size, 2, none⟩ = false := frozen_block hblk 2
                    have f3 : w3.frozen? ⟨wq.heap.size, 3, none⟩ = false := frozen_block hblk 3
                    have HBLK := Lib.hid hblk
                    have HSO := Lib.hid hS3
                    clear hblk)
                 have HS3 := Lib.hid hS3
                 have HQ3 := Lib.hid (HSq.out.keep hKq HDQ.out)
                 have HB3 : Hid (Below w0.heap.size w0 w3) := Lib.hid (Below.keep HBq.out hKq HBq.out.size (fun j hj => HF.out j (HS.out.wf j hj)))
                 have HL3 := Lib.hid (Nat.lt_of_lt_of_le HBW.out hKq.size)
                 clear hW3 hS3 hK3 hKq))
          all_goals go_wp2_with fail
          all_goals go_meet
          · exact ApCut.new HB3.out HS3.out HQ3.out
          all_goals exact ApCut.old HB3.out HS3.out HQ3.out HBLK.out ⟨Nat.le_trans HBq.out.size (Nat.le_refl _), fun e => by
            rcases e with e | e
            · have := hFlt.out _ e
              have := HZQ.out
              omega
            · exact absurd e.1 (by rw [show ∀ x : World, x.drew.heap.size = x.heap.size from fun _ => rfl, World.size_alloc]; exact Nat.not_succ_le_self _), HNG.out⟩
        case rest =>
          obtain ⟨g, F', W', rfl, rfl, hob, hS4, hQ4, hB4⟩ := hcut
          have hbk := (Keeps.of_fresh hB4 (fun _ => False)).grownTo HBK.out id
          have HBK4 := Lib.hid hbk
          have HOB := Lib.hid hob
          have HB4 := Lib.hid hB4
          have HS4 := Lib.hid hS4
          have HQ4 := Lib.hid hQ4
          have hgr : s'.L.length ≤ 2000 := by
            have := (apply_grows s ae).1
            rw [HRR.out] at this
            have : s'.L.length ≤ s.L.length + 8 := this
            omega
          clear hob hB4 hS4 hQ4 hbk HAPP HAPL y0 y1 y2 y3 y4 hbw0 hnew0 hwlt hw1 hzq
          by_cases h5 : r5 = 0
          · subst h5
            have hn : rightB ae = true ∧ ae.pos = s.ap + 1 := by
              apply Decidable.byContradiction
              intro hh
              have := (not_next hh).2
              rw [HRR.out] at this
              have : (0 : Int) = 1 ∨ (0 : Int) = 11 := this
              omega
            have hap' : s'.ap = s.ap + 1 := by
              have := (apply_grows s ae).2.2.2
              rw [HRR.out] at this
              exact this rfl
            have hoth : ∀ t, (t ≠ bt.stream ∨ r1 ≠ 1) → Idx.ofS s'.L t = Idx.ofS s.L t := by
              intro t ht
              rcases ht with ht | ht
              · have := apart_other s ae (t := t) (by rw [HAE.out]; exact ht)
                rw [HRR.out] at this
                exact this
              · have := apart_same s ae (by rw [HRR.out]; exact ht)
                rw [HRR.out] at this
                have : s'.L = s.L := this
                rw [this]
            have HOTH := Lib.hid hoth
            have HAP' := Lib.hid hap'
            clear hn hoth hap'
            go_wp2_with fail
            refine (streams_any _ q s _ _ HQ4.out (by omega)).mono ?_
            rintro e ws ⟨vk, ks, rfl, hTk, hBs, hSk⟩
            obtain ⟨Ak, ck, rfl, hk1, hk2⟩ := hSk.shape
            unfold maxLen at hk2
            have hkl := Idx.streams_len hTk
            have HTK := Lib.hid hTk
            have HSK := Lib.hid hSk
            have HBS := Lib.hid (HB4.out.trans (hBs.mono HB4.out.size))
            have HS5 := Lib.hid (HS4.out.fresh hBs)
            have HQ5 := Lib.hid (HQ4.out.fresh hBs)
            have HBK5 := Lib.hid ((Keeps.of_fresh hBs (fun _ => False)).grownTo HBK4.out id)
            have HOB5 := Lib.hid ((Keeps.of_fresh hBs (fun _ => False)).grownTo HOB.out id)
            clear hTk hSk hBs
            go_wp2_with fail
            go_loopw [14] (fun i wz => ∃ k : Nat, k ≤ ks.length ∧ i = .int .i64 k ∧ Below ws.heap.size ws wz) (fun i _ => ks.length - (intOf i).toNat)
            case atStart => exact ⟨0, Nat.zero_le _, rfl, Below.refl _ _⟩
            case round =>
              obtain ⟨k, hk, rfl, hBz⟩ := hrel
              obtain ⟨wB, rfl⟩ : ∃ x, x = wr := ⟨_, rfl⟩
              have HBz := Lib.hid hBz
              have HS6 := Lib.hid (HS5.out.fresh hBz)
              have HQ6 := Lib.hid (HQ5.out.fresh hBz)
              have hbk := (Keeps.of_fresh hBz (fun _ => False)).grownTo HBK5.out id
              have hob := (Keeps.of_fresh hBz (fun _ => False)).grownTo HOB5.out id
              have z0 : wB.cell? ⟨w.heap.size, 0, none⟩ = some (.string bt.stream) := cell_of_row wB _ 0 _ _ _ hbk
              have o0 : wB.cell? ⟨g, 0, none⟩ = some (.int .i64 r1) := cell_of_row wB _ 0 _ _ _ hob
              by_cases hlt : k < ks.length
              · obtain ⟨bn, on, rfl, _, hbn, hxx⟩ := (HSK.out.fresh hBz).cell_ hlt
                have x0 := hxx 0 _ rfl
                simp only [Nat.add_zero, Nat.mul_one] at x0
                have hsz : ks[k].size ≤ maxLen := by have := Idx.streams_size HTK.out HI.out ks[k] (List.getElem_mem hlt); unfold maxLen; omega
                clear hxx hbk hob hBz
                have dlt : decide ((k : Int) < (ks.length : Int)) = true := decide_eq_true (by omega)
                go_upto_region 22 with (fail)
                go_cut [97] (fun s97 wx => s97 = .bool (decide (ks[k] = bt.stream) && decide (r1 = 1)) ∧ Below wB.heap.size wB wx)
                case first =>
                  by_cases hst : ks[k] = bt.stream
                  · have ds := eqS_true_ hst
                    have HST := Lib.hid hst
                    clear hst
                    by_cases hc : r1 = 1
                    · subst hc
                      go_quiet (fail)
                      go_wp2_with fail
                      go_meet
                      exact ⟨by rw [decide_eq_true HST.out]; rfl, ⟨rfl, rfl, rfl, Nat.le_refl _, fun _ _ => rfl⟩⟩
                    · have dc : (r1 == 1) = false := by rw [beq_eq_false_iff_ne]; exact hc
                      have HC := Lib.hid hc
                      clear hc
                      go_quiet (fail)
                      go_wp2_with fail
                      go_meet
                      exact ⟨by rw [decide_eq_true HST.out, decide_eq_false HC.out]; rfl, ⟨rfl, rfl, rfl, Nat.le_refl _, fun _ _ => rfl⟩⟩
                  · have ds := eqS_false_ hst
                    have HST := Lib.hid hst
                    clear hst
                    go_quiet (fail)
                    go_wp2_with fail
                    go_meet
                    exact ⟨by rw [decide_eq_false HST.out]; rfl, ⟨rfl, rfl, rfl, Nat.le_refl _, fun _ _ => rfl⟩⟩
                case rest =>
                  obtain ⟨rfl, hBc⟩ := hcut
                  by_cases hb : ks[k] = bt.stream ∧ r1 = 1
                  · have db : (decide (ks[k] = bt.stream) && decide (r1 = 1)) = true := by simp [hb.1, hb.2]
                    have HBc := Lib.hid (HBz.out.trans (hBc.mono HBz.out.size))
                    rw [db]
                    clear db hb hBc
                    go_wp2_with fail
                    go_roundw
                    case rel => exact ⟨k + 1, hlt, by go_num, HBc.out⟩
                    case measure => simp [intOf]; omega
                  · have db : (decide (ks[k] = bt.stream) && decide (r1 = 1)) = false := by
                      cases hx : (decide (ks[k] = bt.stream) && decide (r1 = 1))
                      · rfl
                      · exact absurd (by simpa using hx) hb
                    rw [db]
                    have heq := HOTH.out ks[k] (by
                      by_cases h1 : ks[k] = bt.stream
                      · exact .inr (fun h2 => hb ⟨h1, h2⟩)
                      · exact .inl h1)
                    clear db hb
                    have x1 := (hBc.cell (p := ⟨bn, on + k, none⟩) hbn).trans x0
                    have hbn2 : bn < wc.heap.size := Nat.lt_of_lt_of_le hbn hBc.size
                    have HBc := Lib.hid (HBz.out.trans (hBc.mono HBz.out.size))
                    have HS7 := Lib.hid (HS6.out.fresh hBc)
                    have HQ7 := Lib.hid (HQ6.out.fresh hBc)
                    obtain ⟨wC, rfl⟩ : ∃ x, x = wc := ⟨_, rfl⟩
                    clear x0 z0 o0 hBc
                    have HV1 := Lib.hid (fun wz (hz : Below wC.heap.size wC wz) => sversion_any wz p s' F' W' (HS7.out.fresh hz) ks[k] hsz)
                    have HV2 := Lib.hid (fun wz (hz : Below wC.heap.size wC wz) => sversion_any wz q s _ _ (HQ7.out.fresh hz) ks[k] hsz)
                    have HR1 := Lib.hid (fun wz (hz : Below wC.heap.size wC wz) => sread_any wz p s' F' W' (HS7.out.fresh hz) ks[k] hsz 1 (by omega))
                    have HR2 := Lib.hid (fun wz (hz : Below wC.heap.size wC wz) => sread_any wz q s _ _ (HQ7.out.fresh hz) ks[k] hsz 1 (by omega))
                    rw [heq] at HV1 HR1
                    obtain ⟨nn, hnn⟩ : ∃ nn, (Idx.ofS s.L ks[k]).length = nn := ⟨_, rfl⟩
                    obtain ⟨xs, hxs⟩ : ∃ xs, (((Idx.ofS s.L ks[k]).drop (max (1 : Int) 1 - 1).toNat).take 16).map Idx.Kp.e = xs := ⟨_, rfl⟩
                    rw [hnn] at HV1 HV2
                    rw [hxs] at HR1 HR2
                    clear heq hnn hxs
                    go_upto_region 23 with (fail)
                    go_cut [126] (fun s126 wx => s126 = .bool false ∧ Below wC.heap.size wC wx)
                    case first =>
                      have hWd : Below wC.heap.size wC wC.drew := ⟨rfl, rfl, rfl, Nat.le_refl _, fun _ _ => rfl⟩
                      go_wp2_with fail
                      go_region_held3 (fun x => x.cell? ⟨bn, on + k, none⟩ = some (.string ks[k]))
                        (first | exact x3 | exact x2 | exact x1)
                        (first
                          | (go_at_call 14
                             first
                             | (with_reducible refine (HV1.out _ hWd).mono ?_)
                             | (with_reducible refine (HV2.out _ hWd).mono ?_)
                             rintro e wz ⟨rfl, rfl⟩)
                          | (go_at_call 18
                             (with_reducible refine (HR1.out _ (by first | exact HY2.out | exact hWd)).mono ?_)
                             rintro e w5 ⟨vP, rfl, hBP, hSP⟩
                             obtain ⟨AP, cP, rfl, hcP1, hcP2⟩ := hSP.shape
                             try (have SQ := Lib.hid (SQ.out.fresh hBP))
                             have SP := Lib.hid hSP
                             have hbb : Below wC.heap.size wC w5 := by first | exact HY2.out.trans (hBP.mono HY2.out.size) | exact hWd.trans (hBP.mono hWd.size)
                             have HY1 := Lib.hid hbb
                             have x2 := (hbb.cell (p := ⟨bn, on + k, none⟩) hbn2).trans x1
                             clear hBP hSP hbb hcP1 hcP2)
                          | (go_at_call 18
                             (with_reducible refine (HR2.out _ (by first | exact HY1.out | exact hWd)).mono ?_)
                             rintro e w6 ⟨vQ, rfl, hBQ, hSQ⟩
                             obtain ⟨AQ, cQ, rfl, hcQ1, hcQ2⟩ := hSQ.shape
                             try (have SP := Lib.hid (SP.out.fresh hBQ))
                             have SQ := Lib.hid hSQ
                             have hbb : Below wC.heap.size wC w6 := by first | exact HY1.out.trans (hBQ.mono HY1.out.size) | exact hWd.trans (hBQ.mono hWd.size)
                             have HY2 := Lib.hid hbb
                             have x3 := (hbb.cell (p := ⟨bn, on + k, none⟩) hbn2).trans x1
                             clear hBQ hSQ hbb hcQ1 hcQ2)
                          | (go_at_call 19
                             have hsm := Idx.same_any _ _ _ _ _ _ _ SP.out SQ.out
                             rw [decide_eq_true rfl] at hsm
                             refine hsm.mono ?_
                             rintro e w7 ⟨rfl, q7, rfl⟩))
                      all_goals go_wp2_with fail
                      all_goals go_meet
                      all_goals first
                        | exact ⟨rfl, HY2.out.trans ⟨rfl, rfl, rfl, Nat.le_refl _, fun _ _ => rfl⟩⟩
                        | exact ⟨rfl, HY1.out.trans ⟨rfl, rfl, rfl, Nat.le_refl _, fun _ _ => rfl⟩⟩
                    case rest =>
                      obtain ⟨rfl, hBd⟩ := hcut
                      have HBd := Lib.hid (HBc.out.trans (hBd.mono HBc.out.size))
                      clear hBd
                      go_wp2_with fail
                      go_roundw
                      case rel => exact ⟨k + 1, hlt, by go_num, HBd.out⟩
                      case measure => simp [intOf]; omega
              · have hkd : k = ks.length := by omega
                subst hkd
                have hst := fun wz (hz : Below wB.heap.size wB wz) => streams_any wz p s' F' W' (HS6.out.fresh hz) (by omega)
                have hap2' := HAP'.out
                go_wp2_with fail
                refine (applied_any _ p s' F' W' HS6.out).mono ?_
                rintro e wz ⟨rfl, rfl⟩
                go_wp2_with fail
                refine (applied_any _ q s _ _ HQ6.out).mono ?_
                rintro e wz ⟨rfl, rfl⟩
                go_wp2_with fail
                refine (hst _ (Below.refl _ _)).mono ?_
                rintro e wz ⟨v2, ks2, rfl, hTk2, hBs2, hSk2⟩
                obtain ⟨A2, c2, rfl, _, _⟩ := hSk2.shape
                have hgr2 : ks2.length ≤ ks.length + 1 := streams_grow HTK.out hTk2 (st := bt.stream) (fun t ht => HOTH.out t (.inl ht))
                have dfin : decide ((ks2.length : Int) ≤ (ks.length : Int) + 1) = true := decide_eq_true (by omega)
                have HB2 := Lib.hid hBs2
                clear hBs2 hSk2 hTk2 hst
                go_wp2_with fail
                go_ret
                exact ⟨rfl, HB0.out.trans ((HBS.out.trans ((HBz.out.trans (HB2.out.mono HBz.out.size)).mono HBS.out.size)).mono HB0.out.size)⟩
          · have hs : s' = s := by
              have hh : ¬ (rightB ae = true ∧ ae.pos = s.ap + 1) := fun hh => h5 (by have := apply_ok hh.1 hh.2; rw [HRR.out] at this; exact this)
              have := (not_next hh).1
              rw [HRR.out] at this
              exact this
            have d5 : (r5 != 0) = true := by simp [h5]
            have HS4' : Hid (StAt wc p s F' W') := Lib.hid (hs ▸ HS4.out)
            clear h5 hs
            go_wp2_with fail
            refine (applied_any _ p s F' W' HS4'.out).mono ?_
            rintro e wz ⟨rfl, rfl⟩
            go_wp2_with fail
            refine (applied_any _ q s _ _ HQ4.out).mono ?_
            rintro e wz ⟨rfl, rfl⟩
            go_wp2_with fail
            go_ret
            exact ⟨rfl, HB0.out.trans (HB4.out.mono HB0.out.size)⟩
end Go.Proofs.YtlfhokcjbgpjhaaDoor
