/- RecordCuts. -/
import Derived.Test.YtimfoijajafdpaaDoorRecI
import Derived.Test.YtimfoijajafdpaaDoorRecF
import Derived.Test.YtimfoijajafdpaaDoorBlR
import Derived.Test.YtimfoijajafdpaaDoorBlQ
namespace Go.Proofs.YtimfoijajafdpaaDoor
open Go.RowKit Go.Bl
attribute [local go_sem ↓] Go.wp_at_zero Go.wp_at_succ

theorem sl_map {α β : Type} {w : World} {F : Nat → Prop} {k : Nat} {enc : β → List Value} {v : Value} {L : List α} (f : α → β) : Sl w F k (fun x => enc (f x)) v L ↔ Sl w F k enc v (L.map f) := by
  constructor
  · rintro ⟨A, c, h1, h2, h3, h4⟩
    refine ⟨A, c, by rw [List.length_map]; exact h1, by rw [List.length_map]; exact h2, h3, fun h0 => ?_⟩
    rw [List.length_map] at h0
    obtain ⟨b, o, e1, e2, e3, e4⟩ := h4 h0
    refine ⟨b, o, e1, e2, e3, fun i hi j u hu => ?_⟩
    have hi' : i < L.length := by simpa using hi
    rw [List.getElem_map] at hu
    exact e4 i hi' j u hu
  · rintro ⟨A, c, h1, h2, h3, h4⟩
    rw [List.length_map] at h1 h2
    refine ⟨A, c, h1, h2, h3, fun h0 => ?_⟩
    obtain ⟨b, o, e1, e2, e3, e4⟩ := h4 (by rw [List.length_map]; exact h0)
    refine ⟨b, o, e1, e2, e3, fun i hi j u hu => ?_⟩
    exact e4 i (by rw [List.length_map]; exact hi) j u (by rw [List.getElem_map]; exact hu)
/-- Entries whose slice of events is one cell. -/
structure EntS where
  val : Ent
  one : val.evv.oneCell' = true
def ensc (a : EntS) : List Value := entc a.val
theorem ensc_one (x : EntS) (u : Value) (h : u ∈ ensc x) : u.oneCell' = true := by
  simp only [ensc, entc, List.mem_cons, List.not_mem_nil, or_false] at h
  rcases h with rfl | rfl | rfl | rfl | rfl | rfl | rfl <;> first | rfl | exact x.one
theorem elEns : El Tryd.prog 24 29 7 80 ensc := ⟨Tryd.underlying24, ⟨_, infoEntry, rfl⟩, by decide, by decide, fun _ => rfl, ensc_one⟩

theorem lift_ents (l : List Ent) (h : ∀ a ∈ l, a.evv.oneCell' = true) : ∃ L : List EntS, L.map (fun x => x.val) = l := by
  induction l with
  | nil => exact ⟨[], rfl⟩
  | cons a l ih =>
    obtain ⟨L, hL⟩ := ih (fun b hb => h b (List.mem_cons_of_mem _ hb))
    exact ⟨⟨a, h a List.mem_cons_self⟩ :: L, by rw [List.map_cons, hL]⟩
theorem Ents.any {w : World} {G : Nat → Prop} {v : Value} {l : List Ent} (h : Ents w G v l) : Ents w (fun _ => True) v l := ⟨h.1.mono (fun _ _ _ => trivial), fun a ha => ⟨(h.2 a ha).1.mono (fun _ _ _ => trivial), (h.2 a ha).2⟩⟩

set_option maxRecDepth 10000 in
set_option maxHeartbeats 4000000 in
theorem cuts_any (w : World) (hT : Tabs w) (G : Nat → Prop) (v : Value) (l : List Ent) (h : EntsOk w G v l) (at_ : Int) :
    Calls Tryd.prog 5 #[v, .int .i64 at_] w fun x w' => x = .returned (.bool true) ∧ Below w.heap.size w w' := by
  obtain ⟨A, c, rfl, hA1, hA2⟩ := h.1.shape
  unfold maxLen at hA2
  have hmx := @run_gmax Tryd.prog
  have HT := Lib.hid hT
  have HA := Lib.hid h
  clear hT h
  go_enter Tryd.func5, Tryd.ntmps5
  go_wp2_with fail
  refine (shown_any w HT.out).mono ?_
  rintro e w1 ⟨rfl, hB1⟩
  have HB1 := Lib.hid hB1
  clear hB1
  go_wp2_with fail
  refine (small_any w1 G _ l (HA.out.fresh HB1.out)).mono ?_
  rintro x w2 ⟨rfl, hB2⟩
  have HB2 := Lib.hid (HB1.out.trans (hB2.mono HB1.out.size))
  clear hB2
  cases hsm : smallB l
  · go_wp2_with fail
    go_ret
    exact ⟨rfl, HB2.out⟩
  have hl40 := (smallB_at hsm).1
  by_cases hl2 : l.length < 2
  · have d1 : decide ((l.length : Int) < 2) = true := by simp; omega
    go_wp2_with fail
    go_ret
    exact ⟨rfl, HB2.out⟩
  have d1 : decide ((l.length : Int) < 2) = false := by simp; omega
  have h0l : 0 < l.length := by omega
  have HEn := Lib.hid ((HA.out.fresh HB2.out).ents hsm)
  obtain ⟨b, o, rfl, _, hbl, hxx⟩ := HEn.out.1.cell_ h0l
  have x0 := hxx 0 _ rfl
  simp only [Nat.add_zero, Nat.zero_mul] at x0
  have hi0 := (HA.out.2 l[0] (List.getElem_mem h0l)).2.2.2
  have HTz := Lib.hid (HT.out.fresh HB2.out)
  have hfo := fun (wz : World) (hz : Below w2.heap.size w2 wz) (p e : Int) => follows_any wz (HTz.out.fresh hz) G _ l (HEn.out.fresh hz) (by omega) p e
  have HFO := Lib.hid hfo
  clear hfo hxx
  generalize hp0 : l[0].pos = p0 at x0 hi0
  have HP0 := Lib.hid hp0
  clear hp0
  go_wp2_with fail
  refine (HFO.out w2 (Below.refl _ _) _ _).mono ?_
  rintro x w3 ⟨rfl, hB3⟩
  have HB3 := Lib.hid hB3
  have x0 := (hB3.cell (p := ⟨b, _, none⟩) hbl).trans x0
  clear hB3
  cases hf : followsB l (wrap64 (p0 - 1)) 0
  · go_wp2_with fail
    go_ret
    exact ⟨rfl, HB2.out.trans (HB3.out.mono HB2.out.size)⟩
  have hcons := follows_cons (a := l[0]) (l := l.drop 1) (by rw [← List.drop_eq_getElem_cons h0l]; exact hf)
  have hp1 := right_pos hcons.2.2.1
  rw [HP0.out] at hp1
  obtain ⟨hp1, hp2⟩ := hp1
  have hw : wrap64 (p0 - 1) = p0 - 1 := by unfold wrap64; omega
  rw [hw] at hf
  have hFp := follows_pos hf (by omega) (by omega)
  have hmp := mag_bound at_ ((l.length : Int) - 1) (by omega) (by omega)
  obtain ⟨j, hj⟩ : ∃ j : Nat, gmax (at_.tmod ((l.length : Int) - 1)) (wrap64 (-(at_.tmod ((l.length : Int) - 1)))) = (j : Int) := ⟨(gmax (at_.tmod ((l.length : Int) - 1)) (wrap64 (-(at_.tmod ((l.length : Int) - 1))))).toNat, by omega⟩
  rw [hj] at hmp
  have hjl : j + 1 < l.length := by omega
  have hz0 : ((l.length : Int) - 1 == 0) = false := by rw [beq_eq_false_iff_ne]; omega
  have hz1 : ¬ ((l.length : Int) - 1 = 0) := by omega
  clear hmp
  have hF1 := follows_take hf (j + 1)
  have hF2 := follows_drop hf (k := j) (by omega)
  have hF3 : followsB (l.take j ++ l.drop (j + 1)) (p0 - 1) 0 = false := by
    have hi : j < (l.take j ++ l.drop (j + 1)).length := by rw [List.length_append, List.length_take, List.length_drop]; omega
    refine follows_gap (by omega) (by omega) hi ?_
    rw [List.getElem_append_right (by rw [List.length_take]; omega), List.getElem_drop, (hFp _ _).1]
    rw [List.length_take]
    omega
  have hF4 : followsB l p0 0 = false := follows_gap (by omega) (by omega) h0l (by rw [HP0.out]; omega)
  have hch : ∀ w : World, (Instr.slice 24 (.slice (some ⟨b, o, none⟩) l.length c) none (some (.int .i64 (1 + (j : Int)))) none).run Tryd.prog w = .ok (.slice (cutA (some ⟨b, o, none⟩) c 0 7) (j + 1) c) w := fun w => by
    have := run_cut_high (P := Tryd.prog) Tryd.underlying24 sizeEntry (some ⟨b, o, none⟩) l.length c (1 + (j : Int)) (by omega) (by omega) w
    rwa [show (1 + (j : Int)).toNat = j + 1 by omega] at this
  have hcl : ∀ w : World, (Instr.slice 24 (.slice (some ⟨b, o, none⟩) l.length c) (some (.int .i64 (1 + (j : Int)))) none none).run Tryd.prog w = .ok (.slice (cutA (some ⟨b, o, none⟩) c (j + 1) 7) (l.length - (j + 1)) (c - (j + 1))) w := fun w => by
    have := run_cut_low (P := Tryd.prog) Tryd.underlying24 sizeEntry (some ⟨b, o, none⟩) l.length c (1 + (j : Int)) (by omega) (by omega) w
    rwa [show (1 + (j : Int)).toNat = j + 1 by omega] at this
  have hcm : ∀ w : World, (Instr.slice 24 (.slice (some ⟨b, o, none⟩) l.length c) none (some (.int .i64 (j : Int))) none).run Tryd.prog w = .ok (.slice (cutA (some ⟨b, o, none⟩) c 0 7) j c) w := fun w => by
    simpa using run_cut_high (P := Tryd.prog) Tryd.underlying24 sizeEntry (some ⟨b, o, none⟩) l.length c (j : Int) (by omega) (by omega) w
  have HF1 := Lib.hid hF1
  have HF2 := Lib.hid hF2
  have HF3 := Lib.hid hF3
  have HF4 := Lib.hid hF4
  clear hcons hFp hF1 hF2 hF3 hF4 hf
  go_wp2_with fail
  go_quiet (fail)
  clear hj hz0 hz1
  go_wp2_with fail
  refine region_mid 8 rfl (by kernel_rfl) (by kernel_rfl) ?_
  simp only [List.take_succ_cons, List.take_zero, List.drop_succ_cons, List.drop_zero]
  change wpStill _ _ (w3.drewN nq).drew _ _ _
  refine still_of_quiet ?_
  repeat (go_big_quiet_step (fail))
  refine wpQuiet_nil ?_
  change wpList _ _ _ _ _ (w3.drewN nq).drew
  go_wp2_with fail
  have hTk : Ents w2 G (.slice (cutA (some ⟨b, o, none⟩) c 0 7) (j + 1) c) (l.take (j + 1)) := ⟨HEn.out.1.take_ (by omega), fun a ha => HEn.out.2 a (List.mem_of_mem_take ha)⟩
  have hDr : Ents w2 G (.slice (cutA (some ⟨b, o, none⟩) c (j + 1) 7) (l.length - (j + 1)) (c - (j + 1))) (l.drop (j + 1)) := ⟨HEn.out.1.drop_ (by omega), fun a ha => HEn.out.2 a (List.mem_of_mem_drop ha)⟩
  have HB4 := Lib.hid (show Below w2.heap.size w2 (w3.drewN (nq + 1)) from HB3.out.trans ⟨rfl, rfl, rfl, Nat.le_refl _, fun _ _ => rfl⟩)
  refine (follows_any _ (HTz.out.fresh HB4.out) G _ _ (hTk.fresh HB4.out) (by rw [List.length_take]; omega) _ _).mono ?_
  rw [HF1.out]
  rintro x w5 ⟨rfl, hB5⟩
  have HB5 := Lib.hid (HB4.out.trans (hB5.mono HB4.out.size))
  clear hB5 hTk
  go_wp2_with fail
  unfold Go.Bl.Rest
  refine still_of_quiet ?_
  repeat (go_big_quiet_step (fail))
  refine wpQuiet_nil ?_
  have hjl' : j < l.length := by omega
  obtain ⟨b9, o9, he9, _, _, hx9⟩ := (HEn.out.fresh HB5.out).1.cell_ hjl'
  injection he9 with he9
  injection he9 with he9 he10
  subst he9 he10
  have y0 := hx9 0 _ rfl
  have y1 := hx9 1 _ rfl
  simp only [Nat.add_zero] at y0
  generalize l[j].pos = pj at y0 HF2
  generalize l[j].epoch = ej at y1 HF2
  clear hx9 x0
  go_wp2_with fail
  refine region_mid 15 rfl (by kernel_rfl) (by kernel_rfl) ?_
  simp only [List.take_succ_cons, List.take_zero, List.drop_succ_cons, List.drop_zero]
  change wpStill _ _ w5.drew _ _ _
  refine still_of_quiet ?_
  repeat (go_big_quiet_step (fail))
  refine wpQuiet_nil ?_
  change wpList _ _ _ _ _ w5.drew
  go_wp2_with fail
  have HB6 := Lib.hid (show Below w2.heap.size w2 w5.drew from HB5.out.trans ⟨rfl, rfl, rfl, Nat.le_refl _, fun _ _ => rfl⟩)
  refine (follows_any _ (HTz.out.fresh HB6.out) G _ _ (hDr.fresh HB6.out) (by rw [List.length_drop]; omega) _ _).mono ?_
  rw [HF2.out]
  rintro x w7 ⟨rfl, hB7⟩
  have HB7 := Lib.hid (HB6.out.trans (hB7.mono HB6.out.size))
  clear hB7 y0 y1
  go_wp2_with fail
  unfold Go.Bl.Rest
  refine still_of_quiet ?_
  repeat (go_big_quiet_step (fail))
  refine wpQuiet_nil ?_
  go_wp2_with fail
  have hb7 : b < w7.heap.size := Nat.lt_of_lt_of_le hbl HB7.out.size
  have hEl := (HEn.out.fresh HB7.out).any
  obtain ⟨_, _, he, _, hxx⟩ := hEl.1.cell_ h0l
  injection he with he
  injection he with he he'
  subst he he'
  have z7 := hxx.2 0 _ rfl
  simp only [Nat.add_zero, Nat.zero_mul] at z7
  rw [HP0.out] at z7
  obtain ⟨L, hL⟩ := lift_ents l (fun a ha => by
    obtain ⟨A', c', hv, _, _⟩ := (hEl.2 a ha).1.shape
    rw [hv]; rfl)
  have hLl : L.length = l.length := by rw [← hL, List.length_map]
  have hSL : Sl w7 (fun _ => True) 7 ensc (.slice (some ⟨b, o, none⟩) l.length c) L := (sl_map (enc := entc) (fun x : EntS => x.val)).2 (by rw [hL]; exact hEl.1)
  have HSL := Lib.hid hSL
  have HEl := Lib.hid hEl
  have HLL := Lib.hid hL
  have hj1 : j ≤ L.length := by omega
  have hj2 : j + 1 ≤ L.length := by omega
  have hL40 : L.length ≤ 40 := by omega
  have hjp : IntKind.i64.wrap (1 + (j : Int) - 1) = (j : Int) := by rw [show 1 + (j : Int) - 1 = j by omega]; exact IntWalk.i64_in _ (by omega)
  clear hxx hEl hSL hL
  go_region_held3 (fun x => x.cell? ⟨b, o, none⟩ = some (.int .i64 p0))
    (first | go_keep)
    (first
      | (refine elEns.step _ (by rfl) (.tmp 79) (.tmp 82) (by rfl) w7.heap.size v1 _ (by rfl) hown1 _ (.slice (cutA (some ⟨b, o, none⟩) c (j + 1) 7) (l.length - (j + 1)) (c - (j + 1))) (L.drop (j + 1)) (by rfl) ((HSL.out.drop_ hj2).fresh hba.out) ?_ ?_ ?_
         · simp only [List.nil_append, List.length_take, List.length_drop]; omega
         · exact hba.out.size
         intro v2 w2' hown2 hg2 hat2
         have hbc : Hid (Below w7.heap.size w7 w2') := Lib.hid (hba.out.grown hg2 hba.out.size (fun q hq => hlow1.out q hq))
         have z42 := (hbc.out.cell (p := ⟨b, o, none⟩) hb7).trans z7)
      | (refine elEns.step _ (by rfl) (.tmp 74) (.tmp 78) (by rfl) w7.heap.size (.slice (some ⟨w7.heap.size, 0, none⟩) 0 0) [] (by rfl) ?g4 _ (.slice (cutA (some ⟨b, o, none⟩) c 0 7) j c) (L.take j) (by rfl) (((HSL.out.drewN 1).take_ hj1).fresh ((Below.refl w7.heap.size w7.drew).alloc (Nat.le_refl _) _)) ?g8 ?g9 ?_
         case g4 => exact Own.made w7.drew (Nat.le_refl _) _ _ _
         case g8 => rw [List.length_take]; simp; omega
         case g9 => simp
         intro v1 w1' hown1 hg1 hat1
         have hba : Hid (Below w7.heap.size w7 w1') := Lib.hid (((show Below w7.heap.size w7 w7.drew from ⟨rfl, rfl, rfl, Nat.le_refl _, fun _ _ => rfl⟩).alloc (Nat.le_refl _) _).grown hg1 (by simp) (fun q hq => by simp [Value.ownBlock] at hq; omega))
         have hlow1 : Hid (∀ q, v1.ownBlock = some q → w7.heap.size ≤ q) := Lib.hid (fun q hq => by rcases hat1 with e | e <;> rw [e] at hq <;> simp [Value.ownBlock] at hq <;> omega)
         have z41 := (hba.out.cell (p := ⟨b, o, none⟩) hb7).trans z7))
  have hS2 := (sl_map (enc := entc) (fun x : EntS => x.val)).1 (hown2.sl (fun _ => rfl))
  rw [List.nil_append, List.map_append, List.map_take, List.map_drop, HLL.out] at hS2
  have hE2 : Ents w2' (fun _ => True) v2 (l.take j ++ l.drop (j + 1)) := ⟨hS2.mono (fun _ _ _ => trivial), fun a ha => by
    have := fun a ha => ((HEl.out.fresh hbc.out).2 a ha)
    rcases List.mem_append.1 ha with h | h
    · exact this a (List.mem_of_mem_take h)
    · exact this a (List.mem_of_mem_drop h)⟩
  have HB8 := Lib.hid (HB7.out.trans (hbc.out.mono HB7.out.size))
  have HE2 := Lib.hid hE2
  clear hS2 hE2 hown2 hown1 hg1 hg2 hat1 hat2
  go_wp2_with fail
  refine (follows_any _ (HTz.out.fresh HB8.out) _ _ _ HE2.out (by rw [List.length_append, List.length_take, List.length_drop]; omega) _ _).mono ?_
  rw [HF3.out]
  rintro x w9 ⟨rfl, hB9⟩
  have HB9 := Lib.hid (HB8.out.trans (hB9.mono HB8.out.size))
  have z9 := (hB9.cell (p := ⟨b, o, none⟩) (Nat.lt_of_lt_of_le hbl HB8.out.size)).trans z42
  clear hB9
  go_wp2_with fail
  refine (follows_any _ (HTz.out.fresh HB9.out) _ _ _ (HEn.out.fresh HB9.out) (by omega) _ _).mono ?_
  rw [HF4.out]
  rintro x w10 ⟨rfl, hB10⟩
  have HB10 := Lib.hid (HB9.out.trans (hB10.mono HB9.out.size))
  clear hB10
  go_wp2_with fail
  go_ret
  exact ⟨rfl, HB2.out.trans (HB10.out.mono HB2.out.size)⟩
end Go.Proofs.YtimfoijajafdpaaDoor
