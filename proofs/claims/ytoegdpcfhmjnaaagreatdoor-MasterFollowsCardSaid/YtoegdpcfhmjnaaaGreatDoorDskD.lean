/- The disk: Append. Under the stated premises on sizes. -/
import Derived.Test.YtoegdpcfhmjnaaaGreatDoorDskB
import Derived.Test.YtoegdpcfhmjnaaaGreatDoorTxtA
import Derived.Deep.CutBlock
import Derived.Deep.DeepCutAuto
namespace Go.Proofs.YtoegdpcfhmjnaaaGreatDoor
open Go.RowKit Go.Bl
attribute [local go_sem ↓] Go.wp_at_zero Go.wp_at_succ

def growF (s : ByteArray) (f : Fl) : Fl := { f with bytes := f.bytes ++ s }
def Dk.grow (d : Dk) (x s : ByteArray) : Dk := ⟨d.room, updL x (growF s) d.L⟩
def Dk.put (d : Dk) (x s : ByteArray) : Dk := ⟨d.room, d.L ++ [⟨x, s, 0⟩]⟩
/-- Append: the error and the disk. -/
def Dk.app (d : Dk) (x s : ByteArray) : Int × Dk :=
  if nameB x = false then (1, d)
  else match d.find x with
    | none => if 40 ≤ d.L.length then (4, d) else if d.room - d.used < s.size then (8, d) else (0, d.put x s)
    | some _ => if d.room - d.used < s.size then (8, d) else (0, d.grow x s)
theorem total_append (L M : List Fl) : total (L ++ M) = total L + total M := by simp [total]
theorem total_grow (s : ByteArray) : ∀ (L : List Fl) (f : Fl), (L.map Fl.name).Nodup → f ∈ L → total (updL f.name (growF s) L) = total L + s.size
  | g :: L, f, hn, hf => by
    rw [List.map_cons, List.nodup_cons] at hn
    rcases List.mem_cons.1 hf with rfl | hf
    · have h0 : updL f.name (growF s) L = L := by
        unfold updL
        conv => rhs; rw [← List.map_id L]
        refine List.map_congr_left fun q hq => ?_
        rw [if_neg (fun e => hn.1 (List.mem_map.2 ⟨q, hq, e⟩))]
        rfl
      show total ((if f.name = f.name then growF s f else f) :: updL f.name (growF s) L) = _
      rw [if_pos rfl, h0]
      show ((growF s f :: L).map fun f => f.bytes.size).sum = ((f :: L).map fun f => f.bytes.size).sum + _
      rw [List.map_cons, List.map_cons, List.sum_cons, List.sum_cons]
      show (f.bytes ++ s).size + _ = _
      rw [ByteArray.size_append]
      omega
    · have hne : g.name ≠ f.name := fun e => hn.1 (List.mem_map.2 ⟨f, hf, e.symm⟩)
      show total ((if g.name = f.name then growF s g else g) :: updL f.name (growF s) L) = _
      rw [if_neg hne]
      have := total_grow s L f hn.2 hf
      show ((g :: _).map fun f => f.bytes.size).sum = ((g :: L).map fun f => f.bytes.size).sum + _
      rw [List.map_cons, List.map_cons, List.sum_cons, List.sum_cons]
      unfold total at this
      omega
/-- One file more. -/
theorem DskR.ins {w w' : World} {p : Nat} {room u u' : Int} {L : List Fl} {F : Nat → Prop} {bm : Nat} {R : List (Nat × Fl)} (h : DskR w p room u L F bm R) {b : Nat} {f : Fl} (hbl : w.heap.size ≤ b)
    (hk : Keeps (fun k => k = bm ∨ k = p) w w') (hmap : MapL w' Tryz.prog 9 strLit bm (rowsD R ++ [(f.name, ptr b)])) (hblk : w'.heap[b]? = some (.cells (flc f).toArray 111 (0, 0))) (hp : w'.heap[p]? = some (.cells #[.int .i64 room, .int .i64 u', .map (some bm)] 106 (0, 0))) :
    DskR w' p room u' (L ++ [f]) (fun k => F k ∨ (w.heap.size ≤ k ∧ k < w'.heap.size)) bm (R ++ [(b, f)]) := by
  have hb' := (Array.getElem?_eq_some_iff.1 hblk).1
  refine ⟨hp, by rw [List.map_append, h.rL]; rfl, by unfold rowsD at hmap ⊢; rw [List.map_append]; exact hmap, fun r hr => ?_, ?_, .inl h.fp, .inl h.fm, fun r hr => ?_, fun k hk2 => hk2.elim (fun e => Nat.lt_of_lt_of_le (h.lt k e) hk.size) (fun e => e.2)⟩
  · rcases List.mem_append.1 hr with hr | hr
    · exact hk.grownTo (h.rows r hr) (fun e => e.elim (fun e => h.r_ne hr e) (fun e => h.p_row hr e))
    · obtain rfl := List.mem_singleton.1 hr
      exact hblk
  · rw [List.map_append, ← List.cons_append, List.nodup_append]
    refine ⟨h.dist, by simp, fun a ha c hc => ?_⟩
    simp only [List.map_cons, List.map_nil, List.mem_singleton] at hc
    have : a < w.heap.size := by
      rcases List.mem_cons.1 ha with rfl | ha
      · exact h.lt _ h.fp
      · obtain ⟨r, hr, rfl⟩ := List.mem_map.1 ha
        exact h.lt _ (h.fr r hr)
    omega
  · rcases List.mem_append.1 hr with hr | hr
    · exact .inl (h.fr r hr)
    · obtain rfl := List.mem_singleton.1 hr
      exact .inr ⟨hbl, hb'⟩
theorem Dk.Ok.ins {d : Dk} (h : d.Ok) {x s : ByteArray} (hx : x.size ≤ 1000000) (hl : d.L.length < 40) (hr : ¬ d.room - d.used < s.size) : (d.put x s).Ok := by
  refine ⟨h.room1, h.room2, ?_, by show (d.L ++ _).length ≤ 40; simp; omega, fun f hf => ?_, fun f hf => ?_⟩
  · show (total (d.L ++ [⟨x, s, 0⟩]) : Int) ≤ d.room
    rw [total_append]
    show ((total d.L + (s.size + 0) : Nat) : Int) ≤ _
    unfold Dk.used at hr
    omega
  · rcases List.mem_append.1 hf with hf | hf
    · exact h.syn f hf
    · obtain rfl := List.mem_singleton.1 hf
      exact ⟨Int.le_refl _, by show (0 : Int) ≤ (s.size : Int); omega⟩
  · rcases List.mem_append.1 hf with hf | hf
    · exact h.nms f hf
    · obtain rfl := List.mem_singleton.1 hf
      exact hx

set_option maxHeartbeats 2000000 in
set_option maxRecDepth 8000 in
theorem append_any (w : World) (p : Nat) (d : Dk) (F : Nat → Prop) (h : DskAt w p d F) (hT : Tabs w) (x s : ByteArray) (hx : x.size ≤ 1000000) (hs : s.size ≤ 1000000000000000) :
    Calls Tryz.prog 55 #[.pointer (some ⟨p, 0, none⟩), .string x, .string s] w fun e w' => e = .returned (.int .i64 (d.app x s).1) ∧ Keeps F w w' ∧ DskAt w' p (d.app x s).2 (fun k => F k ∨ (w.heap.size ≤ k ∧ k < w'.heap.size)) := by
  obtain ⟨bm, R, h⟩ := h
  have c2 := h.c2
  have hu0 : 0 ≤ d.used := by unfold Dk.used; omega
  have hu1 : d.used ≤ d.room := h.ok.used
  have hr2 := h.ok.room2
  have hr1 := h.ok.room1
  have hxm : x.size ≤ maxLen := by unfold maxLen; omega
  have HT := Lib.hid hT
  have H := Lib.hid h
  have hsame : ∀ w', Below w.heap.size w w' → DskAt w' p d (fun k => F k ∨ (w.heap.size ≤ k ∧ k < w'.heap.size)) := fun w' hB =>
    (DskAt.fresh ⟨bm, R, h⟩ hB).mono (fun k e => .inl e) (fun k e => e.elim (fun e => Nat.lt_of_lt_of_le (h.lt k e) hB.size) (fun e => e.2))
  have HS := Lib.hid hsame
  have Hn : Hid (x.size ≤ 1000000000000000) := Lib.hid (by omega)
  have Hx := Lib.hid hx
  clear hT h hsame hx
  cases hf : d.find x with
  | none =>
    have hl := H.out.lookN hxm (find_none.1 hf)
    have HF := Lib.hid hf
    clear hf
    go_enter Tryz.func55, Tryz.ntmps55
    go_wp2_with fail
    refine (name_any w HT.out x Hn.out).mono ?_
    rintro e w1 ⟨rfl, hB1⟩
    have H1 := Lib.hid (H.out.keep (Keeps.of_fresh hB1 fun _ => False) (fun _ _ => id))
    have c0 := H1.out.c0
    have c1 := H1.out.c1
    have c2 := H1.out.c2
    have hml := H1.out.maplen
    have HB1 := Lib.hid hB1
    clear hB1
    cases hn : nameB x
    · go_wp2_with fail
      go_ret
      have : d.app x s = (1, d) := by unfold Dk.app; rw [if_pos hn]
      rw [this]
      exact ⟨rfl, Keeps.of_fresh HB1.out F, HS.out _ HB1.out⟩
    · by_cases h40 : 40 ≤ d.L.length
      · have d40 : decide ((40 : Int) ≤ (d.L.length : Int)) = true := by simp; omega
        go_wp2_with fail
        go_ret
        have : d.app x s = (4, d) := by unfold Dk.app; rw [if_neg (by rw [hn]; decide), HF.out]; show (if _ then _ else _) = _; rw [if_pos h40]
        rw [this]
        exact ⟨rfl, Keeps.of_fresh HB1.out F, HS.out _ HB1.out⟩
      · have d40 : decide ((40 : Int) ≤ (d.L.length : Int)) = false := by simp; omega
        by_cases hfull : d.room - d.used < s.size
        · have d8 : decide (d.room - d.used < (s.size : Int)) = true := by simp; omega
          go_wp2_with fail
          go_quiet (fail)
          go_wp2_with fail
          go_ret
          have hB2 : Below w.heap.size w (w1.drewN nq) := HB1.out.trans ⟨rfl, rfl, rfl, Nat.le_refl _, fun _ _ => rfl⟩
          have : d.app x s = (8, d) := by unfold Dk.app; rw [if_neg (by rw [hn]; decide), HF.out]; show (if _ then _ else _) = _; rw [if_neg h40, if_pos hfull]
          rw [this]
          exact ⟨rfl, Keeps.of_fresh hB2 F, HS.out _ hB2⟩
        · have d8 : decide (d.room - d.used < (s.size : Int)) = false := by simp; omega
          have hlen := H1.out.len
          go_wp2_with fail
          go_quiet (fail)
          have hB2 : Below w.heap.size w (w1.drewN nq) := HB1.out.trans ⟨rfl, rfl, rfl, Nat.le_refl _, fun _ _ => rfl⟩
          generalize w1.drewN nq = w2 at hB2 ⊢
          have h2 := H.out.keep (Keeps.of_fresh hB2 fun _ => False) (fun _ _ => id)
          have HB2 := Lib.hid hB2
          clear c0 c1 c2 hml H1 HB1 hl hlen
          go_upto_region 10 with (fail)
          have hblk3 := heap_alloc_new w2 (.cells #[.string ⟨#[]⟩, .int .i64 0] 111)
          have hk3 := (Keeps.refl (fun _ => False) w2).alloc (.cells #[.string ⟨#[]⟩, .int .i64 0] 111)
          generalize w2.alloc (.cells #[.string ⟨#[]⟩, .int .i64 0] 111) = w3 at hblk3 hk3 ⊢
          have h3 := h2.keep hk3 (fun _ _ => id)
          have hbw := h2.lt
          obtain ⟨b, hb⟩ : ∃ b, w2.heap.size = b := ⟨_, rfl⟩
          rw [hb] at hblk3 hbw ⊢
          have c2 := h3.c2
          obtain ⟨w4, hrun, hmap4, hgr4, hsz4, _⟩ := h3.map.store lawS strLit_inj Tryz.underlying104 (by rw [rowsD_len, h3.len]; unfold maxLen; omega) (x := x) (keyS hxm) (getD_none fun r hr e => find_none.1 HF.out r.2 (h3.mem hr) e) (.pointer (some ⟨b, 0, none⟩))
          have hk4 : Keeps (fun k => k = bm) w3 w4 := (Keeps.of_grown hgr4).mono fun _ _ e => by simpa using e.symm
          have hbm := hbw bm h2.fm
          have hblk4 := hk4.grownTo hblk3 (fun e => by omega)
          have hp4 := hk4.grownTo h3.blk h3.p_ne
          have HM4 := Lib.hid hmap4
          have HK4 := Lib.hid hk4
          have HK3 := Lib.hid hk3
          have H3 := Lib.hid h3
          have H2 := Lib.hid h2
          have hpb : p < b := hbw p h2.fp
          clear hmap4 hgr4 hsz4 hk4 hk3 h3 h2 hbw
          go_upto_region 11 with (fail)
          have b0 : w4.cell? ⟨b, 0, none⟩ = some (.string ⟨#[]⟩) := cell_of_row w4 b 0 _ _ _ hblk4
          have f0 : w4.frozen? ⟨b, 0, none⟩ = false := frozen_block hblk4 0
          have HBL := Lib.hid hblk4
          have HP4 := Lib.hid hp4
          clear c2 hrun hblk4 hp4 hblk3
          go_upto_region 12 with (fail)
          have hk5 := Keeps.one w4 b 0 (.string (⟨#[]⟩ ++ s))
          have hblk5 := setCell_block (o := 0) HBL.out (.string (⟨#[]⟩ ++ s))
          generalize w4.setCell ⟨b, 0, none⟩ (.string (⟨#[]⟩ ++ s)) = w5 at hk5 hblk5 ⊢
          have hp5 := hk5.grownTo HP4.out (fun e => by omega)
          have c1 : w5.cell? ⟨p, 1, none⟩ = some (.int .i64 d.used) := cell_of_row w5 p 1 _ _ _ hp5
          have f1 : w5.frozen? ⟨p, 1, none⟩ = false := frozen_block hp5 1
          have HB5 := Lib.hid hblk5
          have HP5 := Lib.hid hp5
          have HK5 := Lib.hid hk5
          clear hblk5 hp5 hk5 b0 f0 HBL HP4
          go_wp2_with fail
          go_ret
          have hk6 := Keeps.one w5 p 1 (.int .i64 (d.used + (s.size : Int)))
          have hblk6 := hk6.grownTo HB5.out (fun e => by omega)
          have hp6 := setCell_block (o := 1) HP5.out (.int .i64 (d.used + (s.size : Int)))
          generalize w5.setCell ⟨p, 1, none⟩ (.int .i64 (d.used + (s.size : Int))) = w6 at hk6 hblk6 hp6 ⊢
          have hmap6 := (HM4.out.keep HK5.out (show ¬ bm = b by omega)).keep hk6 (fun e => H2.out.p_ne e.symm)
          have hk : Keeps (fun k => k = bm ∨ k = p) w2 w6 := (((HK3.out.mono fun _ _ h => h.elim).andThen HK4.out (fun _ _ e => .inl e)).andThen HK5.out (fun i hi e => by omega)).andThen hk6 (fun _ _ e => .inr e)
          have he : (⟨#[]⟩ ++ s : ByteArray) = s := ByteArray.empty_append
          rw [he] at hblk6
          have hr := H2.out.toDskR.ins (b := b) (f := ⟨x, s, 0⟩) (Nat.le_of_eq hb) hk hmap6 hblk6 hp6
          have : d.app x s = (0, d.put x s) := by unfold Dk.app; rw [if_neg (by rw [hn]; decide), HF.out]; show (if _ then _ else _) = _; rw [if_neg h40, if_neg (by omega)]
          rw [this]
          have hu : d.used + (s.size : Int) = (d.put x s).used := by
            show (total d.L : Int) + _ = (total (d.L ++ [⟨x, s, 0⟩]) : Int)
            rw [total_append]
            show _ = ((total d.L + (s.size + 0) : Nat) : Int)
            omega
          rw [hu] at hr
          have hsz2 := HB2.out.size
          refine ⟨rfl, (Keeps.of_fresh HB2.out F).andThen hk (fun k _ e => by rcases e with rfl | rfl; exact H.out.fm; exact H.out.fp), bm, _, hr.mono (fun k e => e.imp id fun e => ⟨by omega, e.2⟩) (fun k e => e.elim (fun e => Nat.lt_of_lt_of_le (H2.out.lt k e) hk.size) fun e => e.2), H.out.ok.ins Hx.out (by omega) (by omega)⟩
  | some f =>
    obtain ⟨hfL, rfl⟩ := find_some hf
    have HF := Lib.hid hf
    obtain ⟨b, hb⟩ := H.out.row hfL
    have hl := H.out.lookY hb hxm
    have hfb : f.bytes.size ≤ 1073741824 := by have := total_mem hfL; unfold Dk.used at hu1; omega
    clear hf
    go_enter Tryz.func55, Tryz.ntmps55
    go_wp2_with fail
    refine (name_any w HT.out f.name Hn.out).mono ?_
    rintro e w1 ⟨rfl, hB1⟩
    have H1 := Lib.hid (H.out.keep (Keeps.of_fresh hB1 fun _ => False) (fun _ _ => id))
    have c0 := H1.out.c0
    have c1 := H1.out.c1
    have HB1 := Lib.hid hB1
    clear hB1
    cases hn : nameB f.name
    · go_wp2_with fail
      go_ret
      have : d.app f.name s = (1, d) := by unfold Dk.app; rw [if_pos hn]
      rw [this]
      exact ⟨rfl, Keeps.of_fresh HB1.out F, HS.out _ HB1.out⟩
    · by_cases hfull : d.room - d.used < s.size
      · have d8 : decide (d.room - d.used < (s.size : Int)) = true := by simp; omega
        go_wp2_with fail
        go_quiet (fail)
        go_wp2_with fail
        go_ret
        have hB2 : Below w.heap.size w (w1.drewN nq) := HB1.out.trans ⟨rfl, rfl, rfl, Nat.le_refl _, fun _ _ => rfl⟩
        have : d.app f.name s = (8, d) := by unfold Dk.app; rw [if_neg (by rw [hn]; decide), HF.out]; show (if _ then _ else _) = _; rw [if_pos hfull]
        rw [this]
        exact ⟨rfl, Keeps.of_fresh hB2 F, HS.out _ hB2⟩
      · have d8 : decide (d.room - d.used < (s.size : Int)) = false := by simp; omega
        go_wp2_with fail
        go_quiet (fail)
        have hB2 : Below w.heap.size w (w1.drewN nq) := HB1.out.trans ⟨rfl, rfl, rfl, Nat.le_refl _, fun _ _ => rfl⟩
        generalize w1.drewN nq = w2 at hB2 ⊢
        have h2 := H.out.keep (Keeps.of_fresh hB2 fun _ => False) (fun _ _ => id)
        have b0 : w2.cell? ⟨b, 0, none⟩ = some (.string f.bytes) := cell_of_row w2 b 0 _ _ _ (h2.rows _ hb)
        have f0 : w2.frozen? ⟨b, 0, none⟩ = false := frozen_block (h2.rows _ hb) 0
        have HB2 := Lib.hid hB2
        have H2 := Lib.hid h2
        have hpb : b ≠ p := h2.p_row hb
        clear c0 c1 H1 HB1 hl h2 hB2
        go_upto_region 12 with (fail)
        have hk5 := Keeps.one w2 b 0 (.string (f.bytes ++ s))
        have hblk5 := setCell_block (o := 0) (H2.out.rows _ hb) (.string (f.bytes ++ s))
        generalize w2.setCell ⟨b, 0, none⟩ (.string (f.bytes ++ s)) = w5 at hk5 hblk5 ⊢
        have hp5 := hk5.grownTo H2.out.blk (fun e => hpb e.symm)
        have c1 : w5.cell? ⟨p, 1, none⟩ = some (.int .i64 d.used) := cell_of_row w5 p 1 _ _ _ hp5
        have f1 : w5.frozen? ⟨p, 1, none⟩ = false := frozen_block hp5 1
        have HB5 := Lib.hid hblk5
        have HP5 := Lib.hid hp5
        have HK5 := Lib.hid hk5
        clear hblk5 hp5 hk5 b0 f0
        go_wp2_with fail
        go_ret
        have hk6 := Keeps.one w5 p 1 (.int .i64 (d.used + (s.size : Int)))
        have hblk6 := hk6.grownTo HB5.out hpb
        have hp6 := setCell_block (o := 1) HP5.out (.int .i64 (d.used + (s.size : Int)))
        generalize w5.setCell ⟨p, 1, none⟩ (.int .i64 (d.used + (s.size : Int))) = w6 at hk6 hblk6 hp6 ⊢
        have hk : Keeps (fun k => k = b ∨ k = p) w2 w6 := (HK5.out.mono fun _ _ e => .inl e).andThen hk6 (fun _ _ e => .inr e)
        have hr := H2.out.toDskR.upd hb (g := growF s) (fun _ => rfl) hk hblk6 hp6
        have : d.app f.name s = (0, d.grow f.name s) := by unfold Dk.app; rw [if_neg (by rw [hn]; decide), HF.out]; show (if _ then _ else _) = _; rw [if_neg (by omega)]
        rw [this]
        have ht := total_grow s d.L f H.out.nodup hfL
        have hu : d.used + (s.size : Int) = (d.grow f.name s).used := by
          show (total d.L : Int) + _ = (total (updL f.name (growF s) d.L) : Int)
          rw [ht]
          omega
        rw [hu] at hr
        have hsz2 := HB2.out.size
        have hsy := H.out.ok.syn f hfL
        refine ⟨rfl, (Keeps.of_fresh HB2.out F).andThen hk (fun k _ e => by rcases e with rfl | rfl; exact H.out.fr _ hb; exact H.out.fp), bm, _, hr.mono (fun k e => .inl e) (fun k e => e.elim (fun e => Nat.lt_of_lt_of_le (H2.out.lt k e) hk.size) fun e => e.2),
          H.out.ok.upd H.out.nodup hfL (fun _ => rfl) ⟨hsy.1, by show f.syn ≤ ((f.bytes ++ s).size : Int); rw [ByteArray.size_append]; omega⟩ (by rw [ht]; unfold Dk.used at hfull; omega)⟩
end Go.Proofs.YtoegdpcfhmjnaaaGreatDoor
