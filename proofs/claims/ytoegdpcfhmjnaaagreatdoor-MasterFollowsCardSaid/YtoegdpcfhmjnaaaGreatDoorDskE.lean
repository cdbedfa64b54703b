/- The disk: Rename. Under the stated premises on sizes. -/
import Derived.Test.YtoegdpcfhmjnaaaGreatDoorDskD
namespace Go.Proofs.YtoegdpcfhmjnaaaGreatDoor
open Go.RowKit Go.Bl
attribute [local go_sem ↓] Go.wp_at_zero Go.wp_at_succ

theorem eqS_true {a b : ByteArray} (h : a = b) : (a.toList == b.toList) = true := by subst h; simp
theorem bytes_ext {a b : ByteArray} (h : a.toList = b.toList) : a = b := by
  rw [ByteArray.toList_eq, ByteArray.toList_eq] at h
  obtain ⟨⟨x⟩⟩ := a
  obtain ⟨⟨y⟩⟩ := b
  simpa using h
theorem eqS_false {a b : ByteArray} (h : a ≠ b) : (a.toList == b.toList) = false := by
  rw [beq_eq_false_iff_ne]; intro e; exact h (bytes_ext e)

def Dk.move (d : Dk) (f : Fl) (y : ByteArray) : Dk := ⟨d.room, ((d.del y).del f.name).L ++ [{ f with name := y }]⟩
/-- Rename: the error and the disk. -/
def Dk.ren (d : Dk) (x y : ByteArray) : Int × Dk :=
  match d.find x with
  | none => (6, d)
  | some f => if nameB y = false then (1, d) else if x = y then (0, d) else (0, d.move f y)

set_option maxRecDepth 8000 in
set_option maxHeartbeats 2000000 in
theorem rename_any (w : World) (p : Nat) (d : Dk) (F : Nat → Prop) (h : DskAt w p d F) (hT : Tabs w) (x y : ByteArray) (hx : x.size ≤ 1000000) (hy : y.size ≤ 1000000) :
    Calls Tryz.prog 58 #[.pointer (some ⟨p, 0, none⟩), .string x, .string y] w fun e w' => e = .returned (.int .i64 (d.ren x y).1) ∧ Keeps F w w' ∧ DskAt w' p (d.ren x y).2 (fun k => F k ∨ (w.heap.size ≤ k ∧ k < w'.heap.size)) := by
  obtain ⟨bm, R, h⟩ := h
  have c2 := h.c2
  have hxm : x.size ≤ maxLen := by unfold maxLen; omega
  have hym : y.size ≤ maxLen := by unfold maxLen; omega
  have HT := Lib.hid hT
  have H := Lib.hid h
  have hsame : ∀ w', Below w.heap.size w w' → DskAt w' p d (fun k => F k ∨ (w.heap.size ≤ k ∧ k < w'.heap.size)) := fun w' hB =>
    (DskAt.fresh ⟨bm, R, h⟩ hB).mono (fun k e => .inl e) (fun k e => e.elim (fun e => Nat.lt_of_lt_of_le (h.lt k e) hB.size) (fun e => e.2))
  have HS := Lib.hid hsame
  have Hn : Hid (y.size ≤ 1000000000000000) := Lib.hid (by omega)
  have Hy := Lib.hid hy
  clear hT h hsame hx hy
  cases hf : d.find x with
  | none =>
    have hl := H.out.lookN hxm (find_none.1 hf)
    have HF := Lib.hid hf
    clear hf
    go_enter Tryz.func58, Tryz.ntmps58
    go_wp2_with fail
    go_ret
    have : d.ren x y = (6, d) := by unfold Dk.ren; rw [HF.out]
    rw [this]
    exact ⟨rfl, Keeps.refl _ _, HS.out _ (Below.refl _ _)⟩
  | some f =>
    obtain ⟨hfL, rfl⟩ := find_some hf
    obtain ⟨b, hb⟩ := H.out.row hfL
    have hl := H.out.lookY hb hxm
    have Hb := Lib.hid hb
    have HF := Lib.hid hf
    clear hf hb
    go_enter Tryz.func58, Tryz.ntmps58
    go_wp2_with fail
    refine (name_any w HT.out y Hn.out).mono ?_
    rintro e w1 ⟨rfl, hB1⟩
    have HB1 := Lib.hid hB1
    clear hB1
    cases hn : nameB y
    · go_wp2_with fail
      go_ret
      have : d.ren f.name y = (1, d) := by unfold Dk.ren; rw [HF.out]; show (if _ then _ else _) = _; rw [if_pos hn]
      rw [this]
      exact ⟨rfl, Keeps.of_fresh HB1.out F, HS.out _ HB1.out⟩
    · by_cases hxy : f.name = y
      · have de := eqS_true hxy
        go_wp2_with fail
        go_ret
        have : d.ren f.name y = (0, d) := by unfold Dk.ren; rw [HF.out]; show (if _ then _ else _) = _; rw [if_neg (by rw [hn]; decide), if_pos hxy]
        rw [this]
        exact ⟨rfl, Keeps.of_fresh HB1.out F, HS.out _ HB1.out⟩
      · have de := eqS_false hxy
        have h1 := H.out.keep (Keeps.of_fresh HB1.out fun _ => False) (fun _ _ => id)
        have H1 := Lib.hid h1
        have Hxy := Lib.hid hxy
        clear hl c2 h1 hxy
        go_wp2_with fail
        refine (delete_any w1 p d F bm R H1.out y hym).mono ?_
        rintro e w2 ⟨he, hk2, h2⟩
        obtain ⟨ev, hev⟩ : ∃ ev : Int, (if d.find y = none then (6 : Int) else 0) = ev := ⟨_, rfl⟩
        rw [hev] at he
        subst he
        clear hev
        have hb2 : (b, f) ∈ R.filter fun r => decide (r.2.name ≠ y) := List.mem_filter.2 ⟨Hb.out, by simpa using Hxy.out⟩
        have hny : ∀ r ∈ R.filter (fun r => decide (r.2.name ≠ y)), r.2.name ≠ y := fun r hr => by simpa using (List.mem_filter.1 hr).2
        generalize R.filter (fun r => decide (r.2.name ≠ y)) = R2 at h2 hb2 hny
        have c2 := h2.c2
        have hl2 := h2.len
        have hle2 := h2.ok.len
        obtain ⟨w3, hrun3, hmap3, hgr3, hsz3, _⟩ := h2.map.delete lawS strLit_inj Tryz.underlying104 (x := f.name) (keyS hxm) 0
        rw [rowsD_del] at hmap3
        have hk3 : Keeps (fun k => k = bm) w2 w3 := (Keeps.of_grown hgr3).mono fun _ _ e => by simpa using e.symm
        have hp3 := hk3.grownTo h2.blk h2.p_ne
        have c23 : w3.cell? ⟨p, 2, none⟩ = some (.map (some bm)) := cell_of_row w3 p 2 _ _ _ hp3
        have hlf : (R2.filter fun r => decide (r.2.name ≠ f.name)).length ≤ 40 := Nat.le_trans (List.length_filter_le _ _) (by omega)
        obtain ⟨w4, hrun4, hmap4, hgr4, hsz4, _⟩ := hmap3.store lawS strLit_inj Tryz.underlying104 (by rw [rowsD_len]; unfold maxLen; omega) (x := y) (keyS hym) (getD_none fun r hr e => hny r (List.mem_filter.1 hr).1 e) (.pointer (some ⟨b, 0, none⟩))
        have hk4 : Keeps (fun k => k = bm) w3 w4 := (Keeps.of_grown hgr4).mono fun _ _ e => by simpa using e.symm
        have HK2 := Lib.hid hk2
        have HK24 := Lib.hid (hk3.trans hk4)
        have H2 := Lib.hid h2
        have HM4 := Lib.hid hmap4
        have Hb2 := Lib.hid hb2
        have Hny := Lib.hid hny
        clear hk2 hk3 hk4 h2 hmap3 hmap4 hgr3 hgr4 hsz3 hsz4 hp3 hb2 hny
        go_wp2_with fail
        go_ret
        have : d.ren f.name y = (0, d.move f y) := by unfold Dk.ren; rw [HF.out]; show (if _ then _ else _) = _; rw [if_neg (by rw [hn]; decide), if_neg Hxy.out]
        rw [this]
        have h2 := H2.out
        have hkA : Keeps (fun k => k = p ∨ k = bm) w1 w4 := HK2.out.andThen HK24.out (fun _ _ e => .inr e)
        have hsz1 := HB1.out.size
        have hsz4 := hkA.size
        have hfd : f ∈ (d.del y).L := List.mem_filter.2 ⟨hfL, by simpa using Hxy.out⟩
        have htot := total_del h2.nodup hfd
        have hok := h2.ok
        have hmove : (d.move f y).used = (d.del y).used := by
          show (total (((d.del y).del f.name).L ++ [{ f with name := y }]) : Int) = (total (d.del y).L : Int)
          rw [total_append, ← htot]
          show ((total ((d.del y).L.filter _) + (f.bytes.size + 0) : Nat) : Int) = _
          omega
        refine ⟨rfl, (Keeps.of_fresh HB1.out F).andThen hkA (fun k _ e => by rcases e with rfl | rfl; exact H.out.fp; exact H.out.fm), bm, (R2.filter fun r => decide (r.2.name ≠ f.name)) ++ [(b, { f with name := y })], ?_, ?_⟩
        · refine ⟨?_, ?_, ?_, fun r hr => ?_, ?_, .inl h2.fp, .inl h2.fm, fun r hr => ?_, fun k hk => hk.elim (fun e => by have := H.out.lt k e; omega) fun e => e.2⟩
          · show w4.heap[p]? = some (.cells #[.int .i64 d.room, .int .i64 (d.move f y).used, .map (some bm)] 106 (0, 0))
            rw [hmove]
            exact HK24.out.grownTo h2.blk h2.p_ne
          · rw [List.map_append]
            show _ = ((d.del y).L.filter _) ++ _
            rw [← h2.rL, List.filter_map]
            rfl
          · have := HM4.out
            unfold rowsD at this ⊢
            rw [List.map_append]
            exact this
          · rcases List.mem_append.1 hr with hr | hr
            · have := (List.mem_filter.1 hr).1
              exact HK24.out.grownTo (h2.rows r this) (h2.r_ne this)
            · obtain rfl := List.mem_singleton.1 hr
              exact HK24.out.grownTo (h2.rows (b, f) Hb2.out) (h2.r_ne (r := (b, f)) Hb2.out)
          · rw [List.map_append, ← List.cons_append, List.nodup_append]
            refine ⟨h2.dist.sublist (List.Sublist.cons_cons _ (List.Sublist.map _ List.filter_sublist)), by simp, fun a ha c hc => ?_⟩
            simp only [List.map_cons, List.map_nil, List.mem_singleton] at hc
            subst hc
            rintro rfl
            rcases List.mem_cons.1 ha with ha | ha
            · exact h2.p_row Hb2.out ha
            · obtain ⟨r, hr, e⟩ := List.mem_map.1 ha
              obtain ⟨hr1, hr2⟩ := List.mem_filter.1 hr
              have := nodup_at (List.nodup_cons.1 h2.dist).2 hr1 Hb2.out e
              subst this
              simp at hr2
          · rcases List.mem_append.1 hr with hr | hr
            · exact .inl (h2.fr r (List.mem_filter.1 hr).1)
            · obtain rfl := List.mem_singleton.1 hr
              exact .inl (h2.fr (b, f) Hb2.out)
        · have hu := hok.used
          refine ⟨hok.room1, hok.room2, ?_, ?_, fun q hq => ?_, fun q hq => ?_⟩
          · have := hmove
            unfold Dk.used at this
            show (total (d.move f y).L : Int) ≤ d.room
            rw [this]
            exact hu
          · have h3 : ((d.del y).L.filter fun q : Fl => decide (q.name ≠ f.name)).length < (d.del y).L.length := List.length_filter_lt_length_iff_exists.2 ⟨f, hfd, by simp⟩
            have := hok.len
            show (((d.del y).L.filter fun q : Fl => decide (q.name ≠ f.name)) ++ [_]).length ≤ 40
            rw [List.length_append, List.length_singleton]
            omega
          · rcases List.mem_append.1 hq with hq | hq
            · exact hok.syn q (List.mem_filter.1 hq).1
            · obtain rfl := List.mem_singleton.1 hq
              exact hok.syn f hfd
          · rcases List.mem_append.1 hq with hq | hq
            · exact hok.nms q (List.mem_filter.1 hq).1
            · obtain rfl := List.mem_singleton.1 hq
              exact Hy.out
end Go.Proofs.YtoegdpcfhmjnaaaGreatDoor
