/- Rows of entries as bytes: record.PutRow. Under the tables that utf8 lays. -/
import Derived.Test.YtimfoijajafdpaaDoorCodC
import Derived.Test.YtimfoijajafdpaaDoorRecB
namespace Go.Proofs.YtimfoijajafdpaaDoor
open Go.RowKit Go.Bl
attribute [local go_sem ↓] Go.wp_at_zero Go.wp_at_succ

set_option maxHeartbeats 1000000 in
theorem rneg_any (w : World) (hT : Tabs w) (G : Nat → Prop) (a : Ent) (h : BatchOk w G a) :
    Calls Tryd.prog 38 #[.agg #[.int .i64 a.pos, .int .i64 a.epoch, .string a.stream, .int .i64 a.expect, .int .i64 a.session, .int .i64 a.seq, a.evv]] w fun x w' => x = .returned (.bool (!rightB a)) ∧ Below w.heap.size w w' := by
  obtain ⟨A, c, hv, hA1, hA2⟩ := h.1.shape
  have hB0 : Below w.heap.size w (w.alloc (.cells #[.int .i64 a.pos, .int .i64 a.epoch, .string a.stream, .int .i64 a.expect, .int .i64 a.session, .int .i64 a.seq, .slice A a.evs.length c] 29)) := (Below.refl _ w).alloc (Nat.le_refl _) _
  have hf := fun (wz : World) (hz : Below w.heap.size w wz) => right_any wz (hT.fresh hz) G a (h.fresh hz)
  rw [hv] at hf ⊢
  have HF := Lib.hid hf
  have HB := Lib.hid hB0
  clear hv hf hT hB0 h
  go_enter Tryd.func38, Tryd.ntmps38
  go_wp2_with fail
  refine (HF.out _ HB.out).mono ?_
  rintro x w2 ⟨rfl, hB2⟩
  cases hz : rightB a
  · go_wp2_with fail
    go_ret
    exact ⟨by rw [hz]; rfl, HB.out.trans (hB2.mono HB.out.size)⟩
  · go_wp2_with fail
    go_ret
    exact ⟨by rw [hz]; rfl, HB.out.trans (hB2.mono HB.out.size)⟩
set_option maxHeartbeats 1000000 in
theorem rindex_any (w : World) (hT : Tabs w) (G : Nat → Prop) (v : Value) (l : List Ent) (h : Ents w G v l) (_hl : l.length ≤ 1000000) :
    Calls Tryd.prog 61 #[v, .func (.func 38) #[] #[]] w fun x w' => ∃ r : Int, x = .returned (.int .i64 r) ∧ decide (0 ≤ r) = (!l.all rightB) ∧ Below w.heap.size w w' := by
  obtain ⟨A, c, rfl, hA1, hA2⟩ := h.1.shape
  unfold maxLen at hA2
  have HS := Lib.hid h
  have HT := Lib.hid hT
  clear h hT
  go_enter Tryd.func61, Tryd.ntmps61
  go_wp2_with fail
  go_loopw [8, 5] (fun i _ wr => ∃ k : Nat, k ≤ l.length ∧ i = .int .i64 k ∧ (∀ e ∈ l.take k, rightB e = true) ∧ Below w.heap.size w wr) (fun i _ _ => l.length - (intOf i).toNat)
  case atStart => exact ⟨0, Nat.zero_le _, rfl, by simp, Below.refl _ _⟩
  case round =>
    obtain ⟨k, hk, rfl, hall, hB⟩ := hrel
    have HB := Lib.hid hB
    have HALL := Lib.hid hall
    clear hB hall
    by_cases hlt : k < l.length
    · have hE := HS.out.fresh HB.out
      obtain ⟨b, o, rfl, _, _, hxx⟩ := hE.1.cell_ hlt
      have x0 := hxx 0 _ rfl
      have x1 := hxx 1 _ rfl
      have x2 := hxx 2 _ rfl
      have x3 := hxx 3 _ rfl
      have x4 := hxx 4 _ rfl
      have x5 := hxx 5 _ rfl
      have x6 := hxx 6 _ rfl
      simp only [Nat.add_zero] at x0
      have hbk := hE.2 l[k] (List.getElem_mem hlt)
      obtain ⟨A9, c9, hv9, _, _⟩ := hbk.1.shape
      have hn := rneg_any wr (HT.out.fresh HB.out) G l[k] hbk
      rw [hv9] at hn x6
      have HN := Lib.hid hn
      clear hxx hE hbk hv9 hn
      go_wp2_with fail
      refine HN.out.mono ?_
      rintro x w1 ⟨rfl, hB1⟩
      have HB1 := Lib.hid (HB.out.trans (hB1.mono HB.out.size))
      clear hB1
      cases hr : rightB l[k]
      · go_wp2_with fail
        go_ret
        refine ⟨k, rfl, ?_, HB1.out⟩
        rw [decide_eq_true (by omega)]
        have : l.all rightB = false := by
          rw [List.all_eq_false]
          exact ⟨l[k], List.getElem_mem hlt, by rw [hr]; decide⟩
        rw [this]
        rfl
      · go_wp2_with fail
        go_roundw
        case rel =>
          refine ⟨k + 1, hlt, by go_num, fun e he => ?_, HB1.out⟩
          rw [List.take_succ_eq_append_getElem hlt, List.mem_append, List.mem_singleton] at he
          rcases he with he | rfl
          · exact HALL.out e he
          · exact hr
        case measure => simp [intOf]; omega
    · have hkd : k = l.length := by omega
      subst hkd
      go_wp2_with fail
      go_ret
      refine ⟨-1, rfl, ?_, HB.out⟩
      have h1 := HALL.out
      rw [List.take_length] at h1
      rw [decide_eq_false (by omega), List.all_eq_true.2 h1]
      rfl
theorem rcont_any (w : World) (hT : Tabs w) (G : Nat → Prop) (v : Value) (l : List Ent) (h : Ents w G v l) (hl : l.length ≤ 1000000) :
    Calls Tryd.prog 37 #[v, .func (.func 38) #[] #[]] w fun x w' => x = .returned (.bool (!l.all rightB)) ∧ Below w.heap.size w w' := by
  have hc := rindex_any w hT G v l h hl
  obtain ⟨A, c, rfl, hA1, hA2⟩ := h.1.shape
  have HC := Lib.hid hc
  clear hc h hT
  go_enter Tryd.func37, Tryd.ntmps37
  go_wp2_with fail
  refine HC.out.mono ?_
  rintro x w1 ⟨r, rfl, hr, hB⟩
  have HR := Lib.hid hr
  clear hr
  by_cases h0 : 0 ≤ r
  · have d0 : decide (0 ≤ r) = true := decide_eq_true h0
    go_wp2_with fail
    go_ret
    exact ⟨by rw [← HR.out, d0]; rfl, hB⟩
  · have d0 : decide (0 ≤ r) = false := decide_eq_false h0
    go_wp2_with fail
    go_ret
    exact ⟨by rw [← HR.out, d0]; rfl, hB⟩

theorem entP_len (a : Ent) : (entP a).length ≤ 3100 := by
  unfold entP
  split
  · rename_i h
    exact entL_len h
  · simp
theorem flatP (l : List Ent) (h : l.all rightB = true) : l.flatMap entP = l.flatMap entL := by
  rw [List.all_eq_true] at h
  induction l with
  | nil => rfl
  | cons a l ih =>
    rw [List.flatMap_cons, List.flatMap_cons, ih (fun b hb => h b (List.mem_cons_of_mem _ hb))]
    unfold entP
    rw [if_pos (h a List.mem_cons_self)]
set_option maxRecDepth 10000 in
set_option maxHeartbeats 4000000 in
theorem putRow_any (w : World) (hT : Tabs w) (G : Nat → Prop) (v : Value) (l : List Ent) (h : Ents w G v l) (hl : l.length ≤ 1000) :
    Calls Tryd.prog 21 #[v] w fun x w' => x = .returned (.string (Bl (rowP l))) ∧ Below w.heap.size w w' := by
  obtain ⟨A, c, rfl, hA1, hA2⟩ := h.1.shape
  unfold maxLen at hA2
  have HS := Lib.hid h
  have HT := Lib.hid hT
  have C1 := Lib.hid (fun W => put_in W (l.length : Int) (by omega) (by omega))
  rw [Int.toNat_natCast] at C1
  have hnl := numL_len (n := l.length) (by omega)
  clear h hT
  go_enter Tryd.func21, Tryd.ntmps21
  go_wp2_with fail
  refine (rcont_any w HT.out G _ l HS.out (by omega)).mono ?_
  rintro x w1 ⟨rfl, hB1⟩
  have HB1 := Lib.hid hB1
  clear hB1
  cases hz : l.all rightB
  · have hR : Hid (rowP l = []) := Lib.hid (by unfold rowP; rw [hz]; rfl)
    go_wp2_with fail
    go_ret
    rw [hR.out]
    exact ⟨rfl, HB1.out⟩
  have hR : rowP l = numL l.length ++ l.flatMap entP := by
    unfold rowP; rw [if_pos hz, flatP l hz]
  have HR := Lib.hid hR
  clear hR
  go_upto_region 4 with (fail)
  have hBk := bld_new w1
  have hBd : Below w1.heap.size w1 (w1.alloc (.cells #[.pointer none, .slice none 0 0] 67)) := (Below.refl _ w1).alloc (Nat.le_refl _) _
  generalize w1.alloc (.cells #[.pointer none, .slice none 0 0] 67) = w3 at hBk hBd ⊢
  have HB3 := Lib.hid (HB1.out.trans (hBd.mono HB1.out.size))
  obtain ⟨B, hBe⟩ : ∃ B, w1.heap.size = B := ⟨_, rfl⟩
  rw [hBe] at hBk ⊢
  have hwB : w.heap.size ≤ B := by have := HB1.out.size; omega
  have hs3 : B ≤ w3.heap.size := by have := hBd.size; omega
  have HD3 := Lib.hid hBk
  clear hBk hBd hBe hz
  go_wp2_with fail
  refine (C1.out w3).mono ?_
  rintro x w4 ⟨rfl, hB4⟩
  have HD4 := Lib.hid (HD3.out.fresh hB4)
  have HB4 := Lib.hid (HB3.out.trans (hB4.mono HB3.out.size))
  have hs4 : B ≤ w4.heap.size := Nat.le_trans hs3 hB4.size
  clear hB4
  go_wp2_with fail
  refine (bld_write HD4.out (Bl (numL l.length)) (by rw [Bl_size]; simp only [List.length_nil]; omega) hs4).mono ?_
  rintro x w5 ⟨rfl, hD5, hB5⟩
  rw [Lb_Bl, List.nil_append] at hD5
  have HD5 := Lib.hid hD5
  have HB5 := Lib.hid (HB4.out.trans (hB5.mono hwB))
  have hs5 : B ≤ w5.heap.size := Nat.le_trans hs4 hB5.size
  clear hD5 hB5
  go_wp2_with fail
  go_loopw [5, 14] (fun _ i wr => ∃ k : Nat, k ≤ l.length ∧ i = .int .i64 k ∧ Bld wr B B (numL l.length ++ (l.take k).flatMap entP) ∧ Below w.heap.size w wr ∧ B ≤ wr.heap.size) (fun _ i _ => l.length - (intOf i).toNat)
  case atStart => exact ⟨0, Nat.zero_le _, rfl, by rw [List.take_zero]; simpa using HD5.out, HB5.out, hs5⟩
  case round =>
    obtain ⟨k, hk, rfl, hD7, hB7, hs7⟩ := hrel
    have HD7 := Lib.hid hD7
    have HB7 := Lib.hid hB7
    clear hD7 hB7
    by_cases hlt : k < l.length
    · have d0 : decide ((k : Int) < (l.length : Int)) = true := by simp; omega
      have hE := HS.out.fresh HB7.out
      obtain ⟨q, o, rfl, _, _, hxx⟩ := hE.1.cell_ hlt
      have x0 := hxx 0 _ rfl
      have x1 := hxx 1 _ rfl
      have x2 := hxx 2 _ rfl
      have x3 := hxx 3 _ rfl
      have x4 := hxx 4 _ rfl
      have x5 := hxx 5 _ rfl
      have x6 := hxx 6 _ rfl
      simp only [Nat.add_zero] at x0
      have hbk := hE.2 l[k] (List.getElem_mem hlt)
      obtain ⟨A9, c9, hv9, _, _⟩ := hbk.1.shape
      have hb8 : Below wr.heap.size wr (wr.alloc (.cells #[.int .i64 l[k].pos, .int .i64 l[k].epoch, .string l[k].stream, .int .i64 l[k].expect, .int .i64 l[k].session, .int .i64 l[k].seq, .slice A9 l[k].evs.length c9] 29)) := (Below.refl _ wr).alloc (Nat.le_refl _) _
      have hn := rPut_any _ ((HT.out.fresh HB7.out).fresh hb8) G l[k] (hbk.fresh hb8)
      rw [hv9] at hn x6
      have HN := Lib.hid hn
      have HB8 := Lib.hid hb8
      have hts := flat_succ entP l hlt
      have hle : (numL l.length ++ (l.take k).flatMap entP).length + (entP l[k]).length ≤ 4000000 := by
        have h1 := flat_len entP 3100 (l.take k) (fun a _ => entP_len a)
        have h2 := entP_len l[k]
        rw [List.length_take] at h1
        have h3 : min k l.length * 3100 ≤ 1000 * 3100 := Nat.mul_le_mul_right _ (by omega)
        rw [List.length_append]
        omega
      have HTS := Lib.hid hts
      clear hxx hE hbk hv9 hn hb8 hts
      go_wp2_with fail
      refine HN.out.mono ?_
      rintro x w4' ⟨rfl, hB4⟩
      have hb4 : Below wr.heap.size wr w4' := HB8.out.trans (hB4.mono HB8.out.size)
      have HB9 := Lib.hid hb4
      have HD9 := Lib.hid (HD7.out.fresh hb4)
      clear hb4 hB4
      go_wp2_with fail
      refine (bld_write HD9.out (Bl (entP l[k])) (by rw [Bl_size]; omega) (Nat.le_trans hs7 HB9.out.size)).mono ?_
      rintro x w5' ⟨rfl, hD6, hB6⟩
      have HD6 := Lib.hid hD6
      have HB6 := Lib.hid hB6
      clear hD6 hB6 x0 x1 x2 x3 x4 x5 x6
      go_wp2_with fail
      go_roundw
      case rel =>
        refine ⟨k + 1, hlt, by go_num, ?_, (HB7.out.trans (HB9.out.mono HB7.out.size)).trans (HB6.out.mono hwB), by have := HB9.out.size; have := HB6.out.size; omega⟩
        have := HD6.out
        rw [Lb_Bl, List.append_assoc] at this
        rw [HTS.out]
        exact this
      case measure => simp [intOf]; omega
    · have hkd : k = l.length := by omega
      subst hkd
      have d0 : decide ((l.length : Int) < (l.length : Int)) = false := by simp
      have hD8 := HD7.out
      rw [List.take_length] at hD8
      have HD8 := Lib.hid hD8
      clear hD8
      go_wp2_with fail
      refine (bld_string HD8.out hs7).mono ?_
      rintro x w9 ⟨rfl, _, hB9⟩
      have HB9 := Lib.hid (HB7.out.trans (hB9.mono hwB))
      clear hB9
      go_wp2_with fail
      go_ret
      rw [HR.out]
      exact ⟨rfl, HB9.out⟩
end Go.Proofs.YtimfoijajafdpaaDoor
