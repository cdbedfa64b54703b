/- StateReads: what the statement's function does: it answers true. Under the tables that utf8 lays. -/
import Derived.Test.YtlfhokcjbgpjhaaDoorStaF
import Derived.Test.YtlfhokcjbgpjhaaDoorIdxD
namespace Go.Proofs.YtlfhokcjbgpjhaaDoor
open Go.RowKit Go.Bl
attribute [local go_sem ↓] Go.wp_at_zero Go.wp_at_succ

/-- The places rise, and are those of entries. -/
def PosOk (s : St) : Prop := 0 ≤ s.ap ∧ s.L.Pairwise (fun a b => a.pos ≤ b.pos) ∧ ∀ o ∈ s.L, 1 ≤ o.pos ∧ o.pos ≤ s.ap
theorem PosOk.step {s : St} (h : PosOk s) (a : Ent) : PosOk (applyS s a).1 := by
  obtain ⟨h0, h1, h2⟩ := h
  by_cases hh : rightB a = true ∧ a.pos = s.ap + 1
  · have hp := hh.2
    rcases apply_next hh.1 hh.2 with ⟨o, _, _, _, e⟩ | ⟨_, _, e⟩ | ⟨_, _, _, e⟩ <;> rw [e]
    · exact ⟨by show 0 ≤ a.pos; omega, h1, fun o ho => by have := h2 o ho; show _ ∧ o.pos ≤ a.pos; omega⟩
    · exact ⟨by show 0 ≤ a.pos; omega, h1, fun o ho => by have := h2 o ho; show _ ∧ o.pos ≤ a.pos; omega⟩
    · refine ⟨by show 0 ≤ a.pos; omega, ?_, fun o ho => ?_⟩
      · show (freshL s a).Pairwise _
        unfold freshL addS
        split
        · exact h1
        · rw [List.pairwise_append]
          refine ⟨h1, ?_, fun x hx y hy => ?_⟩
          · rw [List.pairwise_map]
            exact List.pairwise_of_forall (fun _ _ => Int.le_refl _)
          · obtain ⟨e, _, rfl⟩ := List.mem_map.1 hy
            have := h2 x hx
            show x.pos ≤ a.pos
            omega
      · have ho : o ∈ freshL s a := ho
        show 1 ≤ o.pos ∧ o.pos ≤ a.pos
        unfold freshL addS at ho
        split at ho
        · have := h2 o ho; omega
        · rcases List.mem_append.1 ho with q | q
          · have := h2 o q; omega
          · obtain ⟨e, _, rfl⟩ := List.mem_map.1 q
            show 1 ≤ a.pos ∧ a.pos ≤ a.pos
            omega
  · rw [(apply_err (s := s) (a := a) (by
      by_cases h1 : rightB a = true
      · exact .inr (fun h2 => hh ⟨h1, h2⟩)
      · exact .inl (by simpa using h1))).1]
    exact ⟨h0, h1, h2⟩
theorem PosOk.at_ {s : St} (h : PosOk s) (n : ByteArray) {k : Nat} (hk : k < (Idx.ofS s.L n).length) : Idx.posOf (Idx.ofS s.L n) ((k : Int) + 1) = (Idx.ofS s.L n)[k].pos ∧ 1 ≤ (Idx.ofS s.L n)[k].pos ∧ (Idx.ofS s.L n)[k].pos ≤ s.ap ∧
    (∀ j (hj : j < k), (Idx.ofS s.L n)[j].pos ≤ (Idx.ofS s.L n)[k].pos) := by
  refine ⟨?_, ?_⟩
  · unfold Idx.posOf
    rw [if_neg (by omega)]
    simp [hk]
  · have hm : (Idx.ofS s.L n)[k] ∈ Idx.ofS s.L n := List.getElem_mem hk
    obtain ⟨o, ho, e⟩ := List.mem_map.1 hm
    have h2 := h.2.2 o (List.mem_filter.1 ho).1
    have hp : (Idx.ofS s.L n).Pairwise (fun a b => a.pos ≤ b.pos) := by
      unfold Idx.ofS
      rw [List.pairwise_map]
      exact (h.2.1.filter _).imp (fun h => h)
    rw [← e]
    refine ⟨h2.1, h2.2, fun j hj => ?_⟩
    rw [e]
    exact List.pairwise_iff_getElem.1 hp j k (by omega) hk hj
theorem sizeEv (w : World) : (sizeOf 55).run Tryd.prog w = .ok 2 w := by kernel_rfl
theorem run_cut_mid (a : Option Addr) (n c : Nat) (t m : Nat) (h1 : t + m ≤ c) (w : World) :
    (Instr.slice 28 (.slice a n c) (some (.int .i64 (t : Int))) (some (.int .i64 ((t : Int) + (m : Int)))) none).run Tryd.prog w = .ok (.slice (cutA a c t 2) m (c - t)) w := by
  have he : Tryd.prog.elem 28 = 55 := by simp [Program.elem, Tryd.underlying28]
  rw [run_slice_lh (P := Tryd.prog) w 28 a n c (by rw [he]; exact Tryd.underlying28) .i64 .i64 (t : Int) ((t : Int) + (m : Int)) (by omega) (by omega) (by omega), he, sizeEv]
  simp [Result.andThen, sliced, cutA]
  omega
theorem Sl.take_cap {α : Type} {w : World} {F : Nat → Prop} {k : Nat} {enc : α → List Value} {l : List α} {A : Option Addr} {n c : Nat} (h : Sl w F k enc (.slice A n c) l) {t m : Nat} (h1 : t + m ≤ l.length) : Sl w F k enc (.slice (cutA A c t k) m (c - t)) ((l.drop t).take m) := by
  have h2 := (h.drop_ (i := t) (by omega)).take_ (i := m) (by rw [List.length_drop]; omega)
  by_cases hc : c - t = 0
  · unfold cutA at h2 ⊢
    rw [if_pos hc] at h2
    exact h2
  · obtain ⟨A', c', e, e1, e2, e3⟩ := h2
    have hl : ((l.drop t).take m).length = m := by rw [List.length_take, List.length_drop]; omega
    injection e with q1 q2 q3
    subst q1 q3
    refine ⟨_, _, by rw [hl], e1, e2, fun h0 => ?_⟩
    obtain ⟨b, o, f1, f2, f3, f4⟩ := e3 h0
    refine ⟨b, o, ?_, f2, f3, f4⟩
    rw [← f1]
    simp only [cutA, if_neg hc]
    split <;> cases A <;> simp [Addr.add]

set_option maxRecDepth 10000 in
set_option maxHeartbeats 4000000 in
theorem reads_any (w : World) (hT : Tabs w) (v : Value) (l : List Ent) (h : EntsOk w (fun b => b < w.heap.size) v l) (st : ByteArray) (hst : st.size ≤ 1000000000000000) (fr : Int) (hfr : -9223372036854775808 ≤ fr ∧ fr ≤ 9223372036854775807) :
    Calls Tryd.prog 5 #[v, .string st, .int .i64 fr] w fun x w' => x = .returned (.bool true) ∧ Below w.heap.size w w' := by
  have hmx := @run_gmax Tryd.prog
  have hmn := @run_gmin Tryd.prog
  obtain ⟨A, c, rfl, hA1, hA2⟩ := h.1.shape
  unfold maxLen at hA2
  have HTb := Lib.hid hT
  have HA := Lib.hid h
  have hms : st.size ≤ maxLen := by unfold maxLen; omega
  have HMS := Lib.hid hms
  clear hT h hms
  go_enter Tryd.func5, Tryd.ntmps5
  go_wp2_with fail
  refine (shown_any w HTb.out).mono ?_
  rintro e wa ⟨rfl, hBa⟩
  have HBa := Lib.hid hBa
  clear hBa
  go_wp2_with fail
  refine (fits_all wa _ _ l (HA.out.fresh HBa.out)).mono ?_
  rintro x wb ⟨rfl, hBb⟩
  have HBb := Lib.hid (HBa.out.trans (hBb.mono HBa.out.size))
  clear hBb
  go_wp2_with fail
  refine (snew_any wb).mono ?_
  rintro e wc ⟨p, W0, rfl, _, hW0, hS0, hBc⟩
  have HBc := Lib.hid (HBb.out.trans (hBc.mono HBb.out.size))
  have HS0 := Lib.hid hS0
  clear hBc hS0 hW0
  cases hfb : fitsB l
  · go_wp2_with fail
    go_ret
    exact ⟨rfl, HBc.out⟩
  have HFB := Lib.hid hfb
  clear hfb
  have hl40 := (fitsB_at HFB.out).1
  by_cases hs3 : 300 < st.size
  · have d1 : decide ((st.size : Int) > 300) = true := by simp; omega
    go_wp2_with fail
    go_ret
    exact ⟨rfl, HBc.out⟩
  have d1 : decide ((st.size : Int) > 300) = false := by simp; omega
  go_wp2_with fail
  go_loopw [10, 11] (fun i _ wr => PlayRel PosOk w p l.length i wr) (fun i _ _ => l.length - (intOf i).toNat)
  case atStart => exact ⟨0, St.new, _, W0, Nat.zero_le _, rfl, HS0.out, fun j hj => Nat.le_trans HBb.out.size hj.1, ⟨by simp [St.new], by simp [St.new], by simp [St.new]⟩, by simp [St.new], by simp [St.new], by simp [St.new], HBc.out⟩
  case round =>
    obtain ⟨k, s, F, W, hk, rfl, hS, hF, hI, hL, hTL, hap, hB⟩ := hrel
    have HSlt := Lib.hid hS.lt
    by_cases hlt : k < l.length
    ·
      have HB := Lib.hid hB
      have hAr := HA.out.fresh hB
      obtain ⟨b, o, rfl, _, _, hxx⟩ := hAr.1.cell_ hlt
      have hbo := hAr.2 l[k] (List.getElem_mem hlt)
      have hst := hbo.2.2.1
      have hfl := entF_at ((fitsB_at HFB.out).2 l[k] (List.getElem_mem hlt))
      generalize hea : l[k] = a at *
      obtain ⟨B, d, hv, _, _⟩ := hbo.1.shape
      have x0 := hxx 0 _ rfl
      have x1 := hxx 1 _ rfl
      have x2 := hxx 2 _ rfl
      have x3 := hxx 3 _ rfl
      have x4 := hxx 4 _ rfl
      have x5 := hxx 5 _ rfl
      have x6 := hxx 6 _ rfl
      rw [hv] at x6
      simp only [Nat.add_zero] at x0
      have HBO := Lib.hid hbo
      have HV := Lib.hid hv
      have HFL := Lib.hid hfl
      have HEA := Lib.hid hea
      have HI := Lib.hid hI
      have HL := Lib.hid hL
      have HTL := Lib.hid hTL
      have HF := Lib.hid hF
      clear hxx hAr hbo hv hea hI hL hTL hF hfl
      have hB1 : Below wr.heap.size wr (wr.alloc (.cells #[.int .i64 a.pos, .int .i64 a.epoch, .string a.stream, .int .i64 a.expect, .int .i64 a.session, .int .i64 a.seq, .slice B a.evs.length d] 32)) := (Below.refl _ wr).alloc (Nat.le_refl _) _
      have hblk := heap_alloc_new wr (.cells #[.int .i64 a.pos, .int .i64 a.epoch, .string a.stream, .int .i64 a.expect, .int .i64 a.session, .int .i64 a.seq, .slice B a.evs.length d] 32)
      go_upto_region 10 with (fail)
      generalize wr.alloc (.cells #[.int .i64 a.pos, .int .i64 a.epoch, .string a.stream, .int .i64 a.expect, .int .i64 a.session, .int .i64 a.seq, .slice B a.evs.length d] 32) = w1 at hB1 hblk ⊢
      have y0 : w1.cell? ⟨wr.heap.size, 0, none⟩ = some (.int .i64 a.pos) := cell_of_row w1 _ 0 _ _ _ hblk
      have g0 : w1.frozen? ⟨wr.heap.size, 0, none⟩ = false := frozen_block hblk 0
      have HS1 := Lib.hid (hS.fresh hB1)
      have HB1 := Lib.hid hB1
      clear x0 x1 x2 x3 x4 x5 x6 hS hB1 hB
      go_wp2_with fail
      refine (applied_any w1 p s F W HS1.out).mono ?_
      rintro e w1' ⟨rfl, rfl⟩
      have hw1 : s.ap + 1 < 1000000 := by omega
      have hw2 : 0 ≤ s.ap + 1 := by omega
      go_upto_region 11 with (fail)
      have hk2 := setCell_block' (o := 0) (v := .int .i64 (s.ap + 1)) hblk
      have hkS : Keeps (fun q => q = wr.heap.size) w1 _ := (Keeps.refl (fun q => q = wr.heap.size) w1).setCell (p := ⟨wr.heap.size, 0, none⟩) (fun _ => rfl) (.int .i64 (s.ap + 1))
      generalize w1.setCell ⟨wr.heap.size, 0, none⟩ (.int .i64 (s.ap + 1)) = w2 at hk2 hkS ⊢
      have y0 : w2.cell? ⟨wr.heap.size, 0, none⟩ = some (.int .i64 (s.ap+1)) := cell_of_row w2 _ 0 _ _ _ hk2
      have y1 : w2.cell? ⟨wr.heap.size, 1, none⟩ = some (.int .i64 (a.epoch)) := cell_of_row w2 _ 1 _ _ _ hk2
      have y2 : w2.cell? ⟨wr.heap.size, 2, none⟩ = some (.string (a.stream)) := cell_of_row w2 _ 2 _ _ _ hk2
      have y3 : w2.cell? ⟨wr.heap.size, 3, none⟩ = some (.int .i64 (a.expect)) := cell_of_row w2 _ 3 _ _ _ hk2
      have y4 : w2.cell? ⟨wr.heap.size, 4, none⟩ = some (.int .i64 (a.session)) := cell_of_row w2 _ 4 _ _ _ hk2
      have y5 : w2.cell? ⟨wr.heap.size, 5, none⟩ = some (.int .i64 (a.seq)) := cell_of_row w2 _ 5 _ _ _ hk2
      have y6 : w2.cell? ⟨wr.heap.size, 6, none⟩ = some (.slice B a.evs.length d) := cell_of_row w2 _ 6 _ _ _ hk2
      have hb2 : Below wr.heap.size wr w2 := Below.keep HB1.out hkS HB1.out.size (fun q hq => by omega)
      have HB2 := Lib.hid (HB.out.trans (hb2.mono HB.out.size))
      have HSf := Lib.hid (HS1.out.keep hkS (fun q hq e => by have := HSlt.out q hq; omega))
      have hbt : BatchOk w2 (fun q => q < w.heap.size) (a.at_ (s.ap + 1)) := by
        have hb := HBO.out.fresh hb2
        exact ⟨hb.1, hb.2.1, hb.2.2.1, by have := HFL.out.2.1; show a.evs.length ≤ _; omega⟩
      have hcall := apply_any w2 (HTb.out.fresh HB2.out) p s F W HSf.out _ (a.at_ (s.ap + 1)) hbt (fun q hq e => by have := HF.out q (HSf.out.wf q e); omega) (by omega) (by have := HFL.out.2.1; have := HL.out; show _ + a.evs.length ≤ _; omega) (by have := HTL.out; omega)
      rw [show (a.at_ (s.ap + 1)).evv = .slice B a.evs.length d from HV.out] at hcall
      have HC := Lib.hid hcall
      have HBT := Lib.hid hbt
      clear hcall hbt hblk g0 hb2 hk2 hkS hw1 hw2
      go_wp2_with fail
      refine HC.out.mono ?_
      rintro e w3 ⟨rfl, hAp⟩
      go_wp2_with fail
      go_roundw
      case rel => exact PlayRel.step hlt HF.out HB2.out HSf.out (HI.out.step _) HL.out HTL.out hap hAp (by go_num)
      case measure => simp [intOf]; omega
    · have hkd : k = l.length := by omega
      subst hkd
      have hLb : s.L.length ≤ 1000 := by omega
      have HS := Lib.hid hS
      have HB := Lib.hid hB
      have HI := Lib.hid hI
      have hap2 : s.ap ≤ 1000 := by omega
      have hle := Idx.ofS_le s.L st
      obtain ⟨n, hn⟩ : ∃ n, (Idx.ofS s.L st).length = n := ⟨_, rfl⟩
      have hn1 : n ≤ 1000 := by omega
      have HN := Lib.hid hn
      have hver := fun wz (hz : Below wr.heap.size wr wz) => sversion_any wz p s F W (HS.out.fresh hz) st HMS.out
      rw [hn] at hver
      have HVER := Lib.hid hver
      have HPO := Lib.hid (fun wz (hz : Below wr.heap.size wr wz) (k : Int) => spos_any wz p s F W (HS.out.fresh hz) st HMS.out k (by omega))
      have HRD := Lib.hid (fun wz (hz : Below wr.heap.size wr wz) (k : Int) => sread_any wz p s F W (HS.out.fresh hz) st HMS.out k (by omega))
      have HAP := Lib.hid (fun wz (hz : Below wr.heap.size wr wz) => applied_any wz p s F W (HS.out.fresh hz))
      have hap0 := hap.1
      clear hS hB hF hI hL hTL hk hlt hver hn hle hap
      obtain ⟨wA, rfl⟩ : ∃ x, x = wr := ⟨_, rfl⟩
      go_wp2_with fail
      refine (HVER.out wA (Below.refl _ _)).mono ?_
      rintro e wr' ⟨rfl, rfl⟩
      go_wp2_with fail
      go_loopw [13, 14] (fun va kk wz => ∃ i : Nat, kk = .int .i64 (16 * (i : Int) + 1) ∧ 16 * i ≤ n + 15 ∧ Own wz wA.heap.size 55 2 evc va (((Idx.ofS s.L st).take (16 * i)).map Idx.Kp.e) ∧ Below wA.heap.size wA wz) (fun _ kk _ => n + 17 - (intOf kk).toNat)
      case atStart => exact ⟨0, rfl, by omega, Own.nil_ _ _ _ _ _, Below.refl _ _⟩
      case round =>
        obtain ⟨i, rfl, hi, hO, hB⟩ := hrel
        have HO := Lib.hid hO
        have HBz := Lib.hid hB
        clear hO hB
        by_cases hin : 16 * i + 1 ≤ n
        · have dk : decide (16 * (i : Int) + 1 ≤ (n : Int)) = true := decide_eq_true (by omega)
          have hii : i ≤ 100 := by omega
          go_upto_region 17 with (fail)
          go_wp2_with fail
          refine (HRD.out wr HBz.out (16 * (i : Int) + 1)).mono ?_
          rintro e w2 ⟨v, rfl, hB2, hS2⟩
          have hrow : (((Idx.ofS s.L st).drop (max (16 * (i : Int) + 1) 1 - 1).toNat).take 16).map Idx.Kp.e = (((Idx.ofS s.L st).drop (16 * i)).take 16).map Idx.Kp.e := by
            rw [show (max (16 * (i : Int) + 1) 1 - 1).toNat = 16 * i by omega]
          rw [hrow] at hS2
          have HO2 := Lib.hid (HO.out.fresh hB2)
          have HS2 := Lib.hid hS2
          have HB2 := Lib.hid (HBz.out.trans (hB2.mono HBz.out.size))
          clear hB2 hS2 hrow
          go_wp2_with (at_builtin; refine elEv.append _ (by rfl) _ _ rfl wA.heap.size _ _ rfl HO2.out _ _ _ rfl HS2.out (by simp; omega) HB2.out.size ?_; intro v' w' hO' hgr hAt)
          go_roundw
          case rel =>
            refine ⟨i + 1, ?_, by omega, ?_, Below.keep HB2.out (Keeps.of_grown hgr) HB2.out.size (fun q hq => (HO2.out.lt q hq).1)⟩
            · first | (congr 1; done) | (congr 1; omega)
            · rw [← List.map_append, ← List.take_add, show 16 * i + 16 = 16 * (i + 1) by omega] at hO'
              exact hO'
          case measure => simp [intOf]; omega
        · have dk : decide (16 * (i : Int) + 1 ≤ (n : Int)) = false := decide_eq_false (by omega)
          have hall : ((Idx.ofS s.L st).take (16 * i)).map Idx.Kp.e = (Idx.ofS s.L st).map Idx.Kp.e := by
            rw [List.take_of_length_le (by rw [HN.out]; omega)]
          have hii : i ≤ 100 := by omega
          have ho := HO.out
          rw [hall] at ho
          obtain ⟨Aa, ca, rfl, hca1, hca2⟩ := ho.shape_ (n := n) (by rw [List.length_map, HN.out])
          unfold maxLen at hca2
          have HO := Lib.hid ho
          obtain ⟨t, ht⟩ : ∃ t : Nat, gmax 1 (gmin fr ((n : Int) + 1)) = (t : Int) + 1 := ⟨(gmax 1 (gmin fr ((n : Int) + 1)) - 1).toNat, by simp only [gmax_def, gmin_def]; omega⟩
          have htn : t ≤ n := by simp only [gmax_def, gmin_def] at ht; omega
          have hrow : (((Idx.ofS s.L st).drop (max fr 1 - 1).toNat).take 16).map Idx.Kp.e = (((Idx.ofS s.L st).map Idx.Kp.e).drop t).take 16 := by
            rw [← List.map_drop, ← List.map_take]
            congr 2
            by_cases hf : fr ≤ (n : Int) + 1
            · have : (max fr 1 - 1).toNat = t := by simp only [gmax_def, gmin_def] at ht; omega
              rw [this]
            · have : t = n := by simp only [gmax_def, gmin_def] at ht; omega
              rw [List.drop_eq_nil_of_le (by rw [HN.out]; omega), List.drop_eq_nil_of_le (by rw [HN.out]; omega)]
          have hwn : IntKind.i64.wrap ((n : Int) + 1) = (n : Int) + 1 := IntWalk.i64_in _ (by omega)
          clear dk hall ho
          go_wp2_with fail
          refine (HRD.out wr HBz.out fr).mono ?_
          rintro e w2 ⟨v, rfl, hB2, hS2⟩
          rw [hrow] at hS2
          obtain ⟨m, hm⟩ : ∃ m, ((((Idx.ofS s.L st).map Idx.Kp.e).drop t).take 16).length = m := ⟨_, rfl⟩
          have hm2 : m = min 16 (n - t) := by rw [← hm, List.length_take, List.length_drop, List.length_map, HN.out]
          obtain ⟨Ar, cr, rfl, hr1, hr2⟩ := hS2.shape
          rw [hm] at hS2 hr1 ⊢
          have htk : (((Idx.ofS s.L st).map Idx.Kp.e).drop t).take 16 = (((Idx.ofS s.L st).map Idx.Kp.e).drop t).take m := by
            rw [List.take_eq_take_iff, List.length_drop, List.length_map, HN.out]; omega
          have HS2 := Lib.hid hS2
          have HB2 := Lib.hid (HBz.out.trans (hB2.mono HBz.out.size))
          have hcut := fun w => run_cut_mid Aa n ca t m (by omega) w
          have hsl := Sl.take_cap ((HO.out.fresh hB2).sl elEv.len) (t := t) (m := m) (by rw [List.length_map, HN.out]; omega)
          have hsm := fun wz (hz : Below w2.heap.size w2 wz) => Idx.same_any wz _ _ _ _ _ _ (hS2.fresh hz) (hsl.fresh hz)
          rw [decide_eq_true htk] at hsm
          have HSM := Lib.hid hsm
          have hg : gmin 16 ((n : Int) + 1 - ((t : Int) + 1)) = (m : Int) := by simp only [gmin_def]; omega
          have hwt : IntKind.i64.wrap ((n : Int) - (t : Int)) = (n : Int) - (t : Int) := IntWalk.i64_in _ (by omega)
          have hwm : IntKind.i64.wrap ((t : Int) + (m : Int)) = (t : Int) + (m : Int) := IntWalk.i64_in _ (by omega)
          have hwt1 : IntKind.i64.wrap ((t : Int) + 1) = (t : Int) + 1 := IntWalk.i64_in _ (by omega)
          have htn2 : t ≤ 1000 := by omega
          have hm3 : m ≤ 16 := by omega
          clear hB2 hS2 hsm hsl htk hrow hm hm2 ht htn hca1 hca2 hr1 hr2 hi hin
          go_wp2_with fail
          refine (HSM.out w2 (Below.refl _ _)).mono ?_
          rintro e w3 ⟨rfl, q, hq⟩
          have HB3 : Hid (Below wA.heap.size wA w3) := Lib.hid (by subst hq; exact HB2.out.trans ⟨rfl, rfl, rfl, Nat.le_refl _, fun _ _ => rfl⟩)
          clear hq hcut hg hwt hwm hwt1 hwn
          go_wp2_with fail
          go_loopw [17, 18] (fun kk _ wz => ∃ j : Nat, kk = .int .i64 ((j : Int) + 1) ∧ j ≤ n ∧ wz = w3) (fun kk _ _ => n + 1 - (intOf kk).toNat)
          case atStart => exact ⟨0, rfl, Nat.zero_le _, rfl⟩
          case round =>
            obtain ⟨j, rfl, hj, rfl⟩ := hrel
            by_cases hjt : j < n
            · have dj : decide ((j : Int) + 1 ≤ (n : Int)) = true := decide_eq_true (by omega)
              obtain ⟨e1, e2, e3, e4⟩ := HI.out.at_ st (k := j) (by rw [HN.out]; exact hjt)
              have hpo := HPO.out _ HB3.out ((j : Int) + 1)
              rw [e1] at hpo
              have HPJ := Lib.hid hpo
              have hj1 : j ≤ 1000 := by omega
              obtain ⟨x, hx⟩ : ∃ x, (Idx.ofS s.L st)[j]'(by rw [HN.out]; exact hjt) = x := ⟨_, rfl⟩
              rw [hx] at e2 e3 HPJ
              have dp1 : decide (x.pos < 1) = false := decide_eq_false (by omega)
              have dp2 : decide (x.pos > s.ap) = false := decide_eq_false (by omega)
              by_cases hj0 : j = 0
              · subst hj0
                have d0 : decide ((1 : Int) ≤ (n : Int)) = true := decide_eq_true (by omega)
                have hpo0 : Calls Tryd.prog 17 #[.pointer (some ⟨p, 0, none⟩), .string st, .int .i64 1] wr fun e w' => e = .returned (.int .i64 x.pos) ∧ wr = w' := by
                  have := HPJ.out
                  rwa [show ((0 : Nat) : Int) + 1 = 1 from rfl] at this
                have HP0 := Lib.hid hpo0
                have H0 := Lib.hid hjt
                clear e1 e2 e3 e4 hpo hjt dj hx hpo0
                go_wp2_with fail
                refine HP0.out.mono ?_
                rintro e w' ⟨rfl, rfl⟩
                go_wp2_with fail
                refine (HAP.out _ HB3.out).mono ?_
                rintro e w' ⟨rfl, rfl⟩
                go_wp2_with fail
                go_roundw
                case rel => exact ⟨1, by first | rfl | (congr 1; omega), by have := H0.out; omega, by first | rfl | trivial⟩
                case measure => have := H0.out; simp [intOf]; omega
              · have hjj : j - 1 < n := by omega
                obtain ⟨f1, -⟩ := HI.out.at_ st (k := j - 1) (by rw [HN.out]; exact hjj)
                have hpo2 := HPO.out _ HB3.out ((j : Int))
                have hf := e4 (j - 1) (by omega)
                rw [hx] at hf
                rw [show ((j - 1 : Nat) : Int) + 1 = (j : Int) by omega] at f1
                rw [f1] at hpo2
                obtain ⟨y, hy⟩ : ∃ y, (Idx.ofS s.L st)[j - 1]'(by rw [HN.out]; exact hjj) = y := ⟨_, rfl⟩
                rw [hy] at hf hpo2
                have HPO2 := Lib.hid hpo2
                have dp3 : decide (x.pos < y.pos) = false := decide_eq_false (by omega)
                have dp4 : decide ((j : Int) + 1 > 1) = true := decide_eq_true (by omega)
                have dp5 : (0 : Int) < (j : Int) := by omega
                have HDJ := Lib.hid hjt
                clear e1 e2 e3 e4 hpo hx hf hy f1 hpo2 hjj hj0 hj hjt
                go_wp2_with fail
                refine (HPJ.out).mono ?_
                rintro e w' ⟨rfl, rfl⟩
                go_wp2_with fail
                refine (HAP.out _ HB3.out).mono ?_
                rintro e w' ⟨rfl, rfl⟩
                go_wp2_with fail
                refine (HPO2.out).mono ?_
                rintro e w' ⟨rfl, rfl⟩
                go_wp2_with fail
                go_roundw
                case rel => exact ⟨j + 1, by go_num, HDJ.out, by first | rfl | trivial⟩
                case measure => have := HDJ.out; simp [intOf]; omega
            · have dj : decide ((j : Int) + 1 ≤ (n : Int)) = false := decide_eq_false (by omega)
              go_wp2_with fail
              go_ret
              exact ⟨rfl, HB.out.trans (HB3.out.mono HB.out.size)⟩
end Go.Proofs.YtlfhokcjbgpjhaaDoor
