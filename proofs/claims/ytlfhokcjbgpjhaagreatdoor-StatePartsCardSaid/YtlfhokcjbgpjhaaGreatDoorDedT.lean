/- The document's table: Sessions, Seqs. -/
import Derived.Test.YtlfhokcjbgpjhaaGreatDoorDedS
namespace Go.Proofs.YtlfhokcjbgpjhaaGreatDoor.Ded
open Go.RowKit Go.Bl
attribute [local go_sem ↓] Go.wp_at_zero Go.wp_at_succ

theorem findL_from {L : List En} {x y : Int} {o : Oc} (h : findL L x y = some o) : ∃ e ∈ L, e.ses = x ∧ e.seq = y := by
  obtain ⟨e, he, _⟩ := Option.map_eq_some_iff.1 h
  have hp := List.find?_some he
  simp only [Bool.and_eq_true, decide_eq_true_eq] at hp
  exact ⟨e, List.mem_of_find?_eq_some he, hp⟩
def RSessRel (w : World) (L : List En) (out i : Value) (wr : World) : Prop :=
  ∃ (k : Nat) (ks : List Int), k ≤ L.length ∧ i = .int .i64 k ∧ Own wr w.heap.size 3 1 intc out ks ∧ ks.Pairwise (· < ·) ∧ (∀ x, x ∈ ks ↔ ∃ e ∈ L.take k, e.ses = x) ∧ ks.length ≤ k ∧ Below w.heap.size w wr
set_option maxHeartbeats 1000000 in
theorem rsess_any (w : World) (p : Nat) (L : List En) (F : Nat → Prop) (h : RefAt w p L F) (hL : L.length ≤ 1000000) :
    Calls Tryz.prog 36 #[.pointer (some ⟨p, 0, none⟩)] w fun e w' => ∃ v ks, e = .returned v ∧ ks.Pairwise (· < ·) ∧ (∀ x, x ∈ ks ↔ ∃ e ∈ L, e.ses = x) ∧ Own w' w.heap.size 3 1 intc v ks ∧ Below w.heap.size w w' := by
  obtain ⟨v, h⟩ := h
  obtain ⟨A, c, rfl, hc1, hc2⟩ := h.row.shape_ rfl
  unfold maxLen at hc2
  have H := Lib.hid h
  have hp := h.lt p h.fp
  clear h
  go_enter Tryz.func36, Tryz.ntmps36
  go_wp2_with fail
  go_loopw [3, 4] (fun out i wr => RSessRel w L out i wr) (fun _ i _ => L.length - (intOf i).toNat)
  case atStart => exact ⟨0, [], Nat.zero_le _, rfl, Own.nil_ _ _ _ _ _, List.Pairwise.nil, by simp, by simp, Below.refl _ _⟩
  case round =>
    obtain ⟨k, ks, hk, rfl, hS, hr, hm, hl, hB⟩ := hrel
    obtain ⟨As, cs, rfl, _, _⟩ := hS.shape_ rfl
    have hI := H.out.fresh hB
    have c0 := hI.c0
    have HS := Lib.hid hS
    have HR := Lib.hid hr
    have HM := Lib.hid hm
    have HB := Lib.hid hB
    by_cases hlt : k < L.length
    · obtain ⟨b, o, rfl, _, hbl, hxx⟩ := (hI.row.sl elOne.len).cell_ hlt
      have x0 := hxx 0 _ rfl
      simp only [Nat.add_zero] at x0
      clear hI hS hr hm hB hxx
      go_wp2_with fail
      refine (insert_any wr w.heap.size _ ks HS.out HR.out L[k].ses (by omega) HB.out.size).mono ?_
      rintro e w2 ⟨v2, ks2, rfl, hr2, hm2, hl2, hS2, hB2⟩
      obtain ⟨A2, c2, rfl, _, _⟩ := hS2.shape_ rfl
      have HS2 := Lib.hid hS2
      have HR2 := Lib.hid hr2
      have HM2 := Lib.hid hm2
      have HB2 := Lib.hid hB2
      clear hS2 hr2 hm2 hB2
      go_wp2_with fail
      go_roundw
      case rel =>
        refine ⟨k + 1, ks2, by omega, by go_num, HS2.out, HR2.out, fun x => ?_, by omega, HB.out.trans (HB2.out.mono HB.out.size)⟩
        rw [HM2.out, HM.out, List.take_succ_eq_append_getElem hlt]
        constructor
        · rintro (⟨e, he, hq⟩ | hq)
          · exact ⟨e, List.mem_append_left _ he, hq⟩
          · exact ⟨L[k], List.mem_append_right _ (List.mem_singleton.2 rfl), hq.symm⟩
        · rintro ⟨e, he, hq⟩
          rcases List.mem_append.1 he with he | he
          · exact .inl ⟨e, he, hq⟩
          · obtain rfl := List.mem_singleton.1 he; exact .inr hq.symm
      case measure => simp [intOf]; omega
    · have hkd : k = L.length := by omega
      subst hkd
      clear hI hS hr hm hB
      go_wp2_with fail
      go_ret
      exact ⟨_, ks, rfl, HR.out, by have := HM.out; rwa [List.take_length] at this, HS.out, HB.out⟩

def RSeqsRel (w : World) (L : List En) (x : Int) (out i : Value) (wr : World) : Prop :=
  ∃ (k : Nat) (ks : List Int), k ≤ L.length ∧ i = .int .i64 k ∧ Own wr w.heap.size 3 1 intc out ks ∧ ks.Pairwise (· < ·) ∧ (∀ y, y ∈ ks ↔ ∃ e ∈ L.take k, e.ses = x ∧ e.seq = y ∧ (lookL L x y).2 = 1) ∧ ks.length ≤ k ∧ Below w.heap.size w wr
set_option maxHeartbeats 1000000 in
theorem rseqs_any (w : World) (p : Nat) (L : List En) (F : Nat → Prop) (h : RefAt w p L F) (hL : L.length ≤ 1000000) (x : Int) :
    Calls Tryz.prog 45 #[.pointer (some ⟨p, 0, none⟩), .int .i64 x] w fun e w' => ∃ v ks, e = .returned v ∧ ks.Pairwise (· < ·) ∧ (∀ y, y ∈ ks ↔ (lookL L x y).2 = 1) ∧ Own w' w.heap.size 3 1 intc v ks ∧ Below w.heap.size w w' := by
  obtain ⟨v, h⟩ := h
  obtain ⟨A, c, rfl, hc1, hc2⟩ := h.row.shape_ rfl
  unfold maxLen at hc2
  have H := Lib.hid h
  have hp := h.lt p h.fp
  clear h
  go_enter Tryz.func45, Tryz.ntmps45
  go_wp2_with fail
  go_loopw [5, 6] (fun out i wr => RSeqsRel w L x out i wr) (fun _ i _ => L.length - (intOf i).toNat)
  case atStart => exact ⟨0, [], Nat.zero_le _, rfl, Own.nil_ _ _ _ _ _, List.Pairwise.nil, by simp, by simp, Below.refl _ _⟩
  case round =>
    obtain ⟨k, ks, hk, rfl, hS, hr, hm, hl, hB⟩ := hrel
    obtain ⟨As, cs, rfl, _, _⟩ := hS.shape_ rfl
    have hI := H.out.fresh hB
    have c0 := hI.c0
    have HS := Lib.hid hS
    have HR := Lib.hid hr
    have HM := Lib.hid hm
    have HB := Lib.hid hB
    by_cases hlt : k < L.length
    · obtain ⟨b, o, rfl, _, hbl, hxx⟩ := (hI.row.sl elOne.len).cell_ hlt
      have x0 := hxx 0 _ rfl
      have x1 := hxx 1 _ rfl
      simp only [Nat.add_zero] at x0
      have hlook := rlook_any wr p L F ⟨_, hI⟩ x L[k].seq
      obtain ⟨r, hres⟩ : ∃ r, lookL L x L[k].seq = r := ⟨_, rfl⟩
      have hr2 : (lookL L x L[k].seq).2 = r.2 := by rw [hres]
      rw [hres] at hlook
      obtain ⟨⟨ra, rb, rc, rd⟩, rs⟩ := r
      unfold ocv at hlook
      dsimp only at hlook hr2
      have HRES := Lib.hid hr2
      clear hr2 hres
      have HL := Lib.hid hlook
      have HI := Lib.hid hI
      have hpw : p < wr.heap.size := Nat.lt_of_lt_of_le hp HB.out.size
      clear hI hS hr hm hB hxx hlook
      go_wp2_with fail
      refine HL.out.mono ?_
      rintro e w2 ⟨rfl, hB2⟩
      have hB2' : Below wr.heap.size wr (w2.alloc (.cells #[.int .i64 ra, .int .i64 rb, .int .i64 rc, .int .i64 rd] 35)) := hB2.alloc hB2.size _
      have hI2 := HI.out.fresh hB2'
      have d0 := hI2.c0
      have y0 := (hB2'.cell (p := ⟨b, _, none⟩) hbl).trans x0
      have y1 := (hB2'.cell (p := ⟨b, _, none⟩) hbl).trans x1
      go_upto_region 6 with (fail)
      generalize w2.alloc (.cells #[.int .i64 ra, .int .i64 rb, .int .i64 rc, .int .i64 rd] 35) = w3 at hB2' hI2 d0 y0 y1 ⊢
      have HB2 := Lib.hid hB2'
      have HS3 := Lib.hid (HS.out.fresh hB2')
      clear hB2 hB2' hI2 x0 x1 c0
      have hstep : ∀ y, (∃ e ∈ L.take (k + 1), e.ses = x ∧ e.seq = y ∧ (lookL L x y).2 = 1) ↔ y ∈ ks ∨ (y = L[k].seq ∧ L[k].ses = x ∧ rs = 1) := fun y => by
        rw [HM.out, List.take_succ_eq_append_getElem hlt]
        constructor
        · rintro ⟨e, he, h1, h2, h3⟩
          rcases List.mem_append.1 he with he | he
          · exact .inl ⟨e, he, h1, h2, h3⟩
          · obtain rfl := List.mem_singleton.1 he
            exact .inr ⟨h2.symm, h1, by rw [← HRES.out, h2]; exact h3⟩
        · rintro (⟨e, he, h1⟩ | ⟨h1, h2, h3⟩)
          · exact ⟨e, List.mem_append_left _ he, h1⟩
          · exact ⟨L[k], List.mem_append_right _ (List.mem_singleton.2 rfl), h2, h1.symm, by rw [h1, HRES.out]; exact h3⟩
      have HST := Lib.hid hstep
      clear hstep
      by_cases hse : L[k].ses = x
      · have hq : (L[k].ses == x) = true := by simp [hse]
        have HSE := Lib.hid hse
        clear hse
        by_cases hrs : rs = 1
        · subst hrs
          go_wp2_with fail
          refine (insert_any w3 w.heap.size _ ks HS3.out HR.out L[k].seq (by omega) (Nat.le_trans HB.out.size HB2.out.size)).mono ?_
          rintro e w5 ⟨v2, ks2, rfl, hr2, hm2, hl2, hS2, hB2⟩
          obtain ⟨A2, c2, rfl, _, _⟩ := hS2.shape_ rfl
          have HS2 := Lib.hid hS2
          have HR2 := Lib.hid hr2
          have HM2 := Lib.hid hm2
          have HB5 := Lib.hid hB2
          clear hS2 hr2 hm2 hB2
          go_wp2_with fail
          go_roundw
          case rel =>
            refine ⟨k + 1, ks2, by omega, by go_num, HS2.out, HR2.out, fun y => ?_, by omega, (HB.out.trans (HB2.out.mono HB.out.size)).trans (HB5.out.mono (Nat.le_trans HB.out.size HB2.out.size))⟩
            rw [HM2.out, HST.out]
            simp [HSE.out]
          case measure => simp [intOf]; omega
        · have hq2 : (rs == 1) = false := by simp [hrs]
          have HRS := Lib.hid hrs
          clear hrs
          go_wp2_with fail
          go_roundw
          case rel =>
            refine ⟨k + 1, ks, by omega, by go_num, HS3.out, HR.out, fun y => ?_, by omega, HB.out.trans (HB2.out.mono HB.out.size)⟩
            rw [HST.out]
            simp [HRS.out]
          case measure => simp [intOf]; omega
      · have hq : (L[k].ses == x) = false := by simp [hse]
        have HSE := Lib.hid hse
        clear hse
        go_wp2_with fail
        go_roundw
        case rel =>
          refine ⟨k + 1, ks, by omega, by go_num, HS3.out, HR.out, fun y => ?_, by omega, HB.out.trans (HB2.out.mono HB.out.size)⟩
          rw [HST.out]
          simp [HSE.out]
        case measure => simp [intOf]; omega
    · have hkd : k = L.length := by omega
      subst hkd
      clear hI hS hr hm hB
      go_wp2_with fail
      go_ret
      refine ⟨_, ks, rfl, HR.out, fun y => ?_, HS.out, HB.out⟩
      rw [HM.out, List.take_length]
      constructor
      · rintro ⟨_, _, _, _, h⟩
        exact h
      · intro hk
        obtain ⟨_, o, h2⟩ := (known_iff H.out.ok).1 hk
        obtain ⟨e, he, h3, h4⟩ := findL_from h2
        exact ⟨e, he, h3, h4, hk⟩
end Go.Proofs.YtlfhokcjbgpjhaaGreatDoor.Ded
