/- ManifestEpochs: the walk. Under the stated premises on sizes. -/
import Derived.Test.YthdehdlbocgfaaaDoorManF
import Derived.StillTailTactics
namespace Go.Proofs.YthdehdlbocgfaaaDoor
open Go.RowKit Go.Bl
attribute [local go_sem ↓] Go.wp_at_zero Go.wp_at_succ

theorem ep_names : ∀ {room : Int} {es : List Int}, Whole (epD room es).L := by
  intro room es f hf
  unfold epD at hf
  split at hf
  · cases hf
  · obtain rfl := List.mem_singleton.1 hf
    rfl
theorem ep_room (room : Int) (es : List Int) : (epD room es).room = room := by unfold epD; split <;> rfl
theorem ep_crash (room : Int) (es : List Int) (keep : List Int) (ks : List ByteArray) (k : Nat) : (⟨(epD room es).room, crashN keep ks (epD room es).L k⟩ : Dk) = epD room es := by
  rw [crashN_again ep_names k]
theorem ep_used {room : Int} {es : List Int} (h : EpUp 0 es) : (epD room es).used ≤ 14 * (es.length : Int) := by
  have := epL_len (Int.le_refl 0) h
  unfold epD
  split
  · show ((total [] : Nat) : Int) ≤ _
    have : total ([] : List Fl) = 0 := rfl
    omega
  · show ((total [⟨sMark, epB es, (epB es).size⟩] : Nat) : Int) ≤ _
    have : total [(⟨sMark, epB es, (epB es).size⟩ : Fl)] = (epL es).length + 0 := rfl
    omega
set_option maxRecDepth 100000 in
set_option maxHeartbeats 8000000 in
theorem epochs_law (w : World) (hT : Tabs w) (G : Nat → Prop) (hG : ∀ k, G k → k < w.heap.size) (v kv : Value) (l keep : List Int) (h : Sl w G 1 intc v l) (hk : Sl w G 1 intc kv keep) (hl : ∀ x ∈ l, i64 x) :
    Calls Tryd.prog 3 #[v, kv] w fun e w' => e = .returned (.bool true) ∧ Below w.heap.size w w' := by
  obtain ⟨A, c, rfl, hA1, hA2⟩ := h.shape
  obtain ⟨A', c', rfl, hA1', hA2'⟩ := hk.shape
  unfold maxLen at hA2 hA2'
  have HT := Lib.hid hT
  have HS := Lib.hid (h.mono (F' := fun k => k < w.heap.size) (fun k _ hg => hG k hg))
  have HK := Lib.hid (hk.mono (F' := fun k => k < w.heap.size) (fun k _ hg => hG k hg))
  have HL := Lib.hid hl
  clear hT h hk hl
  go_enter Tryd.func3, Tryd.ntmps3
  go_wp2_with fail
  refine (shown_any w HT.out).mono ?_
  rintro e w1 ⟨rfl, hB1⟩
  have HB1 := Lib.hid hB1
  clear hB1
  go_wp2_with fail
  refine (begunQ (HT.out.fresh HB1.out) 100000 (by decide) (by decide)).mono ?_
  rintro e w2 ⟨p, pm, rfl, hQ, hB⟩
  have hP := Pr.begin (w0 := w) (pm := pm) (hQ.more (X' := fun k => k < w.heap.size) (Below.refl _ _) (fun k hk => .inl (Nat.lt_of_lt_of_le hk HB1.out.size)) (fun k hk => by have := HB1.out.size; have := hB.size; omega) (fun k hk => Nat.lt_of_lt_of_le hk HT.out.lt)) (HB1.out.trans (hB.mono HB1.out.size))
  obtain ⟨b, hb⟩ : ∃ b, w2.heap.size = b := ⟨_, rfl⟩
  rw [hb] at hP
  have HP := Lib.hid hP
  have HBW := Lib.hid hb
  clear hQ hB hP hb
  by_cases h100 : 100 < l.length
  · have d1 : decide ((100 : Int) < (l.length : Int)) = true := by simp; omega
    go_wp2_with fail
    go_ret
    exact ⟨rfl, HP.out.past⟩
  have d1 : decide ((100 : Int) < (l.length : Int)) = false := by simp; omega
  by_cases h30 : 30 < keep.length
  · have d2 : decide ((30 : Int) < (keep.length : Int)) = true := by simp; omega
    go_wp2_with fail
    go_ret
    exact ⟨rfl, HP.out.past⟩
  have d2 : decide ((30 : Int) < (keep.length : Int)) = false := by simp; omega
  go_wp2_with fail
  rw [HBW.out]
  generalize w2.alloc (.cells #[.pointer (some ⟨p, 0, none⟩), .pointer (some ⟨pm, 0, none⟩)] 27) = w3 at HP ⊢
  clear d1 d2 HBW
  go_loopw [8, 9] (fun n i wr => ∃ (k : Nat) (es : List Int), k ≤ l.length ∧ n = .int .i64 (epLast 0 es) ∧ i = .int .i64 k ∧ EpUp 0 es ∧ es.length ≤ 21 ∧ Pr w wr b p pm (epD 100000 es)) (fun _ i _ => l.length - (intOf i).toNat)
  case atStart => exact ⟨0, [], Nat.zero_le _, rfl, rfl, trivial, by decide, HP.out⟩
  case round =>
    obtain ⟨k, es, hk, rfl, rfl, hu, hes, hP⟩ := hrel
    have HPr := Lib.hid hP
    have HU := Lib.hid hu
    have HES := Lib.hid hes
    clear hP hu hes HP
    by_cases hlt : k < l.length
    · have d0 : decide ((k : Int) < (l.length : Int)) = true := by simp; omega
      obtain ⟨q, o, rfl, hq1, hq2, hxx⟩ := (HS.out.below HPr.out.past (fun _ _ h => h)).cell_ hlt
      have x0 := hxx 0 _ rfl
      rw [Nat.mul_one, Nat.add_zero] at x0
      have hi := HL.out l[k] (List.getElem_mem hlt)
      obtain ⟨n, hn⟩ : ∃ n, n = l[k] := ⟨_, rfl⟩
      rw [← hn] at x0 hi
      have HN := Lib.hid hn
      clear hn hxx
      unfold i64 at hi
      have c0 := HPr.out.c0
      obtain ⟨r1, r2, r3⟩ := epD_raise (room := 100000) (es := es) (by decide) HU.out HES.out n
      have R1 := Lib.hid r1
      have R2 := Lib.hid r2
      have R3 := Lib.hid r3
      clear r1 r2 r3
      go_upto_region 9 with (fail)
      go_still_tail 6, (by kernel_rfl)
      change wpList _ _ _ _ _ wr.drew
      have hPd := HPr.out.fresh (w' := wr.drew) ⟨rfl, rfl, rfl, Nat.le_refl _, fun _ _ => rfl⟩
      have HPd := Lib.hid hPd
      clear hPd
      go_wp2_with fail
      refine (raiseQ HPd.out.disk n).mono ?_
      rintro e w4 ⟨rfl, hD, hk4⟩
      have x0 := (hk4.cell (a := ⟨q, o + k, none⟩) hq2 (fun h => h (.inl hq1))).trans x0
      have h4 := HPd.out.step hD hk4
      have c0 := h4.c0
      have H4 := Lib.hid h4
      clear hD hk4 h4
      obtain ⟨er, her⟩ : ∃ er, ((epD 100000 es).raise n).1 = er := ⟨_, rfl⟩
      rw [her]
      have HE := Lib.hid her
      clear her
      by_cases g1 : n < 1
      · have hr := R1.out (.inl g1)
        rw [hr] at H4 HE
        obtain rfl : er = 1 := HE.out.symm
        clear hr
        have hm := epsS_ep (es := es) HU.out
        rw [← epD_mark 100000 es] at hm
        have hus := ep_used (room := 100000) HU.out
        have hl21 := HES.out
        have hus2 : (epD 100000 es).used ≤ 294 := by omega
        obtain ⟨us, hus3⟩ : ∃ us, (epD 100000 es).used = us := ⟨_, rfl⟩
        rw [hus3] at hus2
        have HM := Lib.hid hm
        have HUS := Lib.hid hus3
        clear hm hus hl21 hus3
        by_cases h3 : (k : Int) % 3 = 2
        · have d3 : ((k : Int) % 3 == 2) = true := by rw [beq_iff_eq]; exact h3
          clear h3
          go_wp2_with fail
          refine (crashQ H4.out.disk _ keep ((HK.out.below H4.out.past (fun _ _ h => h)).mono (fun _ _ h => .inl h))).mono ?_
          rintro e w5 ⟨rfl, ks, hN, hD, hk5⟩
          rw [ep_crash] at hD
          have h5 := H4.out.step hD hk5
          have c0 := h5.c0
          have H5 := Lib.hid h5
          clear hD hk5 h5 hN
          go_wp2_with fail
          have hc := epochQ H5.out.disk
          rw [HM.out] at hc
          refine hc.mono ?_
          clear hc
          rintro e w6 ⟨rfl, hB⟩
          have h6 := H5.out.fresh hB
          have c0 := h6.c0
          have H6 := Lib.hid h6
          clear hB h6
          go_wp2_with fail
          have hc := usedQ H6.out.disk
          rw [HUS.out] at hc
          refine hc.mono ?_
          clear hc
          rintro e w7 ⟨rfl, rfl⟩
          go_wp2_with fail
          go_roundw
          case rel => exact ⟨k + 1, es, by omega, rfl, by go_num, HU.out, HES.out, H6.out⟩
          case measure => simp [intOf]; omega
        · have d3 : ((k : Int) % 3 == 2) = false := by rw [beq_eq_false_iff_ne]; exact h3
          clear h3
          go_wp2_with fail
          have hc := epochQ H4.out.disk
          rw [HM.out] at hc
          refine hc.mono ?_
          clear hc
          rintro e w6 ⟨rfl, hB⟩
          have h6 := H4.out.fresh hB
          have c0 := h6.c0
          have H6 := Lib.hid h6
          clear hB h6
          go_wp2_with fail
          have hc := usedQ H6.out.disk
          rw [HUS.out] at hc
          refine hc.mono ?_
          clear hc
          rintro e w7 ⟨rfl, rfl⟩
          go_wp2_with fail
          go_roundw
          case rel => exact ⟨k + 1, es, by omega, rfl, by go_num, HU.out, HES.out, H6.out⟩
          case measure => simp [intOf]; omega
      · by_cases g2 : 274877906944 < n
        · have hr := R1.out (.inr g2)
          rw [hr] at H4 HE
          obtain rfl : er = 1 := HE.out.symm
          clear hr
          have hm := epsS_ep (es := es) HU.out
          rw [← epD_mark 100000 es] at hm
          have hus := ep_used (room := 100000) HU.out
          have hl21 := HES.out
          have hus2 : (epD 100000 es).used ≤ 294 := by omega
          obtain ⟨us, hus3⟩ : ∃ us, (epD 100000 es).used = us := ⟨_, rfl⟩
          rw [hus3] at hus2
          have HM := Lib.hid hm
          have HUS := Lib.hid hus3
          clear hm hus hl21 hus3
          by_cases h3 : (k : Int) % 3 = 2
          · have d3 : ((k : Int) % 3 == 2) = true := by rw [beq_iff_eq]; exact h3
            clear h3
            go_wp2_with fail
            refine (crashQ H4.out.disk _ keep ((HK.out.below H4.out.past (fun _ _ h => h)).mono (fun _ _ h => .inl h))).mono ?_
            rintro e w5 ⟨rfl, ks, hN, hD, hk5⟩
            rw [ep_crash] at hD
            have h5 := H4.out.step hD hk5
            have c0 := h5.c0
            have H5 := Lib.hid h5
            clear hD hk5 h5 hN
            go_wp2_with fail
            have hc := epochQ H5.out.disk
            rw [HM.out] at hc
            refine hc.mono ?_
            clear hc
            rintro e w6 ⟨rfl, hB⟩
            have h6 := H5.out.fresh hB
            have c0 := h6.c0
            have H6 := Lib.hid h6
            clear hB h6
            go_wp2_with fail
            have hc := usedQ H6.out.disk
            rw [HUS.out] at hc
            refine hc.mono ?_
            clear hc
            rintro e w7 ⟨rfl, rfl⟩
            go_wp2_with fail
            go_roundw
            case rel => exact ⟨k + 1, es, by omega, rfl, by go_num, HU.out, HES.out, H6.out⟩
            case measure => simp [intOf]; omega
          · have d3 : ((k : Int) % 3 == 2) = false := by rw [beq_eq_false_iff_ne]; exact h3
            clear h3
            go_wp2_with fail
            have hc := epochQ H4.out.disk
            rw [HM.out] at hc
            refine hc.mono ?_
            clear hc
            rintro e w6 ⟨rfl, hB⟩
            have h6 := H4.out.fresh hB
            have c0 := h6.c0
            have H6 := Lib.hid h6
            clear hB h6
            go_wp2_with fail
            have hc := usedQ H6.out.disk
            rw [HUS.out] at hc
            refine hc.mono ?_
            clear hc
            rintro e w7 ⟨rfl, rfl⟩
            go_wp2_with fail
            go_roundw
            case rel => exact ⟨k + 1, es, by omega, rfl, by go_num, HU.out, HES.out, H6.out⟩
            case measure => simp [intOf]; omega
        · by_cases g3 : n < epLast 0 es
          · have hr := R2.out (fun h => h.elim g1 g2) g3
            rw [hr] at H4 HE
            obtain rfl : er = 10 := HE.out.symm
            clear hr
            have hm := epsS_ep (es := es) HU.out
            rw [← epD_mark 100000 es] at hm
            have hus := ep_used (room := 100000) HU.out
            have hl21 := HES.out
            have hus2 : (epD 100000 es).used ≤ 294 := by omega
            obtain ⟨us, hus3⟩ : ∃ us, (epD 100000 es).used = us := ⟨_, rfl⟩
            rw [hus3] at hus2
            have HM := Lib.hid hm
            have HUS := Lib.hid hus3
            clear hm hus hl21 hus3
            by_cases h3 : (k : Int) % 3 = 2
            · have d3 : ((k : Int) % 3 == 2) = true := by rw [beq_iff_eq]; exact h3
              clear h3
              go_wp2_with fail
              refine (crashQ H4.out.disk _ keep ((HK.out.below H4.out.past (fun _ _ h => h)).mono (fun _ _ h => .inl h))).mono ?_
              rintro e w5 ⟨rfl, ks, hN, hD, hk5⟩
              rw [ep_crash] at hD
              have h5 := H4.out.step hD hk5
              have c0 := h5.c0
              have H5 := Lib.hid h5
              clear hD hk5 h5 hN
              go_wp2_with fail
              have hc := epochQ H5.out.disk
              rw [HM.out] at hc
              refine hc.mono ?_
              clear hc
              rintro e w6 ⟨rfl, hB⟩
              have h6 := H5.out.fresh hB
              have c0 := h6.c0
              have H6 := Lib.hid h6
              clear hB h6
              go_wp2_with fail
              have hc := usedQ H6.out.disk
              rw [HUS.out] at hc
              refine hc.mono ?_
              clear hc
              rintro e w7 ⟨rfl, rfl⟩
              go_wp2_with fail
              go_roundw
              case rel => exact ⟨k + 1, es, by omega, rfl, by go_num, HU.out, HES.out, H6.out⟩
              case measure => simp [intOf]; omega
            · have d3 : ((k : Int) % 3 == 2) = false := by rw [beq_eq_false_iff_ne]; exact h3
              clear h3
              go_wp2_with fail
              have hc := epochQ H4.out.disk
              rw [HM.out] at hc
              refine hc.mono ?_
              clear hc
              rintro e w6 ⟨rfl, hB⟩
              have h6 := H4.out.fresh hB
              have c0 := h6.c0
              have H6 := Lib.hid h6
              clear hB h6
              go_wp2_with fail
              have hc := usedQ H6.out.disk
              rw [HUS.out] at hc
              refine hc.mono ?_
              clear hc
              rintro e w7 ⟨rfl, rfl⟩
              go_wp2_with fail
              go_roundw
              case rel => exact ⟨k + 1, es, by omega, rfl, by go_num, HU.out, HES.out, H6.out⟩
              case measure => simp [intOf]; omega
          · obtain ⟨es2, hr, hu2, hl2, he2⟩ := R3.out (fun h => h.elim g1 g2) (by omega)
            rw [hr] at H4 HE
            obtain rfl : er = 0 := HE.out.symm
            have HU2 := Lib.hid hu2
            have HL2 := Lib.hid hl2
            have HE2 := Lib.hid he2
            clear hr hu2 hl2 he2
            rw [← HE2.out] at x0 g1 g2 g3
            have hm := epsS_ep (es := es2) HU2.out
            rw [← epD_mark 100000 es2] at hm
            have hus := ep_used (room := 100000) HU2.out
            have hl21 := HL2.out
            have hus2 : (epD 100000 es2).used ≤ 294 := by omega
            obtain ⟨us, hus3⟩ : ∃ us, (epD 100000 es2).used = us := ⟨_, rfl⟩
            rw [hus3] at hus2
            have HM := Lib.hid hm
            have HUS := Lib.hid hus3
            clear hm hus hl21 hus3
            by_cases h3 : (k : Int) % 3 = 2
            · have d3 : ((k : Int) % 3 == 2) = true := by rw [beq_iff_eq]; exact h3
              clear h3
              go_wp2_with fail
              refine (crashQ H4.out.disk _ keep ((HK.out.below H4.out.past (fun _ _ h => h)).mono (fun _ _ h => .inl h))).mono ?_
              rintro e w5 ⟨rfl, ks, hN, hD, hk5⟩
              rw [ep_crash] at hD
              have h5 := H4.out.step hD hk5
              have c0 := h5.c0
              have H5 := Lib.hid h5
              clear hD hk5 h5 hN
              go_wp2_with fail
              have hc := epochQ H5.out.disk
              rw [HM.out] at hc
              refine hc.mono ?_
              clear hc
              rintro e w6 ⟨rfl, hB⟩
              have h6 := H5.out.fresh hB
              have c0 := h6.c0
              have H6 := Lib.hid h6
              clear hB h6
              go_wp2_with fail
              have hc := usedQ H6.out.disk
              rw [HUS.out] at hc
              refine hc.mono ?_
              clear hc
              rintro e w7 ⟨rfl, rfl⟩
              go_wp2_with fail
              go_roundw
              case rel => exact ⟨k + 1, es2, by omega, rfl, by go_num, HU2.out, HL2.out, H6.out⟩
              case measure => simp [intOf]; omega
            · have d3 : ((k : Int) % 3 == 2) = false := by rw [beq_eq_false_iff_ne]; exact h3
              clear h3
              go_wp2_with fail
              have hc := epochQ H4.out.disk
              rw [HM.out] at hc
              refine hc.mono ?_
              clear hc
              rintro e w6 ⟨rfl, hB⟩
              have h6 := H4.out.fresh hB
              have c0 := h6.c0
              have H6 := Lib.hid h6
              clear hB h6
              go_wp2_with fail
              have hc := usedQ H6.out.disk
              rw [HUS.out] at hc
              refine hc.mono ?_
              clear hc
              rintro e w7 ⟨rfl, rfl⟩
              go_wp2_with fail
              go_roundw
              case rel => exact ⟨k + 1, es2, by omega, rfl, by go_num, HU2.out, HL2.out, H6.out⟩
              case measure => simp [intOf]; omega
    · have d0 : decide ((k : Int) < (l.length : Int)) = false := by simp; omega
      go_wp2_with fail
      go_ret
      exact ⟨rfl, HPr.out.past⟩
end Go.Proofs.YthdehdlbocgfaaaDoor
