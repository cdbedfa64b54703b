/- NetNumbers: what the statement's function does: it answers true. -/
import Derived.Test.YtnooggfecgidcaaNetG
import Derived.Deep.CutBlock
namespace Go.Proofs.Ytnooggfecgidcaa
open Go.RowKit Go.Bl

def NumRel (w : World) (p : Nat) (K : Nat) (n : Nat) (lv i : Value) (wr : World) : Prop :=
  ∃ (k : Nat) (s : Nt), k ≤ n ∧ i = .int .i64 k ∧ lv = .int .i64 s.last ∧ s.room = 1 + (K : Int) ∧ s.last ≤ k ∧ s.lost ≤ k ∧ NetP (fun q => q < w.heap.size) wr p s ∧ Below w.heap.size w wr
def NumRel2 (w : World) (p : Nat) (K : Nat) (k : Nat) (lv : Value) (wr : World) : Prop :=
  ∃ s : Nt, lv = .int .i64 s.last ∧ s.room = 1 + (K : Int) ∧ s.last ≤ (k : Int) + 1 ∧ s.lost ≤ (k : Int) + 1 ∧ NetP (fun q => q < w.heap.size) wr p s ∧ Below w.heap.size w wr

set_option maxRecDepth 4000 in
set_option maxHeartbeats 4000000 in
theorem numbers_any (w : World) (G : Nat → Prop) (room : Int) (v : Value) (l : List Ac) (hroom : i64 room) (h : Sl w G 5 acc v l) (hok : ∀ a ∈ l, AcOk a) (_hG : ∀ k, G k → k < w.heap.size) :
    Calls Try.prog 5 #[.int .i64 room, v] w fun e w' => e = .returned (.bool true) ∧ Below w.heap.size w w' := by
  obtain ⟨A, c, rfl, hA1, hA2⟩ := h.shape
  unfold maxLen at hA2
  have hpick : ∀ w, Calls Try.prog 13 #[.int .i64 room, .int .i64 20] w fun e w' => e = .returned (.int .i64 ((if room < 0 then -(room + 1) else room) % 20)) ∧ w = w' := fun w => pick_any w room 20 hroom (by omega)
  obtain ⟨K, hK, hK20⟩ : ∃ K : Nat, (if room < 0 then -(room + 1) else room) % 20 = (K : Int) ∧ K < 20 := ⟨((if room < 0 then -(room + 1) else room) % 20).toNat, by omega, by omega⟩
  rw [hK] at hpick
  have HP := Lib.hid hpick
  have HA := Lib.hid h
  have HO := Lib.hid hok
  clear hpick hK h hok hroom
  go_enter Try.func5, Try.ntmps5
  go_wp2_with fail
  refine (shown_any w).mono ?_
  rintro e w0 ⟨rfl, hB0⟩
  have HB0 := Lib.hid hB0
  have HA0 := Lib.hid (HA.out.keep (Keeps.of_fresh hB0 (fun k => w.heap.size ≤ k)) (fun k hk _ hx => by omega))
  clear hB0
  go_wp2_with fail
  refine (small_any w0 G _ l HA0.out HO.out).mono ?_
  rintro e w0' ⟨rfl, rfl⟩
  go_wp2_with fail
  refine (HP.out w0).mono ?_
  rintro e w0' ⟨rfl, rfl⟩
  go_wp2_with fail
  refine (newP w0 (fun k => k < w.heap.size) (fun k hk => Nat.lt_of_lt_of_le hk HB0.out.size) (1 + (K : Int)) (by omega) (by omega)).mono ?_
  rintro e w1 ⟨p, rfl, hN1, hB1⟩
  have HN1 := Lib.hid hN1
  have HB1 := Lib.hid (HB0.out.trans (hB1.mono HB0.out.size))
  clear hN1 hB1 HB0
  cases hsm : smallB l
  · go_wp2_with fail
    go_ret
    exact ⟨rfl, HB1.out⟩
  · have HSM := Lib.hid hsm
    go_wp2_with fail
    have hl100 : l.length ≤ 100 := by
      have := HSM.out
      simp only [smallB, Bool.and_eq_true, decide_eq_true_eq] at this
      exact this.1
    go_loopw [9, 10] (fun lv i wr => NumRel w p K l.length lv i wr) (fun _ i _ => l.length - (Go.RowKit.intOf i).toNat)
    case atStart => exact ⟨0, _, Nat.zero_le _, rfl, rfl, rfl, Int.le_refl _, Int.le_refl _, HN1.out, HB1.out⟩
    case round =>
      obtain ⟨k, s, hk, rfl, rfl, hroom, hlast, hlost, hN, hB⟩ := hrel
      have HN := Lib.hid hN
      have HB := Lib.hid hB
      have HRM := Lib.hid hroom
      clear hN hB hroom
      by_cases hlt : k < l.length
      · obtain ⟨b, o, rfl, hGb, hbl, hx⟩ := HA.out.cell_ hlt
        have x0 := (HB.out.cell (p := ⟨b, _, none⟩) hbl).trans (hx 0 _ rfl)
        have x1 := (HB.out.cell (p := ⟨b, _, none⟩) hbl).trans (hx 1 _ rfl)
        have x2 := (HB.out.cell (p := ⟨b, _, none⟩) hbl).trans (hx 2 _ rfl)
        have x3 := (HB.out.cell (p := ⟨b, _, none⟩) hbl).trans (hx 3 _ rfl)
        have x4 := (HB.out.cell (p := ⟨b, _, none⟩) hbl).trans (hx 4 _ rfl)
        simp only [Nat.add_zero] at x0
        clear hx
        obtain ⟨o1, o2, o3, o4, o5⟩ := HO.out l[k] (List.getElem_mem hlt)
        have HO5 := Lib.hid (And.intro o1 (And.intro o2 (And.intro o3 (And.intro o4 o5))))
        clear o1 o2 o3 o4 o5
        obtain ⟨fb, hfb⟩ : ∃ fb : Bool, ((s.L.length : Int) == 1 + (K : Int)) = fb := ⟨_, rfl⟩
        go_wp2_with fail
        refine (lostP _ _ p s (HN.out.fresh ((Below.refl _ _).alloc (Nat.le_refl _) _))).mono ?_
        rintro e w2 ⟨rfl, rfl⟩
        go_wp2_with fail
        refine (lenP _ _ p s (HN.out.fresh ((Below.refl _ _).alloc (Nat.le_refl _) _))).mono ?_
        rintro e w2 ⟨rfl, rfl⟩
        go_wp2_with fail
        refine (HP.out _).mono ?_
        rintro e w2 ⟨rfl, rfl⟩
        go_wp2_with fail
        have Hfb := Lib.hid hfb
        clear hfb
        refine (pick_any _ l[k].op 3 HO5.out.1 (by omega)).mono ?_
        obtain ⟨r, hr, hr3⟩ : ∃ r : Nat, (if l[k].op < 0 then -(l[k].op + 1) else l[k].op) % 3 = (r : Int) ∧ r < 3 := ⟨((if l[k].op < 0 then -(l[k].op + 1) else l[k].op) % 3).toNat, by omega, by omega⟩
        rintro e w2 ⟨he, rfl⟩
        rw [hr] at he
        subst he
        clear hr
        have hlast0 : 0 ≤ s.last := HN.out.ok.last0
        have hlost0 : 0 ≤ s.lost := HN.out.ok.lost0
        have hk100 : k < 100 := by omega
        go_upto_block 2 with (fail)
        go_cut [9] (fun lv wx => NumRel2 w p K k lv wx)
        case first =>
          obtain rfl | rfl | rfl : r = 0 ∨ r = 1 ∨ r = 2 := by omega
          ·
            have hsnd := sendP _ (fun q => q < w.heap.size) (fun q hq => by have := HB.out.size; rw [World.size_alloc]; omega) p s (HN.out.fresh ((Below.refl _ wr).alloc (Nat.le_refl _) (.cells #[.int .i64 l[k].op, .int .i64 l[k].frm, .int .i64 l[k].to, .int .i64 l[k].no, .string l[k].txt] 46))) l[k].frm l[k].to l[k].txt (by have := HO5.out.2.2.2.2; unfold maxLen; omega) (by omega) (by omega)
            have h81 : l[k].txt.size ≤ 140737488355328 := HO5.out.2.2.2.2
            by_cases t1 : 8100 < l[k].txt.size
            · have hs : s.send l[k].frm l[k].to l[k].txt = (s, 0, 4) := by unfold Nt.send; rw [if_pos t1]
              rw [hs] at hsnd
              have HSN := Lib.hid hsnd
              clear hs hsnd t1
              go_wp2_with fail
              refine HSN.out.mono ?_
              rintro e w2 ⟨rfl, hN2, hK2⟩
              have HB2 := Lib.hid ((HB.out.alloc HB.out.size _).trans (below_not hK2 (by have := HB.out.size; rw [World.size_alloc]; omega) (fun q hq => hq)))
              clear hK2
              go_wp2_with fail
              go_meet
              exact ⟨s, rfl, HRM.out, by omega, by omega, hN2, HB2.out⟩
            · by_cases t2 : s.room ≤ (s.L.length : Int)
              · have hs : s.send l[k].frm l[k].to l[k].txt = ({ s with lost := s.lost + 1 }, 0, 8) := by unfold Nt.send; rw [if_neg t1, if_pos t2]
                rw [hs] at hsnd
                have HSN := Lib.hid hsnd
                obtain rfl : fb = true := by have := HN.out.ok.len; have := HRM.out; rw [← Hfb.out, beq_iff_eq]; omega
                clear hs hsnd t1 t2
                go_wp2_with fail
                refine HSN.out.mono ?_
                rintro e w2 ⟨rfl, hN2, hK2⟩
                have HB2 := Lib.hid ((HB.out.alloc HB.out.size _).trans (below_not hK2 (by have := HB.out.size; rw [World.size_alloc]; omega) (fun q hq => hq)))
                have HN2 := Lib.hid hN2
                clear hK2 hN2
                go_wp2_with fail
                refine (lostP w2 _ p _ HN2.out).mono ?_
                rintro e w3 ⟨rfl, rfl⟩
                go_wp2_with fail
                go_meet
                exact ⟨{ s with lost := s.lost + 1 }, rfl, HRM.out, by show s.last ≤ (k : Int) + 1; omega, by show s.lost + 1 ≤ (k : Int) + 1; omega, HN2.out, HB2.out⟩
              · have hs : s.send l[k].frm l[k].to l[k].txt = ({ s with last := s.last + 1, L := s.L ++ [⟨s.last + 1, l[k].frm, l[k].to, l[k].txt⟩] }, s.last + 1, 0) := by unfold Nt.send; rw [if_neg t1, if_neg t2]
                rw [hs] at hsnd
                have HSN := Lib.hid hsnd
                obtain rfl : fb = false := by have := HRM.out; rw [← Hfb.out, beq_eq_false_iff_ne]; omega
                clear hs hsnd t1 t2
                go_wp2_with fail
                refine HSN.out.mono ?_
                rintro e w2 ⟨rfl, hN2, hK2⟩
                have HB2 := Lib.hid ((HB.out.alloc HB.out.size _).trans (below_not hK2 (by have := HB.out.size; rw [World.size_alloc]; omega) (fun q hq => hq)))
                have HN2 := Lib.hid hN2
                clear hK2 hN2
                go_wp2_with fail
                go_meet
                exact ⟨{ s with last := s.last + 1, L := s.L ++ [⟨s.last + 1, l[k].frm, l[k].to, l[k].txt⟩] }, rfl, HRM.out, by show s.last + 1 ≤ (k : Int) + 1; omega, by show s.lost ≤ (k : Int) + 1; omega, HN2.out, HB2.out⟩
          ·
            have hsnd := sendP _ (fun q => q < w.heap.size) (fun q hq => by have := HB.out.size; rw [World.size_alloc]; omega) p s (HN.out.fresh ((Below.refl _ wr).alloc (Nat.le_refl _) (.cells #[.int .i64 l[k].op, .int .i64 l[k].frm, .int .i64 l[k].to, .int .i64 l[k].no, .string l[k].txt] 46))) l[k].frm l[k].to l[k].txt (by have := HO5.out.2.2.2.2; unfold maxLen; omega) (by omega) (by omega)
            have h81 : l[k].txt.size ≤ 140737488355328 := HO5.out.2.2.2.2
            by_cases t1 : 8100 < l[k].txt.size
            · have hs : s.send l[k].frm l[k].to l[k].txt = (s, 0, 4) := by unfold Nt.send; rw [if_pos t1]
              rw [hs] at hsnd
              have HSN := Lib.hid hsnd
              clear hs hsnd t1
              go_wp2_with fail
              refine HSN.out.mono ?_
              rintro e w2 ⟨rfl, hN2, hK2⟩
              have HB2 := Lib.hid ((HB.out.alloc HB.out.size _).trans (below_not hK2 (by have := HB.out.size; rw [World.size_alloc]; omega) (fun q hq => hq)))
              clear hK2
              go_wp2_with fail
              go_meet
              exact ⟨s, rfl, HRM.out, by omega, by omega, hN2, HB2.out⟩
            · by_cases t2 : s.room ≤ (s.L.length : Int)
              · have hs : s.send l[k].frm l[k].to l[k].txt = ({ s with lost := s.lost + 1 }, 0, 8) := by unfold Nt.send; rw [if_neg t1, if_pos t2]
                rw [hs] at hsnd
                have HSN := Lib.hid hsnd
                obtain rfl : fb = true := by have := HN.out.ok.len; have := HRM.out; rw [← Hfb.out, beq_iff_eq]; omega
                clear hs hsnd t1 t2
                go_wp2_with fail
                refine HSN.out.mono ?_
                rintro e w2 ⟨rfl, hN2, hK2⟩
                have HB2 := Lib.hid ((HB.out.alloc HB.out.size _).trans (below_not hK2 (by have := HB.out.size; rw [World.size_alloc]; omega) (fun q hq => hq)))
                have HN2 := Lib.hid hN2
                clear hK2 hN2
                go_wp2_with fail
                refine (lostP w2 _ p _ HN2.out).mono ?_
                rintro e w3 ⟨rfl, rfl⟩
                go_wp2_with fail
                go_meet
                exact ⟨{ s with lost := s.lost + 1 }, rfl, HRM.out, by show s.last ≤ (k : Int) + 1; omega, by show s.lost + 1 ≤ (k : Int) + 1; omega, HN2.out, HB2.out⟩
              · have hs : s.send l[k].frm l[k].to l[k].txt = ({ s with last := s.last + 1, L := s.L ++ [⟨s.last + 1, l[k].frm, l[k].to, l[k].txt⟩] }, s.last + 1, 0) := by unfold Nt.send; rw [if_neg t1, if_neg t2]
                rw [hs] at hsnd
                have HSN := Lib.hid hsnd
                obtain rfl : fb = false := by have := HRM.out; rw [← Hfb.out, beq_eq_false_iff_ne]; omega
                clear hs hsnd t1 t2
                go_wp2_with fail
                refine HSN.out.mono ?_
                rintro e w2 ⟨rfl, hN2, hK2⟩
                have HB2 := Lib.hid ((HB.out.alloc HB.out.size _).trans (below_not hK2 (by have := HB.out.size; rw [World.size_alloc]; omega) (fun q hq => hq)))
                have HN2 := Lib.hid hN2
                clear hK2 hN2
                go_wp2_with fail
                go_meet
                exact ⟨{ s with last := s.last + 1, L := s.L ++ [⟨s.last + 1, l[k].frm, l[k].to, l[k].txt⟩] }, rfl, HRM.out, by show s.last + 1 ≤ (k : Int) + 1; omega, by show s.lost ≤ (k : Int) + 1; omega, HN2.out, HB2.out⟩
          · clear hr3
            have hpk := fun w => pick_any w l[k].no (s.last + 1) HO5.out.2.2.2.1 (by omega)
            have h1 := Int.emod_nonneg (if l[k].no < 0 then -(l[k].no + 1) else l[k].no) (show s.last + 1 ≠ 0 by omega)
            have h2 := Int.emod_lt_of_pos (if l[k].no < 0 then -(l[k].no + 1) else l[k].no) (show 0 < s.last + 1 by omega)
            generalize (if l[k].no < 0 then -(l[k].no + 1) else l[k].no) % (s.last + 1) = z at hpk h1 h2
            have HPK := Lib.hid hpk
            clear hpk
            go_wp2_with fail
            refine (HPK.out _).mono ?_
            rintro e w2 ⟨rfl, rfl⟩
            go_wp2_with fail
            by_cases hex : ∃ q ∈ s.L, q.no = 1 + z
            · obtain ⟨q, hq, hqn⟩ := hex
              refine (takeP _ _ p s (HN.out.fresh ((Below.refl _ wr).alloc (Nat.le_refl _) _)) q hq (1 + z) (by unfold i64; omega) hqn).mono ?_
              rintro e w2 ⟨rfl, hN2, hK2⟩
              have HB2 := Lib.hid ((HB.out.alloc HB.out.size _).trans (below_not hK2 (by have := HB.out.size; rw [World.size_alloc]; omega) (fun q hq => hq)))
              have HN2 := Lib.hid hN2
              clear hK2 hN2 hqn
              go_wp2_with fail
              go_meet
              exact ⟨s.del (1 + z), rfl, HRM.out, by show s.last ≤ (k : Int) + 1; omega, by show s.lost ≤ (k : Int) + 1; omega, HN2.out, HB2.out⟩
            · refine (takeNoP _ _ p s (HN.out.fresh ((Below.refl _ wr).alloc (Nat.le_refl _) _)) (1 + z) (by unfold i64; omega) (fun q hq e => hex ⟨q, hq, e⟩)).mono ?_
              rintro e w2 ⟨rfl, hN2, hK2⟩
              have HB2 := Lib.hid ((HB.out.alloc HB.out.size _).trans (hK2.mono (by have := HB.out.size; rw [World.size_alloc]; omega)))
              have HN2 := Lib.hid hN2
              clear hK2 hN2 hex
              go_wp2_with fail
              go_meet
              exact ⟨_, rfl, HRM.out, by omega, by omega, HN2.out, HB2.out⟩
        case rest =>
          obtain ⟨s', rfl, hroom', hlast', hlost', hN', hB'⟩ := hcut
          obtain ⟨F, hF, hFX⟩ := hN'
          have HF := Lib.hid hF
          have HFX := Lib.hid hFX
          have HB' := Lib.hid hB'
          have HRM' := Lib.hid hroom'
          clear hF hFX hB' hroom'
          go_wp2_with fail
          refine (all_any _ p s' F HF.out (by omega)).mono ?_
          rintro e w5 ⟨v5, rfl, hB5, hS5⟩
          obtain ⟨A5, c5, rfl, hc5, hc6⟩ := hS5.shape
          unfold maxLen at hc6
          have HS5 := Lib.hid hS5
          have HN5 := Lib.hid (HF.out.fresh hB5)
          have HB5 := Lib.hid (HB'.out.trans (hB5.mono HB'.out.size))
          clear hS5 hB5
          go_wp2_with fail
          have hrise := HF.out.ok.rise
          have hnos := HF.out.ok.nos
          have hll : s'.L.length ≤ 20 := by have := HF.out.ok.len; have := HRM'.out; omega
          have hl0 : 0 ≤ s'.last := HF.out.ok.last0
          have HRI := Lib.hid hrise
          have HNO := Lib.hid hnos
          clear hrise hnos
          obtain ⟨wo, rfl⟩ : ∃ wo : World, wo = wr := ⟨_, rfl⟩
          go_loopw [17] (fun i wx => ∃ m q : Nat, m ≤ s'.L.length ∧ i = .int .i64 m ∧ wx = w5.drewN q) (fun i _ => s'.L.length - (Go.RowKit.intOf i).toNat)
          case atStart => exact ⟨0, 0, Nat.zero_le _, rfl, rfl⟩
          case round =>
            obtain ⟨m, q, hm, rfl, rfl⟩ := hrel
            by_cases hmt : m < s'.L.length
            · obtain ⟨b6, o6, rfl, _, hb6, hx6⟩ := HS5.out.cell_ hmt
              have y0 := hx6 0 _ rfl
              rw [Nat.add_zero] at y0
              clear hx6
              have hno := HNO.out _ (List.getElem_mem hmt)
              obtain ⟨n1, n2⟩ := hno
              have d1 : decide (s'.L[m].no < 1) = false := by simp; omega
              have d2 : decide (s'.last < s'.L[m].no) = false := by simp; omega
              by_cases hm0 : m = 0
              · subst hm0
                rw [Nat.zero_mul, Nat.add_zero] at y0
                go_wp2_with fail
                go_quiet (fail)
                go_wp2_with fail
                go_roundw
                case rel => exact ⟨1, _, by omega, by go_num, by first | rfl | exact World.drewN_drewN _ _ _⟩
                case measure => simp [Go.RowKit.intOf]; omega
              · have hm1 : m - 1 < s'.L.length := by omega
                obtain ⟨b7, o7, he7, _, _, hx7⟩ := HS5.out.cell_ hm1
                injection he7 with he7
                injection he7 with he7 he8
                subst he7 he8
                have y1 := hx7 0 _ rfl
                rw [Nat.add_zero] at y1
                clear hx7
                have hris := List.pairwise_iff_getElem.1 HRI.out (m - 1) m hm1 hmt (by omega)
                have d3 : decide (s'.L[m].no ≤ s'.L[m - 1].no) = false := by simp; omega
                have hmp : 0 < m := by omega
                have hdp : decide (0 < m) = true := by simpa using hmp
                have hjm : IntKind.i64.wrap ((m : Int) - 1) = ((m - 1 : Nat) : Int) := by rw [IntWalk.i64_in _ (by omega)]; omega
                clear hm0
                go_wp2_with fail
                go_quiet (fail)
                go_wp2_with fail
                go_roundw
                case rel => exact ⟨m + 1, _, by omega, by go_num, by first | rfl | exact World.drewN_drewN _ _ _⟩
                case measure => simp [Go.RowKit.intOf]; omega
            · have hmd : m = s'.L.length := by omega
              subst hmd
              have hlen := fun n => lenP (w5.drewN n) (fun q => q < w.heap.size) p s' ⟨F, HN5.out.drewN n, HFX.out⟩
              have HLN := Lib.hid hlen
              have d4 : decide ((1 + (K : Int)) < (s'.L.length : Int)) = false := by have := HF.out.ok.len; have := HRM'.out; simp; omega
              clear hlen
              go_wp2_with fail
              refine (HLN.out q).mono ?_
              rintro e w6 ⟨rfl, rfl⟩
              go_wp2_with fail
              refine (HLN.out q).mono ?_
              rintro e w6 ⟨rfl, rfl⟩
              go_wp2_with fail
              refine (HP.out _).mono ?_
              rintro e w6 ⟨rfl, rfl⟩
              go_wp2_with fail
              go_roundw
              case rel => exact ⟨k + 1, s', by omega, by go_num, rfl, HRM'.out, by omega, by omega, ⟨F, HN5.out.drewN q, HFX.out⟩, HB5.out.trans ⟨rfl, rfl, rfl, Nat.le_refl _, fun _ _ => rfl⟩⟩
              case measure => simp [Go.RowKit.intOf]; omega
      · have hkd : k = l.length := by omega
        subst hkd
        go_wp2_with fail
        go_ret
        exact ⟨rfl, HB.out⟩
end Go.Proofs.Ytnooggfecgidcaa
