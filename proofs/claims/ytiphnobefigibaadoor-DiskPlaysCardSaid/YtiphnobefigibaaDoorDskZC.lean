/- DiskPlays: what the statement's function does: it answers true. -/
import Derived.Test.YtiphnobefigibaaDoorDskZB
namespace Go.Proofs.YtiphnobefigibaaDoor
open Go.RowKit Go.Bl
attribute [local go_sem ↓] Go.wp_at_zero Go.wp_at_succ

theorem does_same {d : Dk} {a : Ac} {ks ks' : List ByteArray} (h : pickOf a.op 8 = 7 → ks = ks') : d.does a ks = d.does a ks' := by
  obtain ⟨r1, r2⟩ := pickOf_range a.op (n := 8) (by decide)
  unfold Dk.does
  by_cases h1 : pickOf a.op 8 ≤ 2
  · rw [if_pos h1, if_pos h1]
  · by_cases h2 : pickOf a.op 8 ≤ 4
    · rw [if_neg h1, if_neg h1, if_pos h2, if_pos h2]
    · by_cases h3 : pickOf a.op 8 = 5
      · rw [if_neg h1, if_neg h1, if_neg h2, if_neg h2, if_pos h3, if_pos h3]
      · by_cases h4 : pickOf a.op 8 = 6
        · rw [if_neg h1, if_neg h1, if_neg h2, if_neg h2, if_neg h3, if_neg h3, if_pos h4, if_pos h4]
        · rw [h (by omega)]
theorem readV_two (o : Option Fl) : ∃ a e, readV o = .tuple #[.string a, .int .i64 e] := by
  cases o with
  | none => exact ⟨_, _, rfl⟩
  | some f => exact ⟨_, _, rfl⟩
/-- The disk, the document's, and the world behind some acts. -/
def PlyRel (w : World) (p m : Nat) (n : Nat) (i : Value) (wr : World) : Prop :=
  ∃ (k : Nat) (d : Dk) (Fp Fm : Nat → Prop), k ≤ n ∧ i = .int .i64 k ∧ DskAt wr p d Fp ∧ MdD wr m d Fm ∧ (∀ q, Fp q → ¬ Fm q) ∧ (∀ q, Fp q → w.heap.size ≤ q) ∧ (∀ q, Fm q → w.heap.size ≤ q) ∧ Below w.heap.size w wr

set_option maxRecDepth 100000 in
set_option maxHeartbeats 4000000 in
theorem plays_any (w : World) (hT : Tabs w) (G : Nat → Prop) (hG : ∀ k, G k → k < w.heap.size) (room : Int) (v : Value) (l : List Ac) (h : Acts w G v l) :
    Calls Tryd.prog 4 #[.int .i64 room, v] w fun e w' => e = .returned (.bool true) ∧ Below w.heap.size w w' := by
  obtain ⟨A, c, rfl, hA1, hA2⟩ := h.1.shape
  unfold maxLen at hA2
  have HT := Lib.hid hT
  have HA := Lib.hid h
  clear hT h
  go_enter Tryd.func4, Tryd.ntmps4
  go_wp2_with fail
  refine (shown_any w HT.out).mono ?_
  rintro e w1 ⟨rfl, hB1⟩
  have HB1 := Lib.hid hB1
  have HA1 := Lib.hid (HA.out.keep (Keeps.of_fresh hB1 (fun k => w.heap.size ≤ k)) (fun k hk _ hx => by omega))
  clear hB1
  go_wp2_with fail
  refine (small_any w1 G _ l HA1.out).mono ?_
  rintro e w2 ⟨rfl, rfl⟩
  clear HA1
  cases hsm : smallB l
  · go_wp2_with fail
    go_ret
    exact ⟨rfl, HB1.out⟩
  have H80 := Lib.hid (smallB_at hsm)
  have hl80 := H80.out.1
  go_wp2_with fail
  by_cases hroom : room < 1 ∨ 1073741824 < room
  · refine (new_bad w1 room hroom).mono ?_
    rintro e w2 ⟨rfl, rfl⟩
    go_wp2_with fail
    refine (mnew_bad w1 room hroom).mono ?_
    rintro e w2 ⟨rfl, rfl⟩
    go_wp2_with fail
    go_ret
    exact ⟨rfl, HB1.out⟩
  · have h1 : 1 ≤ room := by omega
    have h2 : room ≤ 1073741824 := by omega
    refine (newD w1 (fun q => q < w1.heap.size) (fun q hq => hq) room h1 h2).mono ?_
    rintro e w2 ⟨p, rfl, ⟨Fp, hD2, hF2⟩, hB2⟩
    have HD2 := Lib.hid hD2
    have HB2 := Lib.hid (HB1.out.trans (hB2.mono HB1.out.size))
    have HF2 : Hid (∀ q, Fp q → w.heap.size ≤ q ∧ q < w2.heap.size) := Lib.hid (fun q hq => ⟨by have := hF2 q hq; have := HB1.out.size; omega, hD2.lt q hq⟩)
    clear hD2 hB2 hF2
    go_wp2_with fail
    refine (mnew_ok w2 room h1 h2).mono ?_
    rintro e w3 ⟨m, rfl, hM3, hB3⟩
    have HM3 : Hid (MdD w3 m ⟨room, []⟩ (fun k => w2.heap.size ≤ k ∧ k < w3.heap.size)) := Lib.hid ⟨[], hM3, List.Perm.refl _, List.Pairwise.nil⟩
    have HD3 := Lib.hid (HD2.out.fresh hB3)
    have HB3 := Lib.hid (HB2.out.trans (hB3.mono HB2.out.size))
    clear hM3 hB3 h1 h2 hroom
    go_wp2_with fail
    go_loopw [11, 12, 13, 14, 15, 16, 17, 18] (fun i _ _ _ _ _ _ _ wr => PlyRel w p m l.length i wr) (fun i _ _ _ _ _ _ _ _ => l.length - (intOf i).toNat)
    case atStart => exact ⟨0, _, Fp, _, Nat.zero_le _, rfl, HD3.out, HM3.out, fun q hq hx => by have := HF2.out q hq; omega, fun q hq => (HF2.out q hq).1, fun q hq => by have := HB2.out.size; omega, HB3.out⟩
    case round =>
      obtain ⟨k, d, Fp, Fm, hk, rfl, hD, hM, hpm, hpw, hmw, hB⟩ := hrel
      have HD := Lib.hid hD
      have HM := Lib.hid hM
      have HB := Lib.hid hB
      have HPM := Lib.hid hpm
      have HPW := Lib.hid hpw
      have HMW := Lib.hid hmw
      clear hD hM hB hpm hpw hmw HB1 HD2 HB2 HF2 HM3 HD3 HB3
      by_cases hlt : k < l.length
      · obtain ⟨j, hj⟩ : ∃ j : Nat, j + k + 1 = l.length := ⟨l.length - 1 - k, by omega⟩
        have hjl : j < l.length := by omega
        obtain ⟨b, o, rfl, hGb, hbw, hxx⟩ := HA.out.1.cell_ hlt
        obtain ⟨b', o', he, _, _, hyy⟩ := HA.out.1.cell_ hjl
        injection he with he
        injection he with he1 he2 he3
        clear he3
        subst he1 he2
        obtain ⟨hkv, hop, hn1, hm1⟩ := HA.out.2 l[k] (List.getElem_mem hlt)
        obtain ⟨hkv', hop', hn1', hm1'⟩ := HA.out.2 l[j] (List.getElem_mem hjl)
        obtain ⟨t1, t2, t3⟩ := H80.out.2 l[k] (List.getElem_mem hlt)
        obtain ⟨t1', t2', t3'⟩ := H80.out.2 l[j] (List.getElem_mem hjl)
        obtain ⟨B, dd, hkk, hq1, hq2⟩ := hkv.shape
        obtain ⟨B', dd', hkk', hq1', hq2'⟩ := hkv'.shape
        have HXk : Hid (_ ∧ _ ∧ _ ∧ _) := Lib.hid ⟨hxx 0 _ rfl, hxx 1 _ rfl, hxx 2 _ rfl, hxx 3 _ rfl⟩
        have HXj : Hid (_ ∧ _ ∧ _ ∧ _) := Lib.hid ⟨hyy 0 _ rfl, hyy 1 _ rfl, hyy 2 _ rfl, hyy 3 _ rfl⟩
        simp only [Nat.add_zero] at HXk HXj
        have HOKk : Hid (∀ wz, Below w.heap.size w wz → AcOk wz G l[k]) := Lib.hid (fun wz hz => (HA.out.keep (Keeps.of_below hz) (fun q hq hg hx => by have := hG q hg; omega)).2 l[k] (List.getElem_mem hlt))
        have HOKj : Hid (∀ wz, Below w.heap.size w wz → AcOk wz G l[j]) := Lib.hid (fun wz hz => (HA.out.keep (Keeps.of_below hz) (fun q hq hg hx => by have := hG q hg; omega)).2 l[j] (List.getElem_mem hjl))
        clear hxx hyy hkv hkv'
        go_wp2_with fail
        refine (clone_any wr p d Fp HD.out).mono ?_
        rintro e w4 ⟨rfl, hB4, L', hL', hC4⟩
        have HC4 : Hid (Dsk (fun q => q < wr.heap.size) w4 (wr.heap.size + 1) ⟨d.room, L'⟩) := Lib.hid ⟨_, hC4, fun q hq hx => by omega⟩
        have HB4r := Lib.hid hB4
        have HB4 := Lib.hid (HB.out.trans (hB4.mono HB.out.size))
        clear hB4 hC4 hL'
        have hz4 := HB4.out
        have x0 := (hz4.cell (p := ⟨b, o + j * 4, none⟩) hbw).trans HXj.out.1
        have x1 := (hz4.cell (p := ⟨b, o + j * 4 + 1, none⟩) hbw).trans HXj.out.2.1
        have x2 := (hz4.cell (p := ⟨b, o + j * 4 + 2, none⟩) hbw).trans HXj.out.2.2.1
        have x3 := (hz4.cell (p := ⟨b, o + j * 4 + 3, none⟩) hbw).trans HXj.out.2.2.2
        rw [hkk'] at x3
        have hc := does_any w4 (fun q => q < wr.heap.size) (fun q hq => Nat.lt_of_lt_of_le hq HB4r.out.size) (HT.out.below HB4.out HT.out.lt) _ _ HC4.out l[j] ⟨(HOKj.out w4 HB4.out).1.mono (fun q _ hq => Nat.lt_of_lt_of_le (hG q hq) HB.out.size), (HOKj.out w4 HB4.out).2⟩ ⟨t1', t2'⟩
        rw [hkk'] at hc
        have HC := Lib.hid hc
        have hji : (l.length : Int) - 1 - (k : Int) = (j : Int) := by omega
        clear hc hz4
        go_wp2_with fail
        refine HC.out.mono ?_
        rintro e w5 ⟨r5, d5, ks5, rfl, -, -, -, hK5⟩
        clear x0 x1 x2 x3 hji HC
        have hB5 : Below wr.heap.size wr w5 := Below.keep HB4r.out hK5 HB4r.out.size (fun q hq => Nat.le_of_not_lt hq)
        have HB5 := Lib.hid (HB.out.trans (hB5.mono HB.out.size))
        have HD5 := Lib.hid (HD.out.fresh hB5)
        have HM5 := Lib.hid (HM.out.fresh hB5)
        have hok := HD.out.ok
        have HOK := Lib.hid hok
        clear hK5 hB5 hok
        have hz5 := HB5.out
        have x0 := (hz5.cell (p := ⟨b, o + k * 4, none⟩) hbw).trans HXk.out.1
        have x1 := (hz5.cell (p := ⟨b, o + k * 4 + 1, none⟩) hbw).trans HXk.out.2.1
        have x2 := (hz5.cell (p := ⟨b, o + k * 4 + 2, none⟩) hbw).trans HXk.out.2.2.1
        have x3 := (hz5.cell (p := ⟨b, o + k * 4 + 3, none⟩) hbw).trans HXk.out.2.2.2
        rw [hkk] at x3
        have hGX : ∀ q, G q → q < w5.heap.size ∧ ¬ Fp q := fun q hq => ⟨Nat.lt_of_lt_of_le (hG q hq) HB5.out.size, fun hp => by have := hG q hq; have := HPW.out q hp; omega⟩
        have hc := does_any w5 (fun q => q < w5.heap.size ∧ ¬ Fp q) (fun q hq => hq.1) (HT.out.below HB5.out HT.out.lt) p d ⟨Fp, HD5.out, fun q hq hx => hx.2 hq⟩ l[k] ⟨(HOKk.out w5 HB5.out).1.mono (fun q _ hq => hGX q hq), (HOKk.out w5 HB5.out).2⟩ ⟨t1, t2⟩
        rw [hkk] at hc
        have HC := Lib.hid hc
        clear hc hz5 hGX
        go_wp2_with fail
        refine HC.out.mono ?_
        rintro e w6 ⟨r6, d6, ks6, rfl, hdo6, hN6, ⟨Fp6, hD6, hF6⟩, hK6⟩
        clear x0 x1 x2 x3 HC
        have hXw : ∀ q, q < w.heap.size → q < w5.heap.size ∧ ¬ Fp q := fun q hq => ⟨Nat.lt_of_lt_of_le hq HB5.out.size, fun hp => by have := HPW.out q hp; omega⟩
        have HB6 := Lib.hid (Below.keep HB5.out hK6 HB5.out.size (fun q hq => Nat.le_of_not_lt fun hlt => hq (hXw q hlt)))
        have HM6 := Lib.hid (HM5.out.keep hK6 (fun q hm hx => hx ⟨HM5.out.lt q hm, fun hp => HPM.out q hp hm⟩))
        have HPM6 : Hid (∀ q, Fp6 q → ¬ Fm q) := Lib.hid (fun q hp hm => hF6 q hp ⟨HM5.out.lt q hm, fun hp' => HPM.out q hp' hm⟩)
        have HPW6 : Hid (∀ q, Fp6 q → w.heap.size ≤ q) := Lib.hid (fun q hp => Nat.le_of_not_lt fun hlt => hF6 q hp (hXw q hlt))
        have HD6 := Lib.hid hD6
        have HDO6 := Lib.hid hdo6
        have HN6 := Lib.hid hN6
        clear hXw hdo6 hN6 hD6 hF6 hK6
        have hz6 := HB6.out
        have x0 := (hz6.cell (p := ⟨b, o + k * 4, none⟩) hbw).trans HXk.out.1
        have x1 := (hz6.cell (p := ⟨b, o + k * 4 + 1, none⟩) hbw).trans HXk.out.2.1
        have x2 := (hz6.cell (p := ⟨b, o + k * 4 + 2, none⟩) hbw).trans HXk.out.2.2.1
        have x3 := (hz6.cell (p := ⟨b, o + k * 4 + 3, none⟩) hbw).trans HXk.out.2.2.2
        rw [hkk] at x3
        have hc := model_any w6 Fm G m d HM6.out HOK.out l[k] (HOKk.out w6 HB6.out) (fun q hg hf => by have := hG q hg; have := HMW.out q hf; omega) ⟨t1, t2⟩
        rw [hkk] at hc
        have HC := Lib.hid hc
        clear hc hz6
        go_wp2_with fail
        refine HC.out.mono ?_
        rintro e w7 ⟨r7, d7, ks7, rfl, hdo7, hN7, hK7, hM7⟩
        clear x0 x1 x2 x3 HC
        have he : (r6, d6) = (r7, d7) := HDO6.out.trans ((does_same fun h7 => Names.uniq (HN6.out h7) (hN7 h7)).trans hdo7.symm)
        obtain ⟨e1, e2⟩ := Prod.mk.inj he
        subst e1 e2
        have HB7 := Lib.hid (Below.keep HB6.out hK7 HB6.out.size HMW.out)
        have HD7 := Lib.hid (HD6.out.keep hK7 HPM6.out)
        have HM7 := Lib.hid hM7
        have HL6 : Hid (∀ q, Fp6 q → q < w6.heap.size) := Lib.hid HD6.out.lt
        clear he hdo7 hN7 hK7 hM7
        have hz7 := HB7.out
        have x0 := (hz7.cell (p := ⟨b, o + k * 4, none⟩) hbw).trans HXk.out.1
        have x1 := (hz7.cell (p := ⟨b, o + k * 4 + 1, none⟩) hbw).trans HXk.out.2.1
        have x2 := (hz7.cell (p := ⟨b, o + k * 4 + 2, none⟩) hbw).trans HXk.out.2.2.1
        have x3 := (hz7.cell (p := ⟨b, o + k * 4 + 3, none⟩) hbw).trans HXk.out.2.2.2
        obtain ⟨ra, rf, hrv⟩ := readV_two (d6.find l[k].more)
        obtain ⟨S, hS7, hs7⟩ := HM7.out
        have hl40 := HD7.out.ok.len
        have hlS : S.length ≤ 40 := by rw [hs7.perm.length_eq]; exact hl40
        have q1 := read_any w7 p d6 Fp6 HD7.out l[k].more (by unfold maxLen; omega)
        have q2 := mread_any w7 m d6.room S _ hS7 (by omega) l[k].more
        rw [← hs7.find] at q2
        rw [hrv] at q1 q2
        have Q1 := Lib.hid q1
        have Q2 := Lib.hid q2
        clear q1 q2 hrv hz7 x0 x1 x3 hS7 hs7 hl40 hlS
        go_wp2_with fail
        refine Q1.out.mono ?_
        rintro e w8 ⟨rfl, rfl⟩
        go_wp2_with fail
        refine Q2.out.mono ?_
        rintro e w8 ⟨rfl, hB8⟩
        have HB8 := Lib.hid hB8
        clear hB8 x2 Q1 Q2
        go_wp2_with fail
        refine (alike_any w8 (fun _ => False) _ p m d6 ⟨Fp6, HD7.out.fresh HB8.out, fun _ _ h => h⟩ (HM7.out.fresh HB8.out)).mono ?_
        rintro e w9 ⟨rfl, hB9⟩
        have hB9 := HB8.out.trans (hB9.mono HB8.out.size)
        have HB9 := Lib.hid hB9
        clear hB9
        go_wp2_with fail
        go_roundw
        case rel =>
          refine ⟨k + 1, d6, Fp6, _, hlt, by go_num, HD7.out.fresh HB9.out, HM7.out.fresh HB9.out, fun q hp hm => hm.elim (HPM6.out q hp) (fun hm => by have := HL6.out q hp; omega), HPW6.out, fun q hm => hm.elim (HMW.out q) (fun hm => by have := HB6.out.size; omega), HB7.out.trans (HB9.out.mono HB7.out.size)⟩
        case measure => simp [intOf]; omega
      · have hkd : k = l.length := by omega
        subst hkd
        go_wp2_with fail
        go_ret
        exact ⟨rfl, HB.out⟩
end Go.Proofs.YtiphnobefigibaaDoor
