/- DedupApart: what the statement's function does: it answers true. -/
import Derived.Test.YtdmpedcdnfjapaaDedJ
namespace Go.Proofs.Ytdmpedcdnfjapaa
open Go.RowKit Go.Bl
attribute [local go_sem ↓] Go.wp_at_zero Go.wp_at_succ

def ApartRel (w : World) (p q n : Nat) (s : Int) (i : Value) (wr : World) : Prop :=
  ∃ (k : Nat) (L M : List En), k ≤ n ∧ L.length ≤ k ∧ M.length ≤ k ∧ i = .int .i64 k ∧ Like s L M ∧ (∀ e ∈ M, e.ses = s) ∧ Two (fun z => z < w.heap.size) wr p L q M ∧ Below w.heap.size w wr

set_option maxRecDepth 4000 in
set_option maxHeartbeats 4000000 in
theorem apart_any (w : World) (G : Nat → Prop) (v : Value) (l : List Ac) (s : Int) (h : Sl w G 6 acc v l) (hok : ∀ a ∈ l, AcOk a) (hs : i64 s) :
    Calls Try.prog 5 #[v, .int .i64 s] w fun e w' => e = .returned (.bool true) ∧ Below w.heap.size w w' := by
  obtain ⟨A, c, rfl, hA1, hA2⟩ := h.shape
  unfold maxLen at hA2
  have HA := Lib.hid h
  have HO := Lib.hid hok
  clear h hok
  go_enter Try.func5, Try.ntmps5
  go_wp2_with fail
  refine (shown_any w).mono ?_
  rintro e w0 ⟨rfl, hB0⟩
  have HB0 := Lib.hid hB0
  clear hB0
  go_wp2_with fail
  refine (newT w0 (fun k => k < w.heap.size) (fun k hk => Nat.lt_of_lt_of_le hk HB0.out.size)).mono ?_
  rintro e w1 ⟨q, rfl, hN1, hB1⟩
  have HN1 := Lib.hid hN1
  have HB1 := Lib.hid (HB0.out.trans (hB1.mono HB0.out.size))
  clear hN1 hB1 HB0
  go_wp2_with fail
  refine (newTwo w1 (fun k => k < w.heap.size) (fun k hk => Nat.lt_of_lt_of_le hk HB1.out.size) q [] HN1.out).mono ?_
  rintro e w2 ⟨p, rfl, hN2, hB2⟩
  have HN2 := Lib.hid hN2.swap
  have HB2 := Lib.hid (HB1.out.trans (hB2.mono HB1.out.size))
  clear hN2 hB2 HB1 HN1
  by_cases h80 : l.length ≤ 80
  · have d80 : decide ((80 : Int) < (l.length : Int)) = false := by simp; omega
    go_wp2_with fail
    go_loopw [8] (fun i wr => ApartRel w q p l.length s i wr) (fun i _ => l.length - (Go.RowKit.intOf i).toNat)
    case atStart => exact ⟨0, [], [], Nat.zero_le _, Nat.le_refl _, Nat.le_refl _, rfl, ⟨rfl, fun _ => rfl⟩, by simp, HN2.out, HB2.out⟩
    case round =>
      obtain ⟨k, L, M, hk, hL, hM, rfl, hlike, hmine, hT, hB⟩ := hrel
      have HT := Lib.hid hT
      have HB := Lib.hid hB
      have HLI := Lib.hid hlike
      have HMI := Lib.hid hmine
      clear hT hB hlike hmine
      by_cases hlt : k < l.length
      · obtain ⟨b, o, rfl, hGb, hbl, hx⟩ := HA.out.cell_ hlt
        have c0 := (HB.out.cell (p := ⟨b, _, none⟩) hbl).trans (hx 0 _ rfl)
        have c1 := (HB.out.cell (p := ⟨b, _, none⟩) hbl).trans (hx 1 _ rfl)
        have c2 := (HB.out.cell (p := ⟨b, _, none⟩) hbl).trans (hx 2 _ rfl)
        have c3 := (HB.out.cell (p := ⟨b, _, none⟩) hbl).trans (hx 3 _ rfl)
        have c4 := (HB.out.cell (p := ⟨b, _, none⟩) hbl).trans (hx 4 _ rfl)
        have c5 := (HB.out.cell (p := ⟨b, _, none⟩) hbl).trans (hx 5 _ rfl)
        simp only [Nat.add_zero] at c0
        obtain ⟨o1, o2⟩ := HO.out l[k] (List.getElem_mem hlt)
        clear hx
        have hXlt : ∀ z, z < w.heap.size → z < wr.drew.heap.size := fun z hz => Nat.lt_of_lt_of_le hz HB.out.size
        have hput := putTwo wr.drew (fun z => z < w.heap.size) hXlt q p L M (HT.out.fresh ⟨rfl, rfl, rfl, Nat.le_refl _, fun _ _ => rfl⟩) l[k].ses l[k].seq o1 o2 l[k].o (by omega)
        obtain ⟨cc, hcc⟩ : ∃ cc, (putL L l[k].ses l[k].seq l[k].o).2 = cc := ⟨_, rfl⟩
        rw [hcc] at hput
        have HCC := Lib.hid hcc
        have HP := Lib.hid hput
        clear hput hcc hXlt
        go_wp2_with fail
        go_still_tail 16, (by kernel_rfl)
        change wpList _ _ _ _ _ wr.drew
        go_wp2_with fail
        refine HP.out.mono ?_
        rintro e w4 ⟨rfl, hT4, hK4⟩
        have hK4' : Keeps (fun z => ¬ z < w.heap.size) wr w4 := ⟨hK4.os, hK4.tape, hK4.output, hK4.size, hK4.block⟩
        have HT4 := Lib.hid hT4
        have HB4 := Lib.hid (HB.out.trans (below_not hK4' HB.out.size (fun z hz => hz)))
        have hK44 : ∀ (j : Nat) (u : Value), wr.cell? ⟨b, j, none⟩ = some u → w4.cell? ⟨b, j, none⟩ = some u := fun j u hu => (hK4'.cell (a := ⟨b, j, none⟩) (Nat.lt_of_lt_of_le hbl HB.out.size) (fun h => h hbl)).trans hu
        have e0 := hK44 _ _ c0
        have e1 := hK44 _ _ c1
        have e2 := hK44 _ _ c2
        have e3 := hK44 _ _ c3
        have e4 := hK44 _ _ c4
        have e5 := hK44 _ _ c5
        clear hT4 hK4 hK4' hK44 c0 c1 c2 c3 c4 c5
        by_cases hse : l[k].ses = s
        · have hq : (l[k].ses == s) = true := by simp [hse]
          have hXlt : ∀ z, z < w.heap.size → z < w4.drew.heap.size := fun z hz => Nat.lt_of_lt_of_le hz HB4.out.size
          have hput := putTwo w4.drew (fun z => z < w.heap.size) hXlt p q M (putL L l[k].ses l[k].seq l[k].o).1 (HT4.out.swap.fresh ⟨rfl, rfl, rfl, Nat.le_refl _, fun _ _ => rfl⟩) s l[k].seq hs o2 l[k].o (by omega)
          have hcode := ((HLI.out.put l[k].seq l[k].o).1).symm
          rw [hcode, show (putL L s l[k].seq l[k].o).2 = cc by rw [← HCC.out, hse]] at hput
          have HP5 := Lib.hid hput
          have HSE := Lib.hid hse
          clear hput hcode hXlt hse
          go_wp2_with fail
          go_region_held3 (fun x => x.cell? ⟨b, o + k * 6, none⟩ = some (.int .i64 l[k].ses) ∧ x.cell? ⟨b, o + k * 6 + 1, none⟩ = some (.int .i64 l[k].seq) ∧ x.cell? ⟨b, o + k * 6 + 2, none⟩ = some (.int .i64 l[k].o.code) ∧
              x.cell? ⟨b, o + k * 6 + 3, none⟩ = some (.int .i64 l[k].o.pos) ∧ x.cell? ⟨b, o + k * 6 + 4, none⟩ = some (.int .i64 l[k].o.first) ∧ x.cell? ⟨b, o + k * 6 + 5, none⟩ = some (.int .i64 l[k].o.ver))
            (first | exact ⟨by assumption, by assumption, by assumption, by assumption, by assumption, by assumption⟩ | go_keep)
            (first
              | (go_at_call 11
                 refine HP5.out.mono ?_
                 rintro e w6 ⟨rfl, hT6, hK6⟩
                 have HT6 := Lib.hid hT6.swap
                 have hK6' : Keeps (fun z => ¬ z < w.heap.size) w4 w6 := ⟨hK6.os, hK6.tape, hK6.output, hK6.size, hK6.block⟩
                 have HB6 := Lib.hid (HB4.out.trans (below_not hK6' HB4.out.size (fun z hz => hz)))
                 have hK66 : ∀ (j : Nat) (u : Value), w4.cell? ⟨b, j, none⟩ = some u → w6.cell? ⟨b, j, none⟩ = some u := fun j u hu => (hK6'.cell (a := ⟨b, j, none⟩) (Nat.lt_of_lt_of_le hbl HB4.out.size) (fun h => h hbl)).trans hu
                 have g0 := hK66 _ _ e0
                 have g1 := hK66 _ _ e1
                 have g2 := hK66 _ _ e2
                 have g3 := hK66 _ _ e3
                 have g4 := hK66 _ _ e4
                 have g5 := hK66 _ _ e5
                 clear hT6 hK6 hK6' hK66))
          go_wp2_with fail
          go_roundw
          case rel => exact ⟨k + 1, _, _, hlt, Nat.le_trans (putL_len _ _ _ _) (by omega), Nat.le_trans (putL_len _ _ _ _) (by omega), by go_num, by have := (HLI.out.put l[k].seq l[k].o).2; rw [HSE.out]; exact this, putL_mem HMI.out rfl, HT6.out, HB6.out⟩
          case measure => simp [Go.RowKit.intOf]; omega
        · have hq : (l[k].ses == s) = false := by simp [hse]
          have HSE := Lib.hid hse
          clear hse
          go_wp2_with fail
          go_quiet (fail)
          go_wp2_with fail
          go_roundw
          case rel => exact ⟨k + 1, _, M, hlt, Nat.le_trans (putL_len _ _ _ _) (by omega), by omega, by go_num, like_other HLI.out HSE.out _ _, HMI.out, HT4.out.fresh ⟨rfl, rfl, rfl, Nat.le_refl _, fun _ _ => rfl⟩, HB4.out.trans ⟨rfl, rfl, rfl, Nat.le_refl _, fun _ _ => rfl⟩⟩
          case measure => simp [Go.RowKit.intOf]; omega
      · have hkd : k = l.length := by omega
        subst hkd
        obtain ⟨wo, hwo⟩ : ∃ wo, wo = wr := ⟨_, rfl⟩
        subst hwo
        clear hlt
        go_wp2_with fail
        go_loopw [10] (fun i wr => ∃ k : Nat, k ≤ l.length ∧ i = .int .i64 k ∧ Below wo.heap.size wo wr) (fun i _ => l.length - (Go.RowKit.intOf i).toNat)
        case atStart => exact ⟨0, Nat.zero_le _, rfl, Below.refl _ _⟩
        case round =>
          obtain ⟨k, hk, rfl, hB'⟩ := hrel
          have HT' := Lib.hid (HT.out.fresh hB')
          have HBo := Lib.hid hB'
          have hBw := HB.out.trans (hB'.mono HB.out.size)
          clear hB' HB
          have HB := Lib.hid hBw
          clear hBw
          by_cases hlt : k < l.length
          · obtain ⟨b, o, rfl, hGb, hbl, hx⟩ := HA.out.cell_ hlt
            have c1 := (HB.out.cell (p := ⟨b, _, none⟩) hbl).trans (hx 1 _ rfl)
            obtain ⟨o1, o2⟩ := HO.out l[k] (List.getElem_mem hlt)
            clear hx
            have hne := neqOc_self
            have h1 := lookT wr _ q L HT'.out.fst s l[k].seq hs o2
            have h2 := fun wy hT => lookT wy (fun z => z < w.heap.size) p M hT s l[k].seq hs o2
            rw [← HLI.out.look l[k].seq] at h2
            obtain ⟨r, hr⟩ : ∃ r, lookL L s l[k].seq = r := ⟨_, rfl⟩
            rw [hr] at h1 h2
            obtain ⟨⟨ra, rb, rc, rd⟩, rs⟩ := r
            dsimp only at h1 h2
            have H1 := Lib.hid h1
            have H2 := Lib.hid h2
            clear h1 h2 hr
            go_wp2_with fail
            refine H1.out.mono ?_
            rintro e w4 ⟨rfl, _, hB4⟩
            have hB4' : Below wr.heap.size wr _ := hB4.alloc hB4.size (.cells #[.int .i64 ra, .int .i64 rb, .int .i64 rc, .int .i64 rd] 27)
            have HT4 := Lib.hid (HT'.out.fresh hB4').snd
            have HB4 := Lib.hid hB4'
            have d1 := (hB4'.cell (p := ⟨b, _, none⟩) (Nat.lt_of_lt_of_le hbl HB.out.size)).trans c1
            have hn := heap_alloc_new w4 (.cells #[.int .i64 ra, .int .i64 rb, .int .i64 rc, .int .i64 rd] 27)
            have HN := Lib.hid hn
            clear hB4' hB4 hn
            go_wp2_with fail
            refine (H2.out _ HT4.out).mono ?_
            rintro e w5 ⟨rfl, _, hB5⟩
            have hblk := (Keeps.of_fresh hB5 (fun _ => False)).grownTo HN.out id
            have a0 : w5.cell? ⟨w4.heap.size, 0, none⟩ = some (.int .i64 ra) := cell_of_row _ _ 0 _ _ _ hblk
            have a1 : w5.cell? ⟨w4.heap.size, 1, none⟩ = some (.int .i64 rb) := cell_of_row _ _ 1 _ _ _ hblk
            have a2 : w5.cell? ⟨w4.heap.size, 2, none⟩ = some (.int .i64 rc) := cell_of_row _ _ 2 _ _ _ hblk
            have a3 : w5.cell? ⟨w4.heap.size, 3, none⟩ = some (.int .i64 rd) := cell_of_row _ _ 3 _ _ _ hblk
            have HB5 := Lib.hid (HB4.out.trans (hB5.mono HB4.out.size))
            have hlt4 : w4.heap.size < w5.heap.size := by have := hB5.size; simp at this; omega
            clear hB5 hblk
            go_wp2_with fail
            go_roundw
            case rel => exact ⟨k + 1, hlt, by go_num, HBo.out.trans ((HB5.out.alloc HB5.out.size _).mono HBo.out.size)⟩
            case measure => simp [Go.RowKit.intOf]; omega
          · have hkd : k = l.length := by omega
            subst hkd
            have hM1 : (M.length) ≤ 80 := by omega
            go_wp2_with fail
            refine (seqsT wr _ q L HT'.out.fst (by omega) s hs).mono ?_
            rintro e w4 ⟨v4, ks, rfl, hr4, hm4, hl4, hS4, _, hB4⟩
            have HT4 := Lib.hid (HT'.out.fresh hB4)
            have HS4 := Lib.hid hS4
            have HB4 := Lib.hid (HB.out.trans (hB4.mono HB.out.size))
            obtain ⟨a4, c4, rfl, hc4, hd4⟩ := hS4.shape
            clear hS4 hB4
            go_wp2_with fail
            refine (seqsT w4 _ p M HT4.out.snd (by omega) s hs).mono ?_
            rintro e w5 ⟨v5, ks', rfl, hr5, hm5, hl5, hS5, _, hB5⟩
            have HT5 := Lib.hid (HT4.out.fresh hB5)
            have HS5 := Lib.hid hS5
            have HB5 := Lib.hid (HB4.out.trans (hB5.mono HB4.out.size))
            have hS45 := HS4.out.fresh hB5
            obtain ⟨a5, c5, rfl, hc5, hd5⟩ := hS5.shape
            clear hS5 hB5
            have hkk : ks = ks' := rising_one hr4 hr5 (fun z => by rw [hm4, hm5, HLI.out.look])
            subst hkk
            have hsm := sameInts_any w5 _ _ _ _ ks ks hS45 HS5.out
            rw [decide_eq_true rfl] at hsm
            have HSM := Lib.hid hsm
            clear hsm hS45 hm4 hm5 hr4 hr5
            go_wp2_with fail
            refine HSM.out.mono ?_
            rintro e w6 ⟨rfl, nq, rfl⟩
            go_wp2_with fail
            refine (sessT _ _ p M (HT5.out.snd.fresh (w' := w5.drewN nq) ⟨rfl, rfl, rfl, Nat.le_refl _, fun _ _ => rfl⟩) (by omega)).mono ?_
            rintro e w7 ⟨v7, js, rfl, hr7, hm7, _, hS7, _, hB7⟩
            obtain ⟨a7, c7, rfl, hc7, hd7⟩ := hS7.shape
            have hj : js.length ≤ 1 := by
              match js, hr7, hm7 with
              | [], _, _ => simp
              | [_], _, _ => simp
              | x :: y :: _, hr7, hm7 =>
                obtain ⟨e1, m1, q1⟩ := (hm7 x).1 (by simp)
                obtain ⟨e2, m2, q2⟩ := (hm7 y).1 (by simp)
                have := HMI.out e1 m1
                have := HMI.out e2 m2
                have := List.rel_of_pairwise_cons hr7 (List.mem_cons_self (a := y))
                omega
            have dj : decide ((js.length : Int) ≤ 1) = true := by simp; omega
            have HB7 := Lib.hid (HB5.out.trans (((show Below w5.heap.size w5 (w5.drewN nq) from ⟨rfl, rfl, rfl, Nat.le_refl _, fun _ _ => rfl⟩).trans hB7).mono HB5.out.size))
            clear hS7 hB7 hr7 hm7
            go_wp2_with fail
            go_ret
            exact ⟨rfl, HB7.out⟩
  · have d80 : decide ((80 : Int) < (l.length : Int)) = true := by simp; omega
    go_wp2_with fail
    go_ret
    exact ⟨rfl, HB2.out⟩
end Go.Proofs.Ytdmpedcdnfjapaa
