/- DedupTells: what the statement's function does: it answers true. -/
import Derived.Test.YtdmpedcdnfjapaaDedJ
import Derived.Test.YtdmpedcdnfjapaaBlQ
namespace Go.Proofs.Ytdmpedcdnfjapaa
open Go.RowKit Go.Bl
attribute [local go_sem ↓] Go.wp_at_zero Go.wp_at_succ

theorem high_fold (x : Int) : ∀ (L : List En) (a : Int), (∀ e ∈ L, e.ses = x → e.seq ≤ L.foldl (fun h e => if e.ses = x then max h e.seq else h) a) ∧ a ≤ L.foldl (fun h e => if e.ses = x then max h e.seq else h) a ∧
    (L.foldl (fun h e => if e.ses = x then max h e.seq else h) a = a ∨ ∃ e ∈ L, e.ses = x ∧ e.seq = L.foldl (fun h e => if e.ses = x then max h e.seq else h) a)
  | [], a => ⟨by simp, Int.le_refl _, .inl rfl⟩
  | e :: L, a => by
    obtain ⟨h1, h2, h3⟩ := high_fold x L (if e.ses = x then max a e.seq else a)
    simp only [List.foldl_cons]
    have hge : a ≤ (if e.ses = x then max a e.seq else a) := by split <;> omega
    refine ⟨fun d hd hx => ?_, Int.le_trans hge h2, ?_⟩
    · rcases List.mem_cons.1 hd with rfl | hd
      · rw [if_pos hx] at h2 ⊢
        omega
      · exact h1 d hd hx
    · rcases h3 with h3 | ⟨d, hd, hx, hq⟩
      · rw [h3]
        by_cases hx : e.ses = x
        · rw [if_pos hx]
          by_cases hm : e.seq ≤ a
          · exact .inl (by omega)
          · exact .inr ⟨e, List.mem_cons_self, hx, by omega⟩
        · rw [if_neg hx]; exact .inl rfl
      · exact .inr ⟨d, List.mem_cons_of_mem _ hd, hx, hq⟩
theorem findL_hit {L : List En} {e : En} (he : e ∈ L) : ∃ o, findL L e.ses e.seq = some o := by
  unfold findL
  cases h : L.find? fun d => decide (d.ses = e.ses) && decide (d.seq = e.seq) with
  | some d => exact ⟨d.o, rfl⟩
  | none => exact absurd (List.find?_eq_none.1 h e he) (by simp)
theorem findL_from {L : List En} {x y : Int} {o : Oc} (h : findL L x y = some o) : ∃ e ∈ L, e.ses = x ∧ e.seq = y := by
  obtain ⟨e, he, _⟩ := Option.map_eq_some_iff.1 h
  have hp := List.find?_some he
  simp only [Bool.and_eq_true, decide_eq_true_eq] at hp
  exact ⟨e, List.mem_of_find?_eq_some he, hp⟩
theorem rising_gap {js : List Int} (hr : js.Pairwise (· < ·)) : ∀ (d i : Nat) (h : i + d < js.length), js[i]'(by omega) + d ≤ js[i + d]
  | 0, _, _ => by simp
  | d + 1, i, h => by
    have h1 := rising_gap hr d i (by omega)
    have h2 := List.pairwise_iff_getElem.1 hr (i + d) (i + (d + 1)) (by omega) h (by omega)
    omega
/-- What a session's numbers are like. -/
theorem seqs_like {L : List En} (hok : OkL L) {x : Int} (hx : ∃ e ∈ L, e.ses = x) {js : List Int} (hr : js.Pairwise (· < ·)) (hm : ∀ y, y ∈ js ↔ (lookL L x y).2 = 1) :
    ∃ (h : 0 < js.length) (h1 : js.length - 1 < js.length), 1 ≤ x ∧ (1 : Int) ≤ js[0]'h ∧ js.length ≤ 8 ∧ js[js.length - 1]'h1 - js[0]'h < 8 ∧ js[js.length - 1]'h1 ≤ 9223372036854775807 ∧ (∀ y ∈ js, 1 ≤ y ∧ y ≤ 9223372036854775807) ∧ (lookL L x (js[js.length - 1]'h1 - 8)).2 = 2 ∧ ∀ y ∈ js, ∀ o, putL L x y o = (L, 7) := by
  obtain ⟨f1, _, f3⟩ := high_fold x L 0
  have hin : ∀ y ∈ js, 1 ≤ y ∧ highL L x - 8 < y ∧ y ≤ highL L x := fun y hy => by
    obtain ⟨h1, o, h2⟩ := (known_iff hok).1 ((hm y).1 hy)
    obtain ⟨e, he, rfl, rfl⟩ := findL_from h2
    exact ⟨(hok.seq e he).1, h1, f1 e he rfl⟩
  have hhi : highL L x ∈ js := by
    obtain ⟨e0, he0, hs0⟩ := hx
    have hge : 1 ≤ highL L x := Int.le_trans (hok.seq e0 he0).1 (f1 e0 he0 hs0)
    rcases f3 with f3 | ⟨e, he, hs, hq⟩
    · have : highL L x = 0 := f3
      omega
    · have hq : e.seq = highL L x := hq
      rw [hm, known_iff hok]
      obtain ⟨o, ho⟩ := findL_hit he
      rw [hs, hq] at ho
      exact ⟨by omega, o, ho⟩
  have hpos : 0 < js.length := List.length_pos_of_mem hhi
  have hlast : js[js.length - 1] = highL L x := by
    obtain ⟨i, hi, e⟩ := List.mem_iff_getElem.1 hhi
    by_cases hil : i = js.length - 1
    · subst hil; exact e
    · have h1 := List.pairwise_iff_getElem.1 hr i (js.length - 1) hi (by omega) (by omega)
      have h2 := (hin _ (List.getElem_mem (show js.length - 1 < js.length by omega))).2.2
      omega
  have h0 := hin _ (List.getElem_mem hpos)
  have hg := rising_gap hr (js.length - 1) 0 (by omega)
  simp only [Nat.zero_add] at hg
  have hx1 : 1 ≤ x := by
    obtain ⟨e0, he0, hs0⟩ := hx
    have := (hok.ses e0 he0).1
    omega
  have hh := highL_in hok x
  refine ⟨hpos, by omega, hx1, h0.1, by omega, by omega, by omega, fun y hy => ⟨(hin y hy).1, by have := (hin y hy).2.2; omega⟩, by rw [hlast, lookL_old (.inr (Int.le_refl _))], fun y hy o => ?_⟩
  unfold putL
  rw [if_neg (by have := (hin y hy).1; omega), if_pos ((hm y).1 hy)]

def TellsRel (w : World) (p n : Nat) (i : Value) (wr : World) : Prop :=
  ∃ (k : Nat) (L : List En), k ≤ n ∧ L.length ≤ k ∧ i = .int .i64 k ∧ Tab (fun z => z < w.heap.size) wr p L ∧ Below w.heap.size w wr
def XTwo (X : Nat → Prop) (w1 w2 : World) (z : Nat) : Prop := X z ∨ (w1.heap.size ≤ z ∧ z < w2.heap.size)
def KeptRel (X : Nat → Prop) (w2 : World) (p : Nat) (L : List En) (n : Nat) (i : Value) (wr : World) : Prop :=
  ∃ m : Nat, m ≤ n ∧ i = .int .i64 m ∧ Tab X wr p L ∧ Keeps (fun z => ¬ X z) w2 wr

set_option maxRecDepth 4000 in
set_option maxHeartbeats 4000000 in
theorem tells_any (w : World) (G : Nat → Prop) (v : Value) (l : List Ac) (h : Sl w G 6 acc v l) (hok : ∀ a ∈ l, AcOk a) :
    Calls Try.prog 6 #[v] w fun e w' => e = .returned (.bool true) ∧ Below w.heap.size w w' := by
  obtain ⟨A, c, rfl, hA1, hA2⟩ := h.shape
  unfold maxLen at hA2
  have HA := Lib.hid h
  have HO := Lib.hid hok
  clear h hok
  go_enter Try.func6, Try.ntmps6
  go_wp2_with fail
  refine (shown_any w).mono ?_
  rintro e w0 ⟨rfl, hB0⟩
  have HB0 := Lib.hid hB0
  clear hB0
  go_wp2_with fail
  refine (newT w0 (fun k => k < w.heap.size) (fun k hk => Nat.lt_of_lt_of_le hk HB0.out.size)).mono ?_
  rintro e w1 ⟨p, rfl, hN1, hB1⟩
  have HN1 := Lib.hid hN1
  have HB1 := Lib.hid (HB0.out.trans (hB1.mono HB0.out.size))
  clear hN1 hB1 HB0
  by_cases h80 : l.length ≤ 80
  · have d80 : decide ((80 : Int) < (l.length : Int)) = false := by simp; omega
    go_wp2_with fail
    go_loopw [5] (fun i wr => TellsRel w p l.length i wr) (fun i _ => l.length - (Go.RowKit.intOf i).toNat)
    case atStart => exact ⟨0, [], Nat.zero_le _, Nat.le_refl _, rfl, HN1.out, HB1.out⟩
    case round =>
      obtain ⟨k, L, hk, hL, rfl, hT, hB⟩ := hrel
      have HT := Lib.hid hT
      have HB := Lib.hid hB
      clear hT hB
      by_cases hlt : k < l.length
      · obtain ⟨b, o, rfl, hGb, hbl, hx⟩ := HA.out.cell_ hlt
        have c0 := (HB.out.cell (p := ⟨b, _, none⟩) hbl).trans (hx 0 _ rfl)
        have c1 := (HB.out.cell (p := ⟨b, _, none⟩) hbl).trans (hx 1 _ rfl)
        have c2 := (HB.out.cell (p := ⟨b, _, none⟩) hbl).trans (hx 2 _ rfl)
        have c3 := (HB.out.cell (p := ⟨b, _, none⟩) hbl).trans (hx 3 _ rfl)
        have c4 := (HB.out.cell (p := ⟨b, _, none⟩) hbl).trans (hx 4 _ rfl)
        have c5 := (HB.out.cell (p := ⟨b, _, none⟩) hbl).trans (hx 5 _ rfl)
        simp only [Nat.add_zero] at c0
        obtain ⟨o1, o2⟩ := HO.out l[k] (List.getElem_mem hlt)
        clear hx
        have hput := putT wr.drew (fun z => z < w.heap.size) (fun z hz => Nat.lt_of_lt_of_le hz HB.out.size) p L (HT.out.fresh ⟨rfl, rfl, rfl, Nat.le_refl _, fun _ _ => rfl⟩) l[k].ses l[k].seq o1 o2 l[k].o (by omega)
        have HP := Lib.hid hput
        clear hput
        go_wp2_with fail
        go_still_tail 16, (by kernel_rfl)
        change wpList _ _ _ _ _ wr.drew
        go_wp2_with fail
        refine HP.out.mono ?_
        rintro e w4 ⟨rfl, hT4, hK4⟩
        have hK4' : Keeps (fun z => ¬ z < w.heap.size) wr w4 := ⟨hK4.os, hK4.tape, hK4.output, hK4.size, hK4.block⟩
        have HT4 := Lib.hid hT4
        have HB4 := Lib.hid (HB.out.trans (below_not hK4' HB.out.size (fun z hz => hz)))
        clear hT4 hK4 hK4' c0 c1 c2 c3 c4 c5
        go_wp2_with fail
        go_roundw
        case rel => exact ⟨k + 1, _, hlt, Nat.le_trans (putL_len _ _ _ _) (by omega), by go_num, HT4.out, HB4.out⟩
        case measure => simp [Go.RowKit.intOf]; omega
      · have hkd : k = l.length := by omega
        subst hkd
        obtain ⟨wo, hwo⟩ : ∃ wo, wo = wr := ⟨_, rfl⟩
        subst hwo
        clear hlt
        have hTX := HT.out.more (X' := fun z => z < w.heap.size ∨ wo.heap.size ≤ z) (fun z hz => hz)
        go_wp2_with fail
        refine (sessT wo _ p L hTX (by omega)).mono ?_
        rintro e w2 ⟨v2, ks, rfl, hrk, hmk, hlk, hS2, hT2, hB2⟩
        obtain ⟨a2, c2, rfl, hc2, hd2⟩ := hS2.shape
        unfold maxLen at hd2
        have hT2' := hT2.more (X' := XTwo (fun z => z < w.heap.size) wo w2) (fun z hz => by rcases hz with e | e; exact .inl (.inl e); exact .inl (.inr e.1))
        have HT2 := Lib.hid hT2'
        have HS2 := Lib.hid (hS2.mono (F' := XTwo (fun z => z < w.heap.size) wo w2) (fun z hz hq => .inr ⟨hq, hz⟩))
        have HMK := Lib.hid hmk
        have HB2 := Lib.hid (HB.out.trans (hB2.mono HB.out.size))
        have hz2 := hB2.size
        clear hT2 hT2' hTX hS2 hmk hB2
        obtain ⟨X, hX⟩ : ∃ X, X = XTwo (fun z => z < w.heap.size) wo w2 := ⟨_, rfl⟩
        have hXl : ∀ z, X z → z < w2.heap.size := fun z hz => by
          rw [hX] at hz
          rcases hz with e | e
          · exact Nat.lt_of_lt_of_le e HB2.out.size
          · exact e.2
        have hXw : ∀ z, z < w.heap.size → X z := fun z hz => by rw [hX]; exact .inl hz
        rw [← hX] at HT2 HS2
        have HXL := Lib.hid hXl
        have HXW := Lib.hid hXw
        clear hX hXl hXw
        go_wp2_with fail
        go_loopw [7] (fun i wr => KeptRel X w2 p L ks.length i wr) (fun i _ => ks.length - (Go.RowKit.intOf i).toNat)
        case atStart => exact ⟨0, Nat.zero_le _, rfl, HT2.out, Keeps.refl _ _⟩
        case round =>
          obtain ⟨m, hm, rfl, hT3, hK3⟩ := hrel
          have HT3 := Lib.hid hT3
          have HK3 := Lib.hid hK3
          clear hT3 hK3
          by_cases hmt : m < ks.length
          · obtain ⟨b5, o5, rfl, hF5, hb5, hx5⟩ := HS2.out.cell_ hmt
            have x5 := (HK3.out.cell (a := ⟨b5, _, none⟩) hb5 (fun hn => hn hF5)).trans (hx5 0 _ rfl)
            simp only [Nat.add_zero, Nat.mul_one] at x5
            clear hx5
            have hes := (HMK.out ks[m]).1 (List.getElem_mem hmt)
            have hi5 : i64 ks[m] := by
              obtain ⟨e, he, hq⟩ := hes
              have := HT3.out.ok.ses e he
              unfold i64; omega
            have hTX := HT3.out.more (X' := fun z => X z ∨ wr.heap.size ≤ z) (fun z hz => hz)
            go_wp2_with fail
            refine (seqsT wr _ p L hTX (by omega) ks[m] hi5).mono ?_
            rintro e w4 ⟨v4, js, rfl, hrj, hmj, hlj, hS4, hT4, hB4⟩
            obtain ⟨a4, c4, rfl, hc4, hd4⟩ := hS4.shape
            unfold maxLen at hd4
            have HT4 := Lib.hid (hT4.more (X' := XTwo X wr w4) (fun z hz => by rcases hz with e | e; exact .inl (.inl e); exact .inl (.inr e.1)))
            have HS4 := Lib.hid (hS4.mono (F' := XTwo X wr w4) (fun z hz hq => .inr ⟨hq, hz⟩))
            have HB4 := Lib.hid hB4
            have hz4 := hB4.size
            have HZ3 := Lib.hid HK3.out.size
            obtain ⟨hj0, hjl, hx1, hf1, hl8, hgap, hlm, hin, hold, hkn⟩ := seqs_like HT3.out.ok hes hrj hmj
            have HRJ := Lib.hid hrj
            have HMJ := Lib.hid hmj
            have HIN := Lib.hid hin
            have HKN := Lib.hid hkn
            have HOLD := Lib.hid hold
            clear hTX hT4 hS4 hB4 hmj hrj hin hkn hold hes hlj
            obtain ⟨Y, hY⟩ : ∃ Y, Y = XTwo X wr w4 := ⟨_, rfl⟩
            have hYl : ∀ z, Y z → z < w4.heap.size := fun z hz => by
              rw [hY] at hz
              rcases hz with e | e
              · exact Nat.lt_of_lt_of_le (HXL.out z e) (Nat.le_trans HZ3.out hz4)
              · exact e.2
            have hYw : ∀ z, X z → Y z := fun z hz => by rw [hY]; exact .inl hz
            rw [← hY] at HT4 HS4
            have HYL := Lib.hid hYl
            have HYW := Lib.hid hYw
            clear hY hYl hYw
            obtain ⟨b6, o6, rfl, hF6, hb6, hx6⟩ := HS4.out.cell_ hj0
            obtain ⟨b6', o6', he6, _, _, hx7⟩ := HS4.out.cell_ hjl
            injection he6 with he6
            injection he6 with he6 he7
            subst he6 he7
            have g0 := hx6 0 _ rfl
            have g1 := hx7 0 _ rfl
            simp only [Nat.add_zero, Nat.mul_one] at g0 g1
            have x6 := (HB4.out.cell (p := ⟨b5, _, none⟩) (Nat.lt_of_lt_of_le hb5 HK3.out.size)).trans x5
            have HX5 := Lib.hid x5
            clear hx6 hx7 x5
            have hji : IntKind.i64.wrap ((js.length : Int) - 1) = ((js.length - 1 : Nat) : Int) := by rw [IntWalk.i64_in _ (by omega)]; omega
            have hw1 : IntKind.i64.wrap (js[js.length - 1] - js[0]) = js[js.length - 1] - js[0] := IntWalk.i64_in _ (by have := HIN.out _ (List.getElem_mem hjl); have := HIN.out _ (List.getElem_mem hj0); omega)
            have hw8 : IntKind.i64.wrap (js[js.length - 1] - 8) = js[js.length - 1] - 8 := IntWalk.i64_in _ (by have := HIN.out _ (List.getElem_mem hjl); omega)
            have d1 : decide ((js.length : Int) < 1) = false := by simp; omega
            have d2 : decide ((8 : Int) < (js.length : Int)) = false := by simp; omega
            have d3 : decide ((8 : Int) ≤ js[js.length - 1] - js[0]) = false := by simp; omega
            have d4 : decide (js[0] < 1) = false := by simp; omega
            have d5 : decide (ks[m] < 1) = false := by simp; omega
            go_wp2_with fail
            go_quiet (fail)
            go_wp2_with fail
            have HTW := HT4
            have HKX := Lib.hid (HK3.out.andThen (Keeps.of_fresh HB4.out (fun z => ¬ X z)) (fun z _ h => h))
            clear g0 x6 d1 d2 d3 d4 d5 hw1
            go_loopw [9] (fun i wr => KeptRel Y w4 p L js.length i wr) (fun i _ => js.length - (Go.RowKit.intOf i).toNat)
            case atStart => exact ⟨0, Nat.zero_le _, rfl, HTW.out.fresh ⟨rfl, rfl, rfl, Nat.le_refl _, fun _ _ => rfl⟩, ⟨rfl, rfl, rfl, Nat.le_refl _, fun _ _ _ => rfl⟩⟩
            case round =>
              obtain ⟨j, hj, rfl, hT7, hK7⟩ := hrel
              have HT7 := Lib.hid hT7
              have HK7 := Lib.hid hK7
              clear hT7 hK7
              obtain ⟨wv, hwv⟩ : ∃ wv, wv = wr := ⟨_, rfl⟩
              subst hwv
              have hz7 := HK7.out.size
              have hb5' : b5 < w4.heap.size := Nat.lt_of_lt_of_le hb5 (Nat.le_trans HZ3.out hz4)
              have x0 := (HK7.out.cell (a := ⟨b5, _, none⟩) hb5' (fun hn => hn (HYW.out _ hF5))).trans ((HB4.out.cell (p := ⟨b5, _, none⟩) (Nat.lt_of_lt_of_le hb5 HZ3.out)).trans HX5.out)
              by_cases hjt : j < js.length
              · obtain ⟨b8, o8, he8, _, _, hx8⟩ := HS4.out.cell_ hjt
                injection he8 with he8
                injection he8 with he8 he9
                subst he8 he9
                have x1 := (HK7.out.cell (a := ⟨b6, _, none⟩) hb6 (fun hn => hn hF6)).trans (hx8 0 _ rfl)
                simp only [Nat.add_zero, Nat.mul_one] at x1
                clear hx8
                have hiy : i64 js[j] := by have := HIN.out _ (List.getElem_mem hjt); unfold i64; omega
                go_upto_region 20 with (fail)
                go_cut [10, 11] (fun s10 s11 wx => LookCut wv Y p L (lookL L ks[m] js[j]) s10 s11 wx)
                case first =>
                  clear HA HO HN1 HB1 HT HT2 HMK HB2 HXL HXW HT3 HK3 HT4 HB4 HZ3 HRJ HMJ HIN HKN HOLD HYL HYW HX5 HTW HKX HK7 g1 hx1 hf1 hgap hlm hl8
                  have hnew0 := World.new_ne wv _ x0
                  have hnew1 := World.new_ne wv _ x1
                  have hbw0 := World.block_lt_of_cell? _ _ x0
                  have hbw1 := World.block_lt_of_cell? _ _ x1
                  have hWd : Below wv.heap.size wv wv.drew := ⟨rfl, rfl, rfl, Nat.le_refl _, fun _ _ => rfl⟩
                  have HN2 := Lib.hid HT7.out.fence
                  go_wp2_with fail
                  go_region_held3 (fun x => x.cell? ⟨b5, o5+m, none⟩ = some (.int .i64 ks[m]) ∧ x.cell? ⟨b6, o6+j, none⟩ = some (.int .i64 js[j]))
                    (first | exact ⟨by assumption, by assumption⟩ | go_keep)
                    (first
                      | (go_at_call 10
                         refine (lookT _ _ p _ (HN2.out.fresh (by first | exact hWd | exact hWd.alloc (Nat.le_refl _) _)) ks[m] js[j] hi5 hiy).mono ?_
                         rintro e w2 ⟨rfl, hT2, hB2⟩
                         have hz2 := hB2.size
                         have hB2' : Below wv.heap.size wv w2 := by
                           first
                           | exact hWd.trans hB2
                           | exact (hWd.alloc (Nat.le_refl _) _).trans (hB2.mono (by simp))
                         try
                           (have hblk := (Keeps.of_fresh hB2 (fun _ => False)).grownTo (heap_alloc_new wv.drew (.cells #[.int .i64 0, .int .i64 0, .int .i64 0, .int .i64 0] 27)) id
                            have q0 : w2.cell? ⟨wv.heap.size, 0, none⟩ = some (.int .i64 0) := cell_of_row w2 _ 0 _ _ _ hblk
                            have q1 : w2.cell? ⟨wv.heap.size, 1, none⟩ = some (.int .i64 0) := cell_of_row w2 _ 1 _ _ _ hblk
                            have q2 : w2.cell? ⟨wv.heap.size, 2, none⟩ = some (.int .i64 0) := cell_of_row w2 _ 2 _ _ _ hblk
                            have q3 : w2.cell? ⟨wv.heap.size, 3, none⟩ = some (.int .i64 0) := cell_of_row w2 _ 3 _ _ _ hblk
                            have f0 : w2.frozen? ⟨wv.heap.size, 0, none⟩ = false := frozen_block hblk 0
                            have f1 : w2.frozen? ⟨wv.heap.size, 1, none⟩ = false := frozen_block hblk 1
                            have f2 : w2.frozen? ⟨wv.heap.size, 2, none⟩ = false := frozen_block hblk 2
                            have f3 : w2.frozen? ⟨wv.heap.size, 3, none⟩ = false := frozen_block hblk 3
                            have HBLK := Lib.hid hblk
                            clear hblk)
                         have HT2 := Lib.hid hT2
                         have HB2 := Lib.hid hB2'
                         have y0 := (hB2'.cell (p := ⟨b5, o5+m, none⟩) hbw0).trans x0
                         have y1 := (hB2'.cell (p := ⟨b6, o6+j, none⟩) hbw1).trans x1
                         clear hT2 hB2 hB2'))
                  all_goals go_wp2_with fail
                  all_goals go_meet
                  · exact LookCut.new HB2.out HT2.out
                  · exact LookCut.old HB2.out HT2.out HBLK.out
                case rest =>
                  obtain ⟨g8, rfl, hs11, hg8, _, hB8, hT8⟩ := hcut
                  rw [(HMJ.out _).1 (List.getElem_mem hjt)] at hs11
                  subst hs11
                  have y0 := (hB8.cell (p := ⟨b5, _, none⟩) (Nat.lt_of_lt_of_le hb5' hz7)).trans x0
                  have y1 := (hB8.cell (p := ⟨b6, _, none⟩) (Nat.lt_of_lt_of_le hb6 hz7)).trans x1
                  have hput := putT wc.drew Y (fun z hz => Nat.lt_of_lt_of_le (HYL.out z hz) (Nat.le_trans hz7 hB8.size)) p L (hT8.fresh ⟨rfl, rfl, rfl, Nat.le_refl _, fun _ _ => rfl⟩) ks[m] js[j] hi5 hiy ⟨0, 0, 0, 0⟩ (by omega)
                  rw [HKN.out _ (List.getElem_mem hjt)] at hput
                  have HP := Lib.hid hput
                  have HB8 := Lib.hid hB8
                  clear hput hB8 hT8 x0 x1
                  go_wp2_with fail
                  refine region_mid 13 rfl (by kernel_rfl) (by kernel_rfl) ?_
                  simp only [List.take_succ_cons, List.take_zero, List.drop_succ_cons, List.drop_zero]
                  change wpStill _ _ wc.drew _ _ _
                  refine still_of_quiet ?_
                  repeat (go_big_quiet_step (fail))
                  refine wpQuiet_nil ?_
                  change wpList _ _ _ _ _ wc.drew
                  go_wp2_with fail
                  refine HP.out.mono ?_
                  rintro e w9 ⟨rfl, hT9, hK9⟩
                  have hK9' : Keeps (fun z => ¬ Y z) wc w9 := ⟨hK9.os, hK9.tape, hK9.output, hK9.size, hK9.block⟩
                  have HT9 := Lib.hid hT9
                  have HK9 := Lib.hid ((HK7.out.fresh HB8.out).trans hK9')
                  clear hT9 hK9 hK9' y0 y1
                  by_cases hjz : j = 0
                  · subst hjz
                    go_wp2_with fail
                    unfold Go.Bl.Rest
                    refine still_of_quiet ?_
                    repeat (go_big_quiet_step (fail))
                    refine wpQuiet_nil ?_
                    go_wp2_with fail
                    go_roundw
                    case rel => exact ⟨1, by omega, by go_num, HT9.out, HK9.out⟩
                    case measure => simp [Go.RowKit.intOf]; omega
                  · have hj1 : j - 1 < js.length := by omega
                    obtain ⟨b8, o8, he8, _, _, hx8⟩ := HS4.out.cell_ hjt
                    injection he8 with he8
                    injection he8 with he8 he9
                    subst he8 he9
                    obtain ⟨b9, o9, he9, _, _, hx9⟩ := HS4.out.cell_ hj1
                    injection he9 with he9
                    injection he9 with he9 he10
                    subst he9 he10
                    have z0 := (HK9.out.cell (a := ⟨b6, _, none⟩) hb6 (fun hn => hn hF6)).trans (hx8 0 _ rfl)
                    have z1 := (HK9.out.cell (a := ⟨b6, _, none⟩) hb6 (fun hn => hn hF6)).trans (hx9 0 _ rfl)
                    simp only [Nat.add_zero, Nat.mul_one] at z0 z1
                    clear hx8 hx9
                    have hris := List.pairwise_iff_getElem.1 HRJ.out (j - 1) j hj1 hjt (by omega)
                    have e3 : decide (js[j] ≤ js[j - 1]) = false := by simp; omega
                    have hjp : 0 < j := by omega
                    have hdp : decide (0 < j) = true := by simpa using hjp
                    have hjm : IntKind.i64.wrap ((j : Int) - 1) = ((j - 1 : Nat) : Int) := by rw [IntWalk.i64_in _ (by omega)]; omega
                    clear hjz
                    go_wp2_with fail
                    unfold Go.Bl.Rest
                    refine still_of_quiet ?_
                    repeat (go_big_quiet_step (fail))
                    refine wpQuiet_nil ?_
                    go_wp2_with fail
                    go_roundw
                    case rel => exact ⟨j + 1, hjt, by go_num, HT9.out, HK9.out⟩
                    case measure => simp [Go.RowKit.intOf]; omega
              · have hjd : j = js.length := by omega
                subst hjd
                have x1 := (HK7.out.cell (a := ⟨b6, _, none⟩) hb6 (fun hn => hn hF6)).trans g1
                have hiy : i64 (js[js.length - 1] - 8) := by have := HIN.out _ (List.getElem_mem hjl); unfold i64; omega
                go_upto_region 23 with (fail)
                go_cut [12, 13] (fun s12 s13 wx => LookCut wv Y p L (lookL L ks[m] (js[js.length - 1] - 8)) s12 s13 wx)
                case first =>
                  clear HA HO HN1 HB1 HT HT2 HMK HB2 HXL HXW HT3 HK3 HT4 HB4 HZ3 HRJ HMJ HIN HKN HOLD HYL HYW HX5 HTW HKX HK7 g1 hx1 hf1 hgap hlm hl8
                  have hnew0 := World.new_ne wv _ x0
                  have hnew1 := World.new_ne wv _ x1
                  have hbw0 := World.block_lt_of_cell? _ _ x0
                  have hbw1 := World.block_lt_of_cell? _ _ x1
                  have hWd : Below wv.heap.size wv wv.drew := ⟨rfl, rfl, rfl, Nat.le_refl _, fun _ _ => rfl⟩
                  have HN2 := Lib.hid HT7.out.fence
                  go_wp2_with fail
                  go_region_held3 (fun x => x.cell? ⟨b5, o5+m, none⟩ = some (.int .i64 ks[m]) ∧ x.cell? ⟨b6, o6+(js.length-1), none⟩ = some (.int .i64 js[js.length-1]))
                    (first | exact ⟨by assumption, by assumption⟩ | go_keep)
                    (first
                      | (go_at_call 10
                         refine (lookT _ _ p _ (HN2.out.fresh (by first | exact hWd | exact hWd.alloc (Nat.le_refl _) _)) ks[m] (js[js.length-1]-8) hi5 hiy).mono ?_
                         rintro e w2 ⟨rfl, hT2, hB2⟩
                         have hz2 := hB2.size
                         have hB2' : Below wv.heap.size wv w2 := by
                           first
                           | exact hWd.trans hB2
                           | exact (hWd.alloc (Nat.le_refl _) _).trans (hB2.mono (by simp))
                         try
                           (have hblk := (Keeps.of_fresh hB2 (fun _ => False)).grownTo (heap_alloc_new wv.drew (.cells #[.int .i64 0, .int .i64 0, .int .i64 0, .int .i64 0] 27)) id
                            have q0 : w2.cell? ⟨wv.heap.size, 0, none⟩ = some (.int .i64 0) := cell_of_row w2 _ 0 _ _ _ hblk
                            have q1 : w2.cell? ⟨wv.heap.size, 1, none⟩ = some (.int .i64 0) := cell_of_row w2 _ 1 _ _ _ hblk
                            have q2 : w2.cell? ⟨wv.heap.size, 2, none⟩ = some (.int .i64 0) := cell_of_row w2 _ 2 _ _ _ hblk
                            have q3 : w2.cell? ⟨wv.heap.size, 3, none⟩ = some (.int .i64 0) := cell_of_row w2 _ 3 _ _ _ hblk
                            have f0 : w2.frozen? ⟨wv.heap.size, 0, none⟩ = false := frozen_block hblk 0
                            have f1 : w2.frozen? ⟨wv.heap.size, 1, none⟩ = false := frozen_block hblk 1
                            have f2 : w2.frozen? ⟨wv.heap.size, 2, none⟩ = false := frozen_block hblk 2
                            have f3 : w2.frozen? ⟨wv.heap.size, 3, none⟩ = false := frozen_block hblk 3
                            have HBLK := Lib.hid hblk
                            clear hblk)
                         have HT2 := Lib.hid hT2
                         have HB2 := Lib.hid hB2'
                         have y0 := (hB2'.cell (p := ⟨b5, o5+m, none⟩) hbw0).trans x0
                         have y1 := (hB2'.cell (p := ⟨b6, o6+(js.length-1), none⟩) hbw1).trans x1
                         clear hT2 hB2 hB2'))
                  all_goals go_wp2_with fail
                  all_goals go_meet
                  · exact LookCut.new HB2.out HT2.out
                  · exact LookCut.old HB2.out HT2.out HBLK.out
                case rest =>
                  obtain ⟨g8, rfl, hs13, hg8, _, hB8, hT8⟩ := hcut
                  rw [HOLD.out] at hs13
                  subst hs13
                  have HT8 := Lib.hid hT8
                  have HB8 := Lib.hid hB8
                  clear hT8 hB8 x0 x1
                  go_wp2_with fail
                  go_roundw
                  case rel => exact ⟨m + 1, hmt, by go_num, HT8.out.more (fun z hz => .inl (HYW.out z hz)), HKX.out.andThen (HK7.out.fresh HB8.out) (fun z _ hn hX => hn (HYW.out z hX))⟩
                  case measure => simp [Go.RowKit.intOf]; omega
          · have hmd : m = ks.length := by omega
            subst hmd
            go_wp2_with fail
            go_ret
            exact ⟨rfl, HB2.out.trans ((HK3.out.mono fun z _ hn => hn).below HB2.out.size (fun z hn => Nat.le_of_not_lt fun hz => hn (HXW.out z hz)))⟩
  · have d80 : decide ((80 : Int) < (l.length : Int)) = true := by simp; omega
    go_wp2_with fail
    go_ret
    exact ⟨rfl, HB1.out⟩
end Go.Proofs.Ytdmpedcdnfjapaa
