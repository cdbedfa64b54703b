/- IndexCuts: what the statement's function does: it answers true, whatever the acts, the stream and the place. -/
import Derived.Test.YtkckiijnooncdaaIdxE
import Derived.StillTailTactics
namespace Go.Proofs.Ytkckiijnooncdaa
open Go.RowKit Go.Bl

def addAll (l : List Ac) : List One := l.flatMap fun a => a.evs.map (mkOne a.stream a.pos)
theorem addAll_snoc (l : List Ac) (a : Ac) : addAll (l ++ [a]) = addAll l ++ a.evs.map (mkOne a.stream a.pos) := by simp [addAll]
theorem addAll_le : ∀ (l : List Ac), l.all acOk = true → (addAll l).length ≤ l.length * 20
  | [], _ => by simp [addAll]
  | a :: l, h => by
    simp only [List.all_cons, Bool.and_eq_true, acOk, decide_eq_true_eq] at h
    have := addAll_le l h.2
    simp only [addAll, List.flatMap_cons, List.length_append, List.length_map, List.length_cons] at this ⊢
    omega

theorem heap_drew (w : World) : w.drew.heap = w.heap := rfl
theorem IdxAt.drew {w : World} {p : Nat} {L : List One} {F : Nat → Prop} (h : IdxAt w p L F) : IdxAt w.drew p L F := h.keep (G := fun _ => False) ((Keeps.refl _ _).drew) (fun _ _ => id)
theorem IdxAt.drewN {w : World} {p : Nat} {L : List One} {F : Nat → Prop} (h : IdxAt w p L F) (n : Nat) : IdxAt (w.drewN n) p L F := h.keep (G := fun _ => False) ((Keeps.refl _ _).drewN n) (fun _ _ => id)
theorem IdxAt.fp {w : World} {p : Nat} {L : List One} {F : Nat → Prop} (h : IdxAt w p L F) : F p := by
  obtain ⟨bm, V, n, h⟩ := h
  exact h.fp

theorem evc_one (x : Ev) (u : Value) (h : u ∈ evc x) : u.oneCell' = true := by
  simp only [evc, List.mem_cons, List.not_mem_nil, or_false] at h
  rcases h with rfl | rfl <;> rfl

set_option maxHeartbeats 1000000 in
theorem cuts_any (w : World) (G : Nat → Prop) (v : Value) (l : List Ac) (h : Acts w G v l) (hG : ∀ k, G k → k < w.heap.size) (s : ByteArray) (hs : s.size ≤ 140737488355328) (at_ : Int) :
    Calls Try.prog 3 #[v, .string s, .int .i64 at_] w fun e w' => e = .returned (.bool true) ∧ Below w.heap.size w w' := by
  obtain ⟨A, c, rfl, hA1, hA2⟩ := h.1.shape
  unfold maxLen at hA2
  have HA := Lib.hid h
  clear h
  go_enter Try.func3, Try.ntmps3
  go_wp2_with fail
  refine (shown_any w).mono ?_
  rintro e w1 ⟨rfl, hB1⟩
  have HB1 := Lib.hid hB1
  have HA1 := Lib.hid (HA.out.keep (Keeps.of_fresh hB1 (fun k => w.heap.size ≤ k)) (fun k hk _ hx => by omega))
  clear hB1
  go_wp2_with fail
  refine (small_any w1 G _ l HA1.out).mono ?_
  rintro e w2 ⟨rfl, q, rfl⟩
  go_wp2_with fail
  refine (new_any (w1.drewN q)).mono ?_
  rintro e w2 ⟨rfl, hI2, hB2⟩
  have HI2 := Lib.hid hI2
  have HB2 := Lib.hid (HB1.out.trans (Below.mono ((⟨rfl, rfl, rfl, Nat.le_refl _, fun _ _ => rfl⟩ : Below (w1.drewN q).heap.size w1 (w1.drewN q)).trans hB2) HB1.out.size))
  clear hI2 hB2
  cases hsm : smallB l
  · go_wp2_with fail
    go_ret
    exact ⟨rfl, HB2.out⟩
  · by_cases h300 : s.size ≤ 300
    · have hd : decide ((300 : Int) < (s.size : Int)) = false := by simp; omega
      have HSM := Lib.hid hsm
      go_wp2_with fail
      have h60 : l.length ≤ 60 ∧ l.all acOk = true := by simpa [smallB] using HSM.out
      have H60 := Lib.hid h60
      clear h60 hd
      have hw1 : w.heap.size ≤ w1.heap.size := HB1.out.size
      go_loopw [10] (fun i wr => ∃ k : Nat, k ≤ l.length ∧ i = .int .i64 k ∧ IdxAt wr (w1.heap.size + 1) (addAll (l.take k)) (fun q => w1.heap.size ≤ q ∧ q < wr.heap.size) ∧ Below w.heap.size w wr) (fun i _ => l.length - (intOf i).toNat)
      case atStart => exact ⟨0, Nat.zero_le _, rfl, HI2.out, HB2.out⟩
      case round =>
        obtain ⟨k, hk, rfl, hI, hB⟩ := hrel
        have HI := Lib.hid hI
        have HB := Lib.hid hB
        clear hI hB
        by_cases hlt : k < l.length
        · have hAr := HA.out.keep (Keeps.of_below HB.out) (fun k hk _ hx => by omega)
          have HAr := Lib.hid hAr
          obtain ⟨b, o, rfl, hGb, hbl, hxx⟩ := hAr.1.cell_ hlt
          obtain ⟨hev, hst, _⟩ := hAr.2 l[k] (List.getElem_mem hlt)
          obtain ⟨B, d, hevv, hB1, hB2⟩ := hev.shape
          have x0 := hxx 0 _ rfl
          have x3 := hxx 3 _ rfl
          have x4 := hxx 4 _ rfl
          rw [hevv] at x4 hev
          have HV := Lib.hid hev
          simp only [Nat.add_zero] at x0
          clear hxx hev hevv hAr
          go_wp2_with fail
          go_still_tail 16, (by kernel_rfl)
          change wpList _ _ _ _ _ wr.drew
          go_wp2_with fail
          refine (add_any wr.drew (w1.heap.size + 1) (addAll (l.take k)) (fun q => w1.heap.size ≤ q ∧ q < wr.heap.size) G HI.out.drew l[k].pos l[k].stream _ l[k].evs HV.out (fun q hq hx => by have := hG q hq; omega) (by unfold maxLen; omega) (by
            obtain ⟨q1, q2⟩ := H60.out
            have q3 := addAll_le (l.take k) (by rw [List.all_eq_true] at q2 ⊢; exact fun a ha => q2 a (List.mem_of_mem_take ha))
            have q4 : acOk l[k] = true := by rw [List.all_eq_true] at q2; exact q2 _ (List.getElem_mem hlt)
            simp only [acOk, Bool.and_eq_true, decide_eq_true_eq] at q4
            rw [List.length_take] at q3
            omega)).mono ?_
          rintro e w3 ⟨rfl, hK3, hI3⟩
          have hB3 : Below w.heap.size w w3 := Below.keep HB.out.drew hK3 HB.out.size (fun q hq => by omega)
          have hs3 := hK3.size
          have hs2 := HB.out.size
          rw [heap_drew] at hs3
          simp only [heap_drew] at hI3
          have hI3' : IdxAt w3 (w1.heap.size + 1) (addAll (l.take (k + 1))) (fun q => w1.heap.size ≤ q ∧ q < w3.heap.size) := by
            rw [List.take_succ_eq_append_getElem hlt, addAll_snoc]
            have hlow : w1.heap.size ≤ wr.heap.size := by have := HI.out.lt (w1.heap.size + 1) HI.out.fp; omega
            exact hI3.mono (fun q hq => by rcases hq with hq | hq <;> omega) (fun q hq => hq.2)
          have HI3 := Lib.hid hI3'
          have HB3 := Lib.hid hB3
          clear hI3 hI3' hB3 hK3 hs3
          go_wp2_with fail
          go_roundw
          case rel => exact ⟨k + 1, by omega, by go_num, HI3.out, HB3.out⟩
          case measure => simp [intOf]; omega
        · have hkd : k = l.length := by omega
          subst hkd
          have hlen : (addAll l).length ≤ 1200 := by
            obtain ⟨q1, q2⟩ := H60.out
            have := addAll_le l q2
            omega
          have hI := HI.out
          rw [List.take_of_length_le (Nat.le_refl _)] at hI
          have HI0 := Lib.hid hI
          clear hI HI HI2 HB2 HB1 HA1
          have hmx := @run_gmax Try.prog
          have hmn := @run_gmin Try.prog
          go_wp2_with fail
          refine (version_any wr _ _ _ HI0.out s (by unfold maxLen; omega)).mono ?_
          rintro e w3 ⟨he, rfl⟩
          have hSl := ofS_le (addAll l) s
          obtain ⟨S, hS⟩ : ∃ S, ofS (addAll l) s = S := ⟨_, rfl⟩
          rw [hS] at he hSl
          obtain ⟨N, hN⟩ : ∃ N, S.length = N := ⟨_, rfl⟩
          rw [hN] at he hSl
          subst he
          have HS := Lib.hid hS
          have HN := Lib.hid hN
          clear hS hN
          obtain ⟨K, hK⟩ : ∃ K : Nat, gmax 0 (gmin at_ (N : Int)) = (K : Int) := ⟨(gmax 0 (gmin at_ (N : Int))).toNat, by simp only [gmax_def, gmin_def]; omega⟩
          have hKN : K ≤ N := by simp only [gmax_def, gmin_def] at hK; omega
          go_wp2_with fail
          -- Range(stream, 1, k)
          refine (range_any wr _ _ _ HI0.out s (by unfold maxLen; omega) 1 K (by omega)).mono ?_
          rintro e w4 ⟨v4, rfl, hB4, hS4⟩
          rw [HS.out, show (max (1 : Int) 1 - 1).toNat = 0 from rfl, List.drop_zero, Int.toNat_natCast] at hS4
          have HI4 := Lib.hid (HI0.out.fresh hB4)
          have HB4 := Lib.hid (HB.out.trans (hB4.mono HB.out.size))
          have l4 : ((S.take K).map Kp.e).length = K := by have := HN.out; rw [List.length_map, List.length_take]; omega
          obtain ⟨A4, c4, rfl, _⟩ := hS4.shape_ l4
          have HS4 := Lib.hid hS4.bound
          have z4 := hB4.size
          clear hS4 hB4
          go_wp2_with fail
          -- Range(stream, k + 1, n)
          refine (range_any w4 _ _ _ HI4.out s (by unfold maxLen; omega) (K + 1) N (by omega)).mono ?_
          rintro e w5 ⟨v5, rfl, hB5, hS5⟩
          rw [HS.out, show (max ((K : Int) + 1) 1 - 1).toNat = K by omega, Int.toNat_natCast, List.take_of_length_le (by have := HN.out; rw [List.length_drop]; omega)] at hS5
          have HI5 := Lib.hid (HI4.out.fresh hB5)
          have HB5 := Lib.hid (HB4.out.trans (hB5.mono HB4.out.size))
          have HS45 := Lib.hid (HS4.out.fresh hB5)
          have l5 : ((S.drop K).map Kp.e).length = N - K := by have := HN.out; rw [List.length_map, List.length_drop]; omega
          obtain ⟨A5, c5, rfl, _⟩ := hS5.shape_ l5
          have HS5 := Lib.hid hS5.bound
          have z5 := hB5.size
          clear hS5 hB5 HI4 HI0 HB4 HB HS4
          have L4 := Lib.hid l4
          have L5 := Lib.hid l5
          clear l4 l5
          have t1 : (((N - K : Nat) : Int) == (N : Int) - (K : Int)) = true := by rw [beq_iff_eq]; omega
          obtain ⟨i0, hi0, hz0, hz1, hz2⟩ := info_parts infoEv
          have hb5 : w.heap.size ≤ w5.heap.size := HB5.out.size
          have hown5 := World.ownsRow_made (base := w.heap.size) (e := 41) (size := 2) w5 #[] 0 hb5 (Nat.zero_le _) rfl
          have Hown5 := Lib.hid hown5
          have hbz : w.heap.size ≤ (w5.alloc (.cells #[] 41)).heap.size := by rw [World.size_alloc]; omega
          have hx4 := HS45.out.fresh ((Below.refl _ _).alloc (Nat.le_refl _) (.cells #[] 41))
          have HX4 := Lib.hid hx4
          have hx5 := HS5.out.fresh ((Below.refl _ _).alloc (Nat.le_refl _) (.cells #[] 41))
          have HX5 := Lib.hid hx5
          clear hown5 hx4 hx5
          go_wp2_with (first
            | (have hx := hown6
               at_builtin
               refine wpList_append_sl _ (by rfl) (.tmp 94) (.tmp 95) 28 (by rfl) w.heap.size 41 i0 _ 2 32 Try.underlying28 hi0 hz0 hz1 hz2 rfl (by decide) v6 _ _ (by rfl) hx _ evc (fun _ => rfl) evc_one _ _ (by rfl)
                 (HX5.out.keep (Keeps.of_grown hg6) (fun q _ hq hr => by simp [Value.ownBlock] at hr; omega)) (by rw [L4.out, L5.out]; unfold maxLen; omega) (by rw [L4.out, L5.out]; omega) (Nat.le_trans hbz hg6.size) ?_
               intro v7 w7 hown7 hg7 hat7
               have Hown7 := Lib.hid hown7
               clear hown7 hown6 hx)
            | (at_builtin; refine wpList_append_sl _ (by rfl) (.tmp 92) (.tmp 93) 28 (by rfl) w.heap.size 41 i0 _ 2 32 Try.underlying28 hi0 hz0 hz1 hz2 rfl (by decide) _ 0 [] (by rfl) Hown5.out _ evc (fun _ => rfl) evc_one _ _ (by rfl) HX4.out (by rw [L4.out]; unfold maxLen; omega) (by rw [L4.out]; omega) hbz ?_; intro v6 w6 hown6 hg6 hat6; clear Hown5))
          have hb57 : Below w5.heap.size w5 w7 := ((((Below.refl _ w5).alloc (Nat.le_refl _) _).grown hg6 (by rw [World.size_alloc]; omega) (fun q hq => by simp [Value.ownBlock] at hq; omega)).grown hg7 (Nat.le_trans (by rw [World.size_alloc]; omega) hg6.size)
            (fun q hq => by rcases hat6 with e | e <;> rw [e] at hq <;> simp [Value.ownBlock] at hq <;> omega))
          have HI7 := Lib.hid (HI5.out.fresh hb57)
          have HB7 := Lib.hid (HB5.out.trans (hb57.mono hb5))
          have hrow7 : w7.ownsRow w.heap.size 41 2 v7 ((S.take K).map Kp.e ++ (S.drop K).map Kp.e).length (((S.take K).map Kp.e ++ (S.drop K).map Kp.e).flatMap evc) := by
            have := Hown7.out
            rw [List.length_append, List.flatMap_append]
            simpa using this
          have hcat : (S.take K).map Kp.e ++ (S.drop K).map Kp.e = S.map Kp.e := by rw [← List.map_append, List.take_append_drop]
          rw [hcat] at hrow7
          have HS7 := Lib.hid (Sl.of_own (enc := evc) (fun _ => rfl) hrow7)
          clear hrow7 hcat hg6 hg7 hat6 hat7 HI5 HB5 Hown7 HX4 HX5 HS45 HS5 L4 L5 hb57
          -- Range(stream, 1, n)
          refine (range_any w7 _ _ _ HI7.out s (by unfold maxLen; omega) 1 N (by omega)).mono ?_
          rintro e w8 ⟨v8, rfl, hB8, hS8⟩
          rw [HS.out, show (max (1 : Int) 1 - 1).toNat = 0 from rfl, List.drop_zero, Int.toNat_natCast, List.take_of_length_le (by rw [HN.out]; omega)] at hS8
          have HI8 := Lib.hid (HI7.out.fresh hB8)
          have HB8 := Lib.hid (HB7.out.trans (hB8.mono HB7.out.size))
          have hsame := same_any w8 _ _ v7 v8 _ _ (HS7.out.fresh hB8) hS8
          rw [decide_eq_true rfl] at hsame
          have Hsame := Lib.hid hsame
          clear hS8 hB8 HS7 hsame HI7 HB7
          go_wp2_with fail
          refine Hsame.out.mono ?_
          rintro e w9 ⟨rfl, q9, rfl⟩
          go_wp2_with fail
          -- Range(stream, n + 1, 5)
          refine (range_any (w8.drewN q9) _ _ _ (HI8.out.drewN q9) s (by unfold maxLen; omega) (N + 1) 5 (by omega)).mono ?_
          rintro e w10 ⟨v10, rfl, hB10, hS10⟩
          rw [HS.out, show (max ((N : Int) + 1) 1 - 1).toNat = N by omega, List.drop_eq_nil_of_le (by rw [HN.out]; omega)] at hS10
          have HI10 := Lib.hid ((HI8.out.drewN q9).fresh hB10)
          have HB10 := Lib.hid ((HB8.out.trans ⟨rfl, rfl, rfl, Nat.le_refl _, fun _ _ => rfl⟩ : Below w.heap.size w (w8.drewN q9)).trans (hB10.mono HB8.out.size))
          obtain ⟨A10, c10, rfl, _⟩ := hS10.shape_ (n := 0) rfl
          clear hS10 hB10 HI8 HB8 Hsame
          go_wp2_with fail
          -- Pos(stream, n + 1), Pos(stream, 0)
          refine (pos_any w10 _ _ _ HI10.out s (by unfold maxLen; omega) (N + 1) (by omega)).mono ?_
          rintro e w11 ⟨he, rfl⟩
          rw [HS.out, show posOf S ((N : Int) + 1) = 0 by unfold posOf; rw [if_pos (by rw [HN.out]; omega)]] at he
          subst he
          go_wp2_with fail
          refine (pos_any w10 _ _ _ HI10.out s (by unfold maxLen; omega) 0 (by omega)).mono ?_
          rintro e w11 ⟨he, rfl⟩
          rw [HS.out, show posOf S 0 = 0 by unfold posOf; rw [if_pos (by omega)]] at he
          subst he
          go_wp2_with fail
          go_ret
          exact ⟨rfl, HB10.out⟩
    · have hd : decide ((300 : Int) < (s.size : Int)) = true := by simp; omega
      go_wp2_with fail
      go_ret
      exact ⟨rfl, HB2.out⟩
end Go.Proofs.Ytkckiijnooncdaa
